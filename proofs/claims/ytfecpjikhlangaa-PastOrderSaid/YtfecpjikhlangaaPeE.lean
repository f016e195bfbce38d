/- The plain operations: what each of the machine's operations makes of plain values. No condition. -/
import Derived.Test.YtfecpjikhlangaaPeD
import Derived.Laws.Entries
namespace Go.Pe

def szOk (P : Program) (e : TypeId) : Bool := !Nat.beq (P.cellsOf e) 0
def isAggT (P : Program) (t : TypeId) : Bool := match P.underlying t with
  | some (.struct _) | some (.array _ _) => true
  | _ => false
def tyOk (P : Program) (t : TypeId) : Bool := (P.underlying t).isSome
def shOf (P : Program) : Nat → TypeId → Sh
  | 0, _ => .any
  | d + 1, t => match P.underlying t with
    | some (.int k) => .int k
    | some .bool => .bool
    | some .string => .str
    | some (.struct fs) => .st (P.cellsOf t) (fs.toList.map fun f => shOf P d f.type)
    | some (.array n e) => (match P.underlying e with
      | some (.int k) => .iarr k n
      | _ => .parr (P.cellsOf e) n (shOf P d e))
    | some (.slice e) => .vec (P.cellsOf e) (shOf P d e)
    | _ => .any
def emptyArr (P : Program) (e : TypeId) : PV := match P.underlying e with
  | some (.int k) => .iarr k 0 []
  | _ => .parr (P.cellsOf e) 0 (shOf P 8 e) []
def zeroPV (P : Program) : Nat → TypeId → PV
  | 0, _ => .undef
  | d + 1, t => match P.underlying t with
    | some (.int k) => .int k 0
    | some .bool => .bool false
    | some .string => .str .empty
    | some (.struct fs) => .st (P.cellsOf t) (fs.toList.map fun f => zeroPV P d f.type)
    | some (.array n e) => (match P.underlying e with
      | some (.int k) => .iarr k n (List.replicate n 0)
      | _ => .parr (P.cellsOf e) n (shOf P 8 e) (List.replicate n (zeroPV P d e)))
    | some (.pointer _) => .nilp
    | some (.slice e) => .vec true (emptyArr P e)
    | _ => .undef

/-- A leaf that a machine's value is, in whatever memory. -/
def leafIs : PV → Value → Bool
  | .int k n, .int k' n' => IntKind.same k k' && decide (n = n')
  | .bool b, .bool b' => b == b'
  | .str s, .string s' => Nat.beq s.size 0 && Nat.beq s'.size 0
  | .nilp, .pointer none => true
  | .vec nl c, .slice none 0 0 => nl && Nat.beq (arrLen c) 0
  | .undef, v => v.oneCell'
  | _, _ => false
def leavesAre : List PV → List Value → Bool
  | [], [] => true
  | q :: l, v :: m => leafIs q v && leavesAre l m
  | _, _ => false
/- Well-formedness, decided (for values laid open). -/
mutual
def wfB : PV → Bool
  | .int k n => decide (k.wrap n = n)
  | .st n fs => Nat.beq (sizeL fs) n && wfBL fs
  | .iarr k n l => Nat.beq l.length n && l.all fun x => decide (k.wrap x = x)
  | .parr s n sh l => Nat.beq l.length n && wfBL l && l.all fun q => Nat.beq (size q) s && conf sh q && noref q
  | .vec nl c => wfB c && isArr c && (!nl || Nat.beq (arrLen c) 0)
  | .tup _ | .cptr .. => false
  | _ => true
termination_by structural p => p
def wfBL : List PV → Bool
  | [] => true
  | p :: l => wfB p && wfBL l
termination_by structural l => l
end
def isTup : PV → Bool | .tup _ => true | _ => false
def isUndef : PV → Bool | .undef => true | _ => false
def good (v : PV) : Bool := !isTup v && !isUndef v
def zeroOf (P : Program) (t : TypeId) : Option PV :=
  match (P.info? t).bind (·.zero) with
  | some v => if leavesAre (flat (zeroPV P 9 t)) v.cells.toList && wfB (zeroPV P 9 t) && Nat.beq (size (zeroPV P 9 t)) (P.cellsOf t) && good (zeroPV P 9 t) then some (zeroPV P 9 t) else none
  | none => none
def nilOf (P : Program) (t : TypeId) : PV := match P.underlying t with
  | some (.slice e) => .vec true (emptyArr P e)
  | _ => .vec true (.parr 0 0 .any [])

def constPV (P : Program) (t : TypeId) : Value → PV
  | .int k n => if decide (k.wrap n = n) then .int k n else .undef
  | .bool b => .bool b
  | .string s => if Nat.ble s.size maxLen then .str s else .undef
  | .pointer none => .nilp
  | .slice none 0 0 => nilOf P t
  | _ => .undef
def evO (P : Program) (G : Nat → Option PV) (t : TypeId) (fr : Nat → PV) : Operand → PV
  | .tmp i => fr i
  | .const v => constPV P t v
  | .global g => match G g with
    | some c => .cptr c []
    | none => .undef
  | .func _ => .undef

inductive Ans where
  | none
  | emp
  | dec (b : Bool)
  | val (p : PV)
  | ups (u : List (Nat × Option Row))
  | vu (p : PV) (u : List (Nat × Option Row))
  | call (keep : Bool) (inv : List (Nat × Nat)) (hout : List (Nat × Row)) (res : PV)
  | calla (keep : Bool) (inv : List (Nat × Nat)) (hin : List (Nat × Row)) (args : List PV) (hout : List (Nat × Row)) (res : PV)

inductive Pr where
  | fail
  | ret (v : PV) (ups : List (Nat × Option Row)) (ob : List Prop)
  | read (id : Nat) (k : Row → Pr)

def Pr.run (hp : Hp) : Pr → Option (PV × List (Nat × Option Row) × List Prop × List Nat)
  | .fail => none
  | .ret v ups ob => some (v, ups, ob, [])
  | .read id k => match hp id with
    | some r => ((k r).run hp).map fun x => (x.1, x.2.1, x.2.2.1, id :: x.2.2.2)
    | none => none
def applyUps (hp : Hp) : List (Nat × Option Row) → Hp
  | [] => hp
  | u :: l => applyUps (upd hp u.1 u.2) l
def Pr.dec (d : Bool) : Pr → Pr
  | .ret (.bool b) u o => .ret (.bool d) u ((b = d) :: o)
  | .ret _ _ _ => .fail
  | .fail => .fail
  | .read id k => .read id fun r => (k r).dec d
def Pr.need (p : List Prop) : Pr → Pr
  | .ret v u o => .ret v u (p ++ o)
  | .fail => .fail
  | .read id k => .read id fun r => (k r).need p

/- ints -/
def arith (op : BinOp) (k : IntKind) (x y : Int) : Pr := match op with
  | .add => .ret (.int k (k.wrap (x + y))) [] []
  | .sub => .ret (.int k (k.wrap (x - y))) [] []
  | .mul => .ret (.int k (k.wrap (x * y))) [] []
  | .quo => .ret (.int k (k.wrap (x.tdiv y))) [] [y ≠ 0]
  | .rem => .ret (.int k (x.tmod y)) [] [y ≠ 0]
  | .and => .ret (.int k (bits .and k x y)) [] []
  | .or => .ret (.int k (bits .or k x y)) [] []
  | .xor => .ret (.int k (bits .xor k x y)) [] []
  | .andNot => .ret (.int k (bits .andNot k x y)) [] []
  | .eql => .ret (.bool (x == y)) [] []
  | .neq => .ret (.bool (x != y)) [] []
  | .lss => .ret (.bool (decide (x < y))) [] []
  | .leq => .ret (.bool (decide (x ≤ y))) [] []
  | .gtr => .ret (.bool (decide (x > y))) [] []
  | .geq => .ret (.bool (decide (x ≥ y))) [] []
  | _ => .fail
def shiftP (op : BinOp) (k : IntKind) (x y : Int) : Pr := match op with
  | .shl => .ret (.int k (k.wrap (x * 2 ^ (min y.toNat k.bits)))) [] [0 ≤ y]
  | .shr => .ret (.int k (x.fdiv (2 ^ (min y.toNat k.bits)))) [] [0 ≤ y]
  | _ => .fail
def strP (op : BinOp) (x y : ByteArray) : Pr := match op with
  | .add => .ret (.str (x ++ y)) [] [x.size + y.size ≤ maxLen]
  | .eql => .ret (.bool (x.toList == y.toList)) [] []
  | .neq => .ret (.bool (!(x.toList == y.toList))) [] []
  | .lss => .ret (.bool (Op.bytesLess x.toList y.toList)) [] []
  | .leq => .ret (.bool (Op.bytesLess x.toList y.toList || x.toList == y.toList)) [] []
  | .gtr => .ret (.bool (!(Op.bytesLess x.toList y.toList || x.toList == y.toList))) [] []
  | .geq => .ret (.bool (!Op.bytesLess x.toList y.toList)) [] []
  | _ => .fail
def isShift : BinOp → Bool | .shl | .shr => true | _ => false
def isBoolT (P : Program) (t : TypeId) : Bool := match P.underlying t with | some .bool => true | _ => false
/- == on structs and arrays -/
def partOk (P : Program) (t : TypeId) (p : PV) : Bool := Nat.beq (P.cellsOf t) (size p) && (isAggT P t == isAgg p) && !isTup p && tyOk P t
def eqF (P : Program) (rec : TypeId → PV → PV → Option Bool) : Nat → List Field → List PV → List PV → Option Bool
  | _, [], [], [] => some true
  | o, f :: fs, p :: ps, q :: qs => if Nat.beq f.offset o && partOk P f.type p && partOk P f.type q && Nat.beq (size q) (size p) && !(f.name == "_") then (match rec f.type p q with
    | some x => (match eqF P rec (o + size p) fs ps qs with
      | some y => some (x && y)
      | none => none)
    | none => none) else none
  | _, _, _, _ => none
def eqT (P : Program) : Nat → TypeId → PV → PV → Option Bool
  | 0, _, _, _ => none
  | d + 1, t, p, q => match P.underlying t, p, q with
    | some .bool, .bool x, .bool y => some (x == y)
    | some (.int _), .int k x, .int k' y => if IntKind.same k k' then some (x == y) else none
    | some .string, .str x, .str y => some (x.toList == y.toList)
    | some (.struct fs), .st _ ps, .st _ qs => if P.stoodInHeld t then none else eqF P (eqT P d) 0 fs.toList ps qs
    | some (.array n e), .iarr k m l, .iarr k' m' l' => (match P.underlying e with
      | some (.int _) => if IntKind.same k k' && Nat.beq n m && Nat.beq n m' && Nat.beq (P.cellsOf e) 1 then some (decide (l = l')) else none
      | _ => none)
    | _, _, _ => none
def eqAgg (P : Program) (xT : TypeId) (op : BinOp) (a b : PV) : Pr := if P.eqGuardType P.depth xT then .fail else match eqT P 16 xT a b with
  | some r => (match op with
    | .eql => .ret (.bool r) [] []
    | .neq => .ret (.bool (!r)) [] []
    | _ => .fail)
  | none => .fail
def binP (P : Program) (xT : TypeId) (op : BinOp) (a b : PV) : Pr := match a, b with
  | .int k x, .int k' y => if isShift op then shiftP op k x y else if IntKind.same k k' then arith op k x y else .fail
  | .bool x, .bool y => if isBoolT P xT then (match op with
    | .eql => .ret (.bool (x == y)) [] []
    | .neq => .ret (.bool (!(x == y))) [] []
    | _ => .fail) else .fail
  | .str x, .str y => strP op x y
  | _, _ => .fail
def binQ (P : Program) (xT : TypeId) (op : BinOp) (a b : PV) : Pr := if isAgg a && isAgg b then eqAgg P xT op a b else binP P xT op a b
def unP (op : UnOp) (a : PV) : Pr := match op, a with
  | .neg, .int k n => .ret (.int k (k.wrap (0 - n))) [] []
  | .xor, .int k n => .ret (.int k (bits .xor k (if k.signed then -1 else k.max) n)) [] []
  | .not, .bool b => .ret (.bool (!b)) [] []
  | _, _ => .fail

/- parts of arrays -/
def drop0 {α : Type} (l : List α) : Nat → List α
  | 0 => l
  | a + 1 => l.drop (a + 1)
def sub (c : PV) (a n : Nat) : PV := match c with
  | .iarr k _ l => .iarr k n ((drop0 l a).take n)
  | .parr s _ sh l => .parr s n sh ((drop0 l a).take n)
  | _ => .undef

def stepIn (c : PV) : Stp → Bool
  | .fld _ _ => true
  | .idx i _ => Nat.blt i (arrLen c)
def fillP (c : PV) (place : Nat → Option (Stp × Nat)) : List (Nat × PV) → Option PV
  | [] => some c
  | x :: r => match place x.1 with
    | some (s, n) => if Nat.beq (size x.2) n && good x.2 && stepIn c s then (setNode x.2 c [s]).bind fun c' => fillP c' place r else none
    | none => none
def evParts (ev : Operand → PV) : List (Nat × Operand) → List (Nat × PV)
  | [] => []
  | x :: r => (x.1, ev x.2) :: evParts ev r
def infosOk (P : Program) (l : List Field) : Bool := l.all fun f => (P.info? f.type).isSome
def buildP (P : Program) (t : TypeId) (parts : List (Nat × PV)) : Option PV := match zeroOf P t with
  | some z => if !isAgg z then none else (match P.underlying t with
    | some (.struct fs) => if !infosOk P fs.toList then none else fillP z (fun i => (fs[i]?).map fun f => (.fld i f.offset, P.cellsOf f.type)) parts
    | some (.array _ e) => if !szOk P e then none else fillP z (fun i => some (.idx i (P.cellsOf e), P.cellsOf e)) parts
    | _ => none)
  | none => none
def rowZ (P : Program) (e : TypeId) (n : Nat) (z : PV) : PV := match P.underlying e with
  | some (.int k) => .iarr k n (List.replicate n 0)
  | _ => .parr (P.cellsOf e) n (shOf P 8 e) (List.replicate n z)
def rowZero (P : Program) (e : TypeId) (n : Nat) : Option PV := match zeroOf P e with
  | some z => if wfB (rowZ P e n z) && Nat.beq (size (rowZ P e n z)) (n * P.cellsOf e) then some (rowZ P e n z) else none
  | none => none
def buildSliceP (P : Program) (t : TypeId) (n : Nat) (parts : List (Nat × PV)) (k : Nat) : Pr := match P.underlying t with
  | some (.slice e) => if Nat.ble (n * P.cellsOf e) 16777216 && szOk P e then (match rowZero P e n with
    | some c => (match fillP c (fun i => some (.idx i (P.cellsOf e), P.cellsOf e)) parts with
      | some c' => .ret (.ref k [] (P.cellsOf e) 0 n) [(k, some ⟨c', false⟩)] []
      | none => .fail)
    | none => .fail) else .fail
  | _ => .fail

def loadP (P : Program) (t : TypeId) (c : PV) (path : List Stp) : Pr :=
  match node c path with
  | some q => if Nat.beq (P.cellsOf t) (size q) && (isAggT P t == isAgg q) && !isTup q && tyOk P t then .ret q [] (pathOb c path) else .fail
  | none => .fail
def storeP (P : Program) (t : TypeId) (id : Nat) (path : List Stp) (v : PV) : Pr := .read id fun r =>
  if r.frz then .fail else match setNode v r.c path with
    | some c' => if Nat.beq (P.cellsOf t) (size v) && tyOk P t && good v then .ret .undef [(id, some ⟨c', false⟩)] (pathOb r.c path) else .fail
    | none => .fail
def bytesOf (b : ByteArray) : List Int := b.data.toList.map fun x => (x.toNat : Int)
def convP (P : Program) (s d : TypeId) (x : PV) (k : Nat) : Pr := match P.underlying s, P.underlying d, x with
  | _, some (.int k'), .int _ n => .ret (.int k' (k'.wrap n)) [] []
  | _, some .string, .str b => .ret (.str b) [] []
  | _, some (.slice e), .str b => (match P.underlying e with
    | some (.int .u8) => .ret (.ref k [] 1 0 b.size) [(k, some ⟨.iarr .u8 b.size (bytesOf b), false⟩)] []
    | _ => .fail)
  | _, _, _ => .fail
def strOf (l : List Int) : ByteArray := ⟨(l.map fun n => UInt8.ofNat n.toNat).toArray⟩
def bytesP (c : PV) : Pr := match c with
  | .iarr .u8 _ l => .ret (.str (strOf l)) [] []
  | _ => .fail

def intOr (d : Int) : Option PV → Option Int
  | none => some d
  | some (.int _ n) => some n
  | some _ => none
/-- x[lo:hi] -/
def sliceP (P : Program) (t : TypeId) (x : PV) (lo hi : Option PV) : Pr := match intOr 0 lo with
  | none => .fail
  | some l => match P.underlying t, x with
    | some .string, .str s => (match intOr s.size hi with
      | some h => .ret (.str (s.extract l.toNat h.toNat)) [] [0 ≤ l, l ≤ h, h ≤ s.size]
      | none => .fail)
    | some (.slice e), .vec nl c => (match intOr (arrLen c) hi with
      | some h => if Nat.beq (P.cellsOf e) (elSize c) && szOk P e then .ret (.vec nl (sub c l.toNat (h - l).toNat)) [] [0 ≤ l, l ≤ h, h ≤ arrLen c] else .fail
      | none => .fail)
    | some (.slice e), .ref id path s off n => (match intOr n hi with
      | some h => if Nat.beq (P.cellsOf e) s && szOk P e then .ret (.ref id path s (off + l.toNat) (h - l).toNat) [] [0 ≤ l, l ≤ h, h ≤ n] else .fail
      | none => .fail)
    | some (.array n e), .at id path => (match intOr n hi with
      | some h => .read id fun r => (match node r.c path with
        | some q => if Nat.beq (size q) (n * P.cellsOf e) && szOk P e && Nat.ble n maxLen then .ret (.ref id path (P.cellsOf e) l.toNat (h - l).toNat) [] ([0 ≤ l, l ≤ h, h ≤ n] ++ pathOb r.c path) else .fail
        | none => .fail)
      | none => .fail)
    | _, _ => .fail
def fieldP (P : Program) (t : TypeId) (x : PV) (i : Nat) : Pr := match P.underlying t with
  | some (.struct fs) => (match fs[i]?, x with
    | some f, .st _ ps => (match ps[i]? with
      | some q => if Nat.beq (sizeL (ps.take i)) f.offset && Nat.beq (P.cellsOf f.type) (size q) && (isAggT P f.type == isAgg q) && !isTup q && tyOk P f.type then .ret q [] [] else .fail
      | none => .fail)
    | _, _ => .fail)
  | _ => .fail
def fieldAddrP (P : Program) (t : TypeId) (x : PV) (i : Nat) : Pr := match P.underlying t with
  | some (.struct fs) => (match fs[i]? with
    | some f => if Nat.beq (P.cellsOf f.type) 0 then .fail else (match x with
      | .at id path => .ret (.at id (path ++ [.fld i f.offset])) [] []
      | .cptr c path => .ret (.cptr c (path ++ [.fld i f.offset])) [] []
      | _ => .fail)
    | none => .fail)
  | _ => .fail
def indexAddrP (P : Program) (t : TypeId) (x : PV) (ix : PV) : Pr := match ix with
  | .int _ i => (match P.underlying t, x with
    | some (.array n e), .at id path => if szOk P e then .ret (.at id (path ++ [.idx i.toNat (P.cellsOf e)])) [] [0 ≤ i, i < n] else .fail
    | some (.array n e), .cptr c path => if szOk P e then .ret (.cptr c (path ++ [.idx i.toNat (P.cellsOf e)])) [] [0 ≤ i, i < n] else .fail
    | some (.slice e), .vec _ c => if Nat.beq (P.cellsOf e) (elSize c) && szOk P e then .ret (.cptr c [.idx i.toNat (P.cellsOf e)]) [] [0 ≤ i, i < arrLen c] else .fail
    | some (.slice e), .ref id path s off n => if Nat.beq (P.cellsOf e) s && szOk P e then .ret (.at id (path ++ [.idx (off + i.toNat) s])) [] [0 ≤ i, i < n] else .fail
    | _, _ => .fail)
  | _ => .fail
def byteAt (s : ByteArray) (i : Int) : Int := ((s.data.getD i.toNat 0).toNat : Int)
def indexP (P : Program) (t : TypeId) (x : PV) (ix : PV) : Pr := match ix with
  | .int _ i => (match P.underlying t, x with
    | some (.array n e), c => if isArr c then (match child c (.idx i.toNat (P.cellsOf e)) with
      | some q => if Nat.beq (P.cellsOf e) (size q) && (isAggT P e == isAgg q) && Nat.beq n (arrLen c) && !isTup q && tyOk P e then .ret q [] [0 ≤ i, i < n] else .fail
      | none => .fail) else .fail
    | some .string, .str s => .ret (.int .u8 (byteAt s i)) [] [0 ≤ i, i < s.size]
    | _, _ => .fail)
  | _ => .fail
def lenP (P : Program) (t : TypeId) (x : PV) : Pr := match P.underlying t, x with
  | some .string, .str s => .ret (.int .i64 s.size) [] []
  | some (.array n _), _ => if Nat.ble n maxLen then .ret (.int .i64 n) [] [] else .fail
  | some (.slice _), .vec _ c => .ret (.int .i64 (arrLen c)) [] []
  | some (.slice _), .ref _ _ _ _ n => .ret (.int .i64 n) [] []
  | _, _ => .fail
def mx (x y : Int) : Int := if y > x then y else x
def mn (x y : Int) : Int := if y < x then y else x
def foldInt (f : Int → Int → Int) (k : IntKind) (x : Int) : List PV → Option Int
  | [] => some x
  | .int k' y :: r => if IntKind.same k k' then foldInt f k (f x y) r else none
  | _ => none
def maxP (f : Int → Int → Int) : List PV → Pr
  | .int k x :: r => (match foldInt f k x r with
    | some m => .ret (.int k m) [] []
    | none => .fail)
  | _ => .fail
/-- The elements of what is appended. -/
def joinArr (c d : PV) : Option PV := match c, d with
  | .iarr k n l, .iarr k' m l' => if IntKind.same k k' then some (.iarr k (n + m) (l ++ l')) else none
  | .parr s n sh l, .parr s' m sh' l' => if Nat.beq s s' && Sh.beq sh sh' then some (.parr s (n + m) sh (l ++ l')) else none
  | _, _ => none
def roomOb (P : Program) (e : TypeId) (n : Nat) : List Prop := [n * P.bytesOf e ≤ 140737488355328, n ≤ maxLen]
/-- append(s, x): s a slice to the end of its row, or nil; d: the elements of x. -/
def appendTo (P : Program) (e : TypeId) (s d : PV) (k : Nat) (emp : Bool) : Pr := match s with
  | .vec true c => if emp then (if szOk P e && Nat.beq (P.cellsOf e) (elSize d) then .ret (.vec true c) [] [arrLen c = 0, arrLen d = 0] else .fail) else if Nat.beq (P.cellsOf e) (elSize d) && Nat.beq (arrLen c) 0 && szOk P e && (zeroOf P e).isSome then
      .ret (.ref k [] (P.cellsOf e) 0 (arrLen d)) [(k, some ⟨d, false⟩)] ([0 < arrLen d] ++ roomOb P e (arrLen d)) else .fail
  | .ref id [] sz off n => .read id fun r => if r.frz || !isArr r.c || !Nat.beq (P.cellsOf e) sz || !Nat.beq sz (elSize r.c) || !szOk P e || !(zeroOf P e).isSome then .fail else
      (match joinArr (sub r.c off n) d with
      | some c' => .ret (.ref k [] sz 0 (n + arrLen d)) [(id, none), (k, some ⟨c', false⟩)] ([off + n = arrLen r.c] ++ roomOb P e (n + arrLen d))
      | none => .fail)
  | _ => .fail
def elemsOf (x : PV) (K : PV → Pr) : Pr := match x with
  | .vec _ c => K c
  | .ref id path sz off n => .read id fun r => (match node r.c path with
    | some q => if isArr q && Nat.beq sz (elSize q) then (K (sub q off n)).need ([off + n ≤ arrLen q] ++ pathOb r.c path) else .fail
    | none => .fail)
  | .str s => K (.iarr .u8 s.size (bytesOf s))
  | _ => .fail
def isSrcT (P : Program) (t : TypeId) : Bool := match P.underlying t with
  | some (.slice _) | some .string => true
  | _ => false
def appendP (P : Program) (t t2 : TypeId) (s x : PV) (k : Nat) (emp : Bool) : Pr := match P.underlying t with
  | some (.slice e) => if isSrcT P t2 then elemsOf x fun d => appendTo P e s d k emp else .fail
  | _ => .fail
def nilCmp (op : BinOp) (a b : PV) : Option Bool := match op, a, b with
  | .eql, .vec nl _, .vec true _ => some nl
  | .eql, .ref .., .vec true _ => some false
  | .eql, .at .., .nilp | .eql, .cptr .., .nilp => some false
  | .eql, .nilp, .nilp => some true
  | .neq, .vec nl _, .vec true _ => some (!nl)
  | .neq, .ref .., .vec true _ => some true
  | .neq, .at .., .nilp | .neq, .cptr .., .nilp => some true
  | .neq, .nilp, .nilp => some false
  | _, _, _ => none
def nilT (P : Program) (t : TypeId) (x : PV) : Bool := match P.underlying t, x with
  | some (.slice _), .vec .. | some (.slice _), .ref .. | some (.pointer _), .at .. | some (.pointer _), .cptr .. | some (.pointer _), .nilp => true
  | _, _ => false
def sizes (c : Call) (n : Nat) : Bool := Nat.beq c.args.size n && Nat.beq c.argTypes.size n

/- make, copy -/
def rowOk (P : Program) (e : TypeId) (z : PV) : Bool := match P.underlying e with
  | some (.int k) => (match z with
    | .int k' x => IntKind.same k k' && decide (x = 0)
    | _ => false)
  | _ => Nat.beq (size z) (P.cellsOf e) && conf (shOf P 8 e) z && noref z
def makeP (P : Program) (t : TypeId) (l c : PV) (k : Nat) : Pr := match P.underlying t, l, c with
  | some (.slice e), .int _ n, .int _ m => (match zeroOf P e with
    | some z => if szOk P e && rowOk P e z then .ret (.ref k [] (P.cellsOf e) 0 n.toNat) [(k, some ⟨rowZ P e n.toNat z, false⟩)] [0 ≤ n, n ≤ m, m ≤ 9223372036854775807, (P.bytesOf e : Int) * m ≤ 140737488355328] else .fail
    | none => .fail)
  | _, _, _ => .fail
def spl {α : Type} (l : List α) (off : Nat) (x : List α) : List α := l.take off ++ (x ++ l.drop (off + x.length))
def mnN (a b : Nat) : Nat := if Nat.ble a b then a else b
def splArr (q : PV) (off : Nat) (d : PV) : Option PV := match q, d with
  | .iarr k n l, .iarr k' _ l' => if IntKind.same k k' then some (.iarr k n (spl l off l')) else none
  | .parr s n sh l, .parr s' _ sh' l' => if Nat.beq s s' && Sh.beq sh sh' then some (.parr s n sh (spl l off l')) else none
  | _, _ => none
def copyP (P : Program) (t1 t2 : TypeId) (d x : PV) : Pr := match P.underlying t1 with
  | some (.slice e) => if isSrcT P t2 && szOk P e then elemsOf x fun src => match d with
    | .vec _ c => if Nat.beq (elSize src) (P.cellsOf e) then .ret (.int .i64 0) [] [arrLen c = 0] else .fail
    | .ref id path sz off n => .read id fun r => if r.frz then .fail else match node r.c path with
      | some q => if isArr q && Nat.beq sz (elSize q) && Nat.beq sz (P.cellsOf e) && Nat.beq (elSize src) sz then (match splArr q off (sub src 0 (mnN (arrLen src) n)) with
        | some q' => (match setNode q' r.c path with
          | some c' => .ret (.int .i64 (mnN (arrLen src) n)) [(id, some ⟨c', false⟩)] ([off + n ≤ arrLen q] ++ pathOb r.c path)
          | none => .fail)
        | none => .fail) else .fail
      | none => .fail
    | _ => .fail else .fail
  | _ => .fail

def exec (P : Program) (G : Nat → Option PV) (o : Oper) (fr : Nat → PV) (k : Nat) (emp : Bool) : Pr :=
  match o.op with
  | .move x | .assign x => .ret (evO P G o.type fr x) [] []
  | .pick c a b => (match evO P G o.type fr c with
    | .bool true => .ret (evO P G o.type fr a) [] []
    | .bool false => .ret (evO P G o.type fr b) [] []
    | _ => .fail)
  | .alloc e => (match zeroOf P e with
    | some z => .ret (.at k []) [(k, some ⟨z, false⟩)] []
    | none => .fail)
  | .box e x => let v := evO P G e fr x
    if good v then .ret (.at k []) [(k, some ⟨v, false⟩)] [] else .fail
  | .build t parts => (match buildP P t (evParts (evO P G 0 fr) parts.toList) with
    | some c => .ret c [] []
    | none => .fail)
  | .buildSlice t n parts => buildSliceP P t n (evParts (evO P G 0 fr) parts.toList) k
  | .load t x => (match evO P G 0 fr x with
    | .at id path => .read id fun r => loadP P t r.c path
    | .cptr c path => loadP P t c path
    | _ => .fail)
  | .store t x v => (match evO P G 0 fr x with
    | .at id path => storeP P t id path (evO P G t fr v)
    | _ => .fail)
  | .nilCheck x => (match evO P G 0 fr x with
    | .at id path => .ret (.at id path) [] []
    | .cptr c path => .ret (.cptr c path) [] []
    | _ => .fail)
  | .binOp op xT x y yT => (match nilCmp op (evO P G xT fr x) (evO P G xT fr y) with
    | some b => if nilT P xT (evO P G xT fr x) then .ret (.bool b) [] [] else .fail
    | none => binQ P xT op (evO P G xT fr x) (evO P G yT fr y))
  | .unOp op xT x => unP op (evO P G xT fr x)
  | .convert s d x => (match P.underlying d, evO P G s fr x with
    | some .string, .vec _ c => (match P.underlying s with
      | some (.slice e) => (match P.underlying e with
        | some (.int .u8) => bytesP c
        | _ => .fail)
      | _ => .fail)
    | some .string, .ref id path s0 off n => (match P.underlying s with
      | some (.slice e) => (match P.underlying e with
        | some (.int .u8) => elemsOf (.ref id path s0 off n) bytesP
        | _ => .fail)
      | _ => .fail)
    | _, x => if tyOk P s then convP P s d x k else .fail)
  | .makeSlice t l c => makeP P t (evO P G 0 fr l) (evO P G 0 fr c) k
  | .slice t x lo hi none => sliceP P t (evO P G t fr x) (lo.map (evO P G 0 fr)) (hi.map (evO P G 0 fr))
  | .fieldAddr t x i => fieldAddrP P t (evO P G 0 fr x) i
  | .field t x i => fieldP P t (evO P G t fr x) i
  | .indexAddr t x ix => indexAddrP P t (evO P G t fr x) (evO P G 0 fr ix)
  | .index t x ix => indexP P t (evO P G t fr x) (evO P G 0 fr ix)
  | .extract x i => (match evO P G 0 fr x with
    | .tup ps => (match ps[i]? with
      | some p => .ret p [] []
      | none => .fail)
    | _ => .fail)
  | .call c => (match c.callee with
    | .builtin .len => if !sizes c 1 then .fail else lenP P (c.argTypes.getD 0 0) (evO P G (c.argTypes.getD 0 0) fr (c.args.getD 0 (.func 0)))
    | .builtin .max => maxP mx (c.args.toList.map fun x => evO P G 0 fr x)
    | .builtin .min => maxP mn (c.args.toList.map fun x => evO P G 0 fr x)
    | .builtin .copy => if !sizes c 2 then .fail else copyP P (c.argTypes.getD 0 0) (c.argTypes.getD 1 0) (evO P G (c.argTypes.getD 0 0) fr (c.args.getD 0 (.func 0))) (evO P G (c.argTypes.getD 1 0) fr (c.args.getD 1 (.func 0)))
    | .builtin .append => if !sizes c 2 then .fail else appendP P (c.argTypes.getD 0 0) (c.argTypes.getD 1 0) (evO P G (c.argTypes.getD 0 0) fr (c.args.getD 0 (.func 0))) (evO P G (c.argTypes.getD 1 0) fr (c.args.getD 1 (.func 0))) k emp
    | _ => .fail)
  | _ => .fail
end Go.Pe
