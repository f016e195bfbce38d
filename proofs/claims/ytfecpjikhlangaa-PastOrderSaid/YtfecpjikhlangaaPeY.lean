/- Names of places in a function's code; the contract's frame. No condition. -/
import Derived.Test.YtfecpjikhlangaaPeX
import Derived.KernelRfl
namespace Go.Pe

def bodyOf (fn : Func) : Code := match fn.body with
  | some c => c
  | none => .skip
/-- The to-do lists behind the loops' heads, in the text's order. -/
def loopsC : Code → List Item → List (List Item)
  | .seq x y, k => loopsC x (.code y :: k) ++ loopsC y k
  | .cond _ x y, k => loopsC x k ++ loopsC y k
  | .block id c, k => loopsC c (.inBlock id :: k)
  | .loop c, k => (.code c :: .inLoop c :: k) :: loopsC c (.inLoop c :: k)
  | _, _ => []
def nthL : Nat → List (List Item) → List Item
  | _, [] => []
  | 0, x :: _ => x
  | n + 1, _ :: l => nthL n l
def loopAt (fn : Func) (n : Nat) : List Item := nthL n (loopsC (bodyOf fn) [])
def cellfreeRows (l : List (Nat × Row)) : Bool := l.all fun x => cellfree x.2.c
/- A wrap within the bounds. -/
theorem w_i64 {e e' : Int} (h : e = e') (h1 : -9223372036854775808 ≤ e') (h2 : e' ≤ 9223372036854775807) : IntKind.i64.wrap e = e' := by subst h; rw [wrap_bounds]; exact ⟨h1, h2⟩
theorem w_u64 {e e' : Int} (h : e = e') (h1 : 0 ≤ e') (h2 : e' ≤ 18446744073709551615) : IntKind.u64.wrap e = e' := by subst h; rw [wrap_bounds]; exact ⟨h1, h2⟩
theorem w_i32 {e e' : Int} (h : e = e') (h1 : -2147483648 ≤ e') (h2 : e' ≤ 2147483647) : IntKind.i32.wrap e = e' := by subst h; rw [wrap_bounds]; exact ⟨h1, h2⟩
theorem w_u32 {e e' : Int} (h : e = e') (h1 : 0 ≤ e') (h2 : e' ≤ 4294967295) : IntKind.u32.wrap e = e' := by subst h; rw [wrap_bounds]; exact ⟨h1, h2⟩
theorem w_u16 {e e' : Int} (h : e = e') (h1 : 0 ≤ e') (h2 : e' ≤ 65535) : IntKind.u16.wrap e = e' := by subst h; rw [wrap_bounds]; exact ⟨h1, h2⟩
theorem w_u8 {e e' : Int} (h : e = e') (h1 : 0 ≤ e') (h2 : e' ≤ 255) : IntKind.u8.wrap e = e' := by subst h; rw [wrap_bounds]; exact ⟨h1, h2⟩
def startAt (fn : Func) : List Item := [.code (bodyOf fn)]
end Go.Pe
