/- Names of places in a function's code; the contract's frame. No condition. -/
import Derived.Test.YtfecpjikhlangaaPeX
import Derived.KernelRfl
namespace Go.Pe

def bodyOf (fn : Func) : Code := match fn.body with
  | some c => c
  | none => .skip
/-- The to-do lists behind the loops' heads, in the text's order. -/
def loopsC : Code → List Item → List (List Item)
  | .seq x y, k => loopsC x (.code y :: k) ++ loopsC y k
  | .cond _ x y, k => loopsC x k ++ loopsC y k
  | .block id c, k => loopsC c (.inBlock id :: k)
  | .loop c, k => (.code c :: .inLoop c :: k) :: loopsC c (.inLoop c :: k)
  | _, _ => []
def nthL : Nat → List (List Item) → List Item
  | _, [] => []
  | 0, x :: _ => x
  | n + 1, _ :: l => nthL n l
def loopAt (fn : Func) (n : Nat) : List Item := nthL n (loopsC (bodyOf fn) [])
def startAt (fn : Func) : List Item := [.code (bodyOf fn)]
end Go.Pe
