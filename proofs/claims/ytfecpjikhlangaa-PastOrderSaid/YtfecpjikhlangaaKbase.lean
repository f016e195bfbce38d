/- Words that all walks use. No condition. -/
import Derived.Test.YtfecpjikhlangaaPeY
import Derived.Test.YtfecpjikhlangaaChecked
namespace Go.Proofs
open Go Go.Pe
def G0 : Nat → Option PV := fun _ => none
theorem len_max {l : List Int} {n : Nat} (h : l.length ≤ n) (hn : n ≤ 1000000) : (l.length : Int) ≤ 1000000 := by omega
end Go.Proofs
