/- LISTS OF POINTS within the numbers' kind. -/
import Derived.Test.YtidedlbieakagaaAnkrW0
namespace Go.Proofs.Ytidedlbieakagaa
def InR (ls : List (List (Int × Int))) : Prop := ∀ l ∈ ls, ∀ p ∈ l, (-32768 ≤ p.1 ∧ p.1 ≤ 32767) ∧ (-32768 ≤ p.2 ∧ p.2 ≤ 32767)
end Go.Proofs.Ytidedlbieakagaa
