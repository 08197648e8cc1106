/- TreeDrops: the law's walk in the words of the closing text. Conditions: none but the statement's own. -/
import Derived.Test.YtklccpaphkpgfaaGreatZDrops12
import Derived.Test.YtklccpaphkpgfaaGreatZArgs12
namespace Go.Proofs.YtklccpaphkpgfaaGreat.treeDrops
open Go.RowKit
theorem walk (a : Option Addr) (len cap : Nat) (l : List Do) (w : World) (h : IsDos w a len cap l) :
    Calls Tryz.prog 6 #[.slice a len cap] w fun e w' => e = .returned (.bool true) ∧ Below w.heap.size w w' :=
  (Drops12_is w (.slice a len cap) l h.row (by have := h.many; have := h.few; omega) h.short).mono fun _ w' (h : _ ∧ _) => (⟨h.1, h.2.below (Nat.le_refl _) fun _ _ q => q⟩ : _ = _ ∧ Below w.heap.size w w')
end Go.Proofs.YtklccpaphkpgfaaGreat.treeDrops
