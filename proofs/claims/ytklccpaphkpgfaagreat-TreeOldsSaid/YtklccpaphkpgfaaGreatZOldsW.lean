/- TreeOlds: the law's walk in the words of the closing text. Conditions: none but the statement's own. -/
import Derived.Test.YtklccpaphkpgfaaGreatZOlds12
import Derived.Test.YtklccpaphkpgfaaGreatZArgs12
namespace Go.Proofs.YtklccpaphkpgfaaGreat.treeOlds
open Go.RowKit
theorem walk (a : Option Addr) (len cap : Nat) (l : List Do) (a2 : Option Addr) (len2 cap2 : Nat) (l2 : List Do) (w : World) (h : IsDos w a len cap l) (h2 : IsDos w a2 len2 cap2 l2) :
    Calls Tryz.prog 4 #[.slice a len cap, .slice a2 len2 cap2] w fun e w' => e = .returned (.bool true) ∧ Below w.heap.size w w' :=
  (Olds12_is w (.slice a len cap) (.slice a2 len2 cap2) l l2 h.row h2.row (by have := h.many; have := h.few; omega) (by have := h2.many; have := h2.few; omega) h.short h2.short).mono fun _ w' (h : _ ∧ _) => (⟨h.1, h.2.below (Nat.le_refl _) fun _ _ q => q⟩ : _ = _ ∧ Below w.heap.size w w')
end Go.Proofs.YtklccpaphkpgfaaGreat.treeOlds
