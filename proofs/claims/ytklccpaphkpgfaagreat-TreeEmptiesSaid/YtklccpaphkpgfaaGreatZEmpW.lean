/- TreeEmpties: the law's walk in the words of the closing text. Conditions: none but the statement's own. -/
import Derived.Test.YtklccpaphkpgfaaGreatZEmp12
import Derived.Test.YtklccpaphkpgfaaGreatZArgs
namespace Go.Proofs.YtklccpaphkpgfaaGreat.treeEmpties
open Go.RowKit
theorem walk (a : Option Addr) (len cap : Nat) (l : List Item) (back : Bool) (w : World) (h : IsItems w a len cap l) :
    Calls Tryz.prog 5 #[.slice a len cap, .bool back] w fun e w' => e = .returned (.bool true) ∧ Below w.heap.size w w' :=
  (Emp12_is w (.slice a len cap) l back h.row (by have := h.many; have := h.few; omega) h.short).mono fun _ w' (h : _ ∧ _) => (⟨h.1, h.2.below (Nat.le_refl _) fun _ _ q => q⟩ : _ = _ ∧ Below w.heap.size w w')
end Go.Proofs.YtklccpaphkpgfaaGreat.treeEmpties
