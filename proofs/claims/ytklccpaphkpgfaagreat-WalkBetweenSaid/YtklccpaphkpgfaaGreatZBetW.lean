/- WalkBetween: the law's walk in the words of the closing text. Conditions: none but the statement's own. -/
import Derived.Test.YtklccpaphkpgfaaGreatZBetw2
import Derived.Test.YtklccpaphkpgfaaGreatZArgs
namespace Go.Proofs.YtklccpaphkpgfaaGreat.walkBetween
open Go.RowKit
theorem walk (a : Option Addr) (len cap : Nat) (l : List Item) (from_ to : ByteArray) (most : Int) (w : World) (h : IsItems w a len cap l) (_ : from_.size ≤ maxLen) (_ : to.size ≤ maxLen) (_ : (Lit.int .i64 most).wf = true) :
    Calls Tryz.prog 3 #[.slice a len cap, .string from_, .string to, .int .i64 most] w fun e w' => e = .returned (.bool true) ∧ Below w.heap.size w w' := by
  have h2 := (Betw_is w (.slice a len cap) l from_.data.toList to.data.toList most h.row h.lt (by have := h.many; have := h.few; omega) h.short).mono fun _ w' (h : _ ∧ _) => (⟨h.1, h.2.below (Nat.le_refl _) fun _ _ q => q⟩ : _ = _ ∧ Below w.heap.size w w')
  have e1 : str from_.data.toList = .string from_ := by simp [str]
  have e2 : str to.data.toList = .string to := by simp [str]
  rw [e1, e2] at h2
  exact h2
end Go.Proofs.YtklccpaphkpgfaaGreat.walkBetween
