/- WalkSpoilt: the law's walk in the words of the closing text. Conditions: none but the statement's own. -/
import Derived.Test.YtcjaokmodicikaaZLaw8
namespace Go.Proofs.Ytcjaokmodicikaa.walkSpoilt
open Go.RowKit
theorem walk (a : Option Addr) (len cap : Nat) (l : List Item) (stop : Int) (key : ByteArray) (w : World) (h : IsItems w a len cap l) (_ : (Lit.int .i64 stop).wf = true) (hk : key.size ≤ maxLen) :
    Calls Try.prog 4 #[.slice a len cap, .int .i64 stop, .string key] w fun e w' => e = .returned (.bool true) ∧ Below w.heap.size w w' := by
  have h2 := (Spoilt_is w a len cap l stop key.data.toList h (by have : maxLen = 9223372036854775807 := by decide
                                                                 simp only [Array.length_toList]; show key.data.size ≤ _; have : key.data.size = key.size := rfl; omega)).mono fun _ w' (h : _ ∧ _) => (⟨h.1, h.2.below (Nat.le_refl _) fun _ _ q => q⟩ : _ = _ ∧ Below w.heap.size w w')
  have e : str key.data.toList = .string key := by simp [str]
  rw [e] at h2
  exact h2
end Go.Proofs.Ytcjaokmodicikaa.walkSpoilt
