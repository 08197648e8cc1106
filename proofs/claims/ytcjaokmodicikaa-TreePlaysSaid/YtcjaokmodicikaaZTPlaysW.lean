/- TreePlays: the law's walk in the words of the closing text. Conditions: none but the statement's own. -/
import Derived.Test.YtcjaokmodicikaaZPlays12
import Derived.Test.YtcjaokmodicikaaZArgs12
namespace Go.Proofs.Ytcjaokmodicikaa.treePlays
open Go.RowKit
theorem walk (a : Option Addr) (len cap : Nat) (l : List Do) (key : ByteArray) (most : Int) (w : World) (h : IsDos w a len cap l) (_ : key.size ≤ maxLen) (_ : (Lit.int .i64 most).wf = true) :
    Calls Try.prog 6 #[.slice a len cap, .string key, .int .i64 most] w fun e w' => e = .returned (.bool true) ∧ Below w.heap.size w w' := by
  have h2 := (Plays12_is w (.slice a len cap) l key.data.toList most h.row (by have := h.many; have := h.few; omega) h.short).mono fun _ w' (h : _ ∧ _) => (⟨h.1, h.2.below (Nat.le_refl _) fun _ _ q => q⟩ : _ = _ ∧ Below w.heap.size w w')
  have e : str key.data.toList = .string key := by simp [str]
  rw [e] at h2
  exact h2
end Go.Proofs.Ytcjaokmodicikaa.treePlays
