/- CmdBack: the law, whatever came in. Conditions: none but those of the statement. -/
import Derived.Test.YtlkknekflgclgaaGreatDoorZCq10
import Derived.Test.YtlkknekflgclgaaGreatDoorZArgQ
namespace Go.Proofs.YtlkknekflgclgaaGreatDoor.cmdBack
open Go.RowKit

theorem walk (z : Int × Int × Value) (u : Int × Int × Value) (ix tm : Int) (more : ByteArray) (w : World) (nt : Nat) (hT : Tab nt w) (hnt : nt ≤ w.heap.size) (hz : IsReq w z) (hu : IsReq w u) (_ : (Lit.int .i64 ix).wf = true) (_ : (Lit.int .i64 tm).wf = true) (_ : more.size ≤ maxLen) :
    Calls Tryz.prog 4 #[reqV z, reqV u, .int .i64 ix, .int .i64 tm, .string more] w fun e w' => e = .returned (.bool true) ∧ Below w.heap.size w w' := by
  obtain ⟨l, hl, hn⟩ := hz
  obtain ⟨l2, hl2, hn2⟩ := hu
  have main := back_is w nt hT hnt z.1 z.2.1 u.1 u.2.1 l l2 z.2.2 u.2.2 ix tm more.data.toList hl hl2 hn hn2
  have e1 : str more.data.toList = .string more := by simp [str]
  rw [e1] at main
  exact main.mono fun e w' hq => ⟨hq.1, hq.2.below (Nat.le_refl _) fun _ _ q => q⟩
end Go.Proofs.YtlkknekflgclgaaGreatDoor.cmdBack
