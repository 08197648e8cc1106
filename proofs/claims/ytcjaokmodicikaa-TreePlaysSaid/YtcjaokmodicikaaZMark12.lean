/- The law's pages: a mark: what is there is not their own any more. Conditions: one goroutine. -/
import Derived.Test.YtcjaokmodicikaaZPages
import Derived.BigRegion
namespace Go.Proofs.Ytcjaokmodicikaa
open Go.RowKit

set_option maxRecDepth 100000 in
set_option maxHeartbeats 2000000 in
theorem PMark_is (w : World) (b : Nat) (S : PSt) (h : PagesAt w b S) :
    Calls Try.prog 27 #[.pointer (some ⟨b, 0, none⟩)] w fun e w' => e = .returned (.tuple #[]) ∧ PagesAt w' b { S with mine := (S.L.length : Int) + 2, given := [] } ∧ PStep b w w' := by
  obtain ⟨vL, vG, h⟩ := h
  have hlen := h.few
  obtain ⟨aL, cL, rfl⟩ := ownsRow_form h.rowL
  have c0 := heap_cell h.heap 0
  have c1 := heap_cell h.heap 1
  have c2 := heap_cell h.heap 2
  have z1 := heap_frozen h.heap 1
  have z2 := heap_frozen h.heap 2
  simp only [List.getElem?_toArray, List.getElem?_cons_zero, List.getElem?_cons_succ] at c0 c1 c2
  have hw1 : IntKind.i64.wrap ((S.L.length : Int) + 2) = (S.L.length : Int) + 2 := by exact IntWalk.i64_in _ (by omega)
  have HP := Lib.hid h
  clear h
  go_enter Try.func27, Try.ntmps27
  go_wp2_with fail
  have h := HP.out
  have hh := heap_setCell (heap_setCell h.heap 1 (.int .i64 ((S.L.length : Int) + 2))) 2 (.slice none 0 0)
  have hI : PagesIn ((w.setCell ⟨b, 1, none⟩ (.int .i64 ((S.L.length : Int) + 2))).setCell ⟨b, 2, none⟩ (.slice none 0 0)) b { S with mine := (S.L.length : Int) + 2, given := [] } (.slice aL S.L.length cL) (.slice none 0 0) :=
    ⟨hh, own_store (own_store h.rowL h.neL 1 _) h.neL 2 _, ⟨rfl, .inl ⟨rfl, rfl⟩⟩, h.neL, (by simp [Value.ownBlock]), (fun _ _ => by simp [Value.ownBlock]), h.sound, h.few, ⟨by simp only; omega, by simp only; omega⟩, h.stop, by simp⟩
  refine bodyPost_end (results_none Try.results27 _ _ _) rfl ⟨rfl, ⟨_, _, hI⟩, ((Only.refl (pown w b) w).put b 1 (.inl rfl) _).put b 2 (.inl rfl) _, fun k q => ?_⟩
  rw [h.pown_iff]
  rcases (hI.pown_iff k).1 q with q | q | q
  · exact .inl (.inl q)
  · exact .inl (.inr (.inl q))
  · simp [Value.ownBlock] at q
end Go.Proofs.Ytcjaokmodicikaa
