/- What lays numbers and texts, seen from other worlds. Conditions: none. -/
import Derived.Test.YtbhiamcmiopnoaaGreatDoorZBase
namespace Go.Proofs.YtbhiamcmiopnoaaGreatDoor
open Go.RowKit
theorem PutAt.alloc {S : Nat → Prop} {w0 w : World} {p : Nat} {s : PutS} {sv : Value} (h : PutAt S w0 w p s sv) (o : Obj) : PutAt S w0 (w.alloc o) p s sv := by
  have hp := lt_of_cell h.c0
  have q := (Only.refl (fun _ => False) w).alloc o
  exact ⟨(q.cell hp id).trans h.c0, (q.cell hp id).trans h.c1, own_only h.own q (fun _ _ => id), h.ne, (q.frozen hp id).trans h.z0, (q.frozen hp id).trans h.z1, h.new, h.rownew, h.since.alloc o⟩
theorem PutAt.drew {S : Nat → Prop} {w0 w : World} {p : Nat} {s : PutS} {sv : Value} (h : PutAt S w0 w p s sv) : PutAt S w0 w.drew p s sv := by
  have hp := lt_of_cell h.c0
  have q := (Only.refl (fun _ => False) w).drew
  exact ⟨(q.cell hp id).trans h.c0, (q.cell hp id).trans h.c1, own_only h.own q (fun _ _ => id), h.ne, (q.frozen hp id).trans h.z0, (q.frozen hp id).trans h.z1, h.new, h.rownew, h.since.drew⟩
def Lays (p : Nat) (sv : Value) (k : Nat) : Prop := k = p ∨ sv.ownBlock = some k
theorem PutAt.here {S : Nat → Prop} {w0 w : World} {p : Nat} {s : PutS} {sv : Value} (h : PutAt S w0 w p s sv) : PutAt (Lays p sv) w w p s sv :=
  ⟨h.c0, h.c1, h.own, h.ne, h.z0, h.z1, fun _ => .inl rfl, fun _ q _ => .inr q, Only.refl _ w⟩
theorem PutAt.back {S : Nat → Prop} {w0 w w' : World} {p : Nat} {s s' : PutS} {sv : Value} (h : PutAt S w0 w p s sv) (h' : PutNew (Lays p sv) w w' p s') : PutNew S w0 w' p s' := by
  obtain ⟨sv', k⟩ := h'
  have hle := h.since.size
  refine ⟨sv', k.c0, k.c1, k.own, k.ne, k.z0, k.z1, h.new, fun b hb hlt => ?_, h.since.trans k.since fun b hb q => ?_⟩
  · rcases k.rownew b hb (by omega) with rfl | q
    · exact h.new hlt
    · exact h.rownew b q hlt
  · rcases q with rfl | q
    · exact h.new hb
    · exact h.rownew b q hb
theorem put_fresh (w : World) (ty : TypeId) : PutNew (fun _ => False) w (w.alloc (.cells #[.slice none 0 0, .int .i64 0] ty)) w.heap.size ⟨[], 0⟩ := by
  refine ⟨.slice none 0 0, ?_, ?_, ⟨rfl, .inl ⟨rfl, rfl⟩⟩, by simp [Value.ownBlock], ?_, ?_, fun q => by omega, fun k q => by simp [Value.ownBlock] at q, (Only.refl _ w).alloc _⟩
  · simp only [World.cell?, heap_alloc_new]; rfl
  · simp only [World.cell?, heap_alloc_new]; rfl
  · simp only [World.frozen?, heap_alloc_new]; rfl
  · simp only [World.frozen?, heap_alloc_new]; rfl
end Go.Proofs.YtbhiamcmiopnoaaGreatDoor
