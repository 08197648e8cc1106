/- What lays numbers and texts, seen from other worlds. Conditions: none. -/
import Derived.Test.YtbhiamcmiopnoaaGreatDoorZBase
namespace Go.Proofs.YtbhiamcmiopnoaaGreatDoor
open Go.RowKit
theorem jy.alloc {S:Nat→Prop} {w0 w:World} {p:Nat} {s:jW} {sv:Value} (h:jy S w0 w p s sv) (o:Obj):jy S w0 (w.alloc o) p s sv:=by
 have hp:=lt_of_cell h.c0
 have q:=(Only.refl (fun _=>False) w).alloc o
 exact⟨(q.cell hp id).trans h.c0,(q.cell hp id).trans h.c1,aP h.own q (fun _ _=>id),h.ne,(q.frozen hp id).trans h.z0,(q.frozen hp id).trans h.z1,h.new,h.qg,h.since.alloc o⟩
theorem jy.drew {S:Nat→Prop} {w0 w:World} {p:Nat} {s:jW} {sv:Value} (h:jy S w0 w p s sv):jy S w0 w.drew p s sv:=by
 have hp:=lt_of_cell h.c0
 have q:=(Only.refl (fun _=>False) w).drew
 exact⟨(q.cell hp id).trans h.c0,(q.cell hp id).trans h.c1,aP h.own q (fun _ _=>id),h.ne,(q.frozen hp id).trans h.z0,(q.frozen hp id).trans h.z1,h.new,h.qg,h.since.drew⟩
def Lays (p:Nat) (sv:Value) (k:Nat):Prop:=k=p∨sv.ownBlock=some k
theorem jy.here {S:Nat→Prop} {w0 w:World} {p:Nat} {s:jW} {sv:Value} (h:jy S w0 w p s sv):jy (Lays p sv) w w p s sv:=
 ⟨h.c0,h.c1,h.own,h.ne,h.z0,h.z1,fun _=>.inl rfl,fun _ q _=>.inr q,Only.refl _ w⟩
theorem jy.back {S:Nat→Prop} {w0 w w':World} {p:Nat} {s s':jW} {sv:Value} (h:jy S w0 w p s sv) (h':bN (Lays p sv) w w' p s'):bN S w0 w' p s':=by
 obtain⟨Ms,k⟩:=h'
 have hle:=h.since.size
 refine⟨Ms,k.c0,k.c1,k.own,k.ne,k.z0,k.z1,h.new,fun b hb hlt=>?_,h.since.trans k.since fun b hb q=>?_⟩
 ·rcases k.qg b hb (by omega) with rfl | q
  ·exact h.new hlt
  ·exact h.qg b q hlt
 ·rcases q with rfl | q
  ·exact h.new hb
  ·exact h.qg b q hb
theorem rT (w:World) (ty:TypeId):bN (fun _=>False) w (w.alloc (.cells #[.slice none 0 0,.int .i64 0] ty)) w.heap.size ⟨[],0⟩:=by
 refine⟨.slice none 0 0,?_,?_,⟨rfl,.inl ⟨rfl,rfl⟩⟩,by simp [Value.ownBlock],?_,?_,fun q=>by omega,fun k q=>by simp [Value.ownBlock] at q,(Only.refl _ w).alloc _⟩
 ·simp only [World.cell?,heap_alloc_new];rfl
 ·simp only [World.cell?,heap_alloc_new];rfl
 ·simp only [World.frozen?,heap_alloc_new];rfl
 ·simp only [World.frozen?,heap_alloc_new];rfl
end Go.Proofs.YtbhiamcmiopnoaaGreatDoor
