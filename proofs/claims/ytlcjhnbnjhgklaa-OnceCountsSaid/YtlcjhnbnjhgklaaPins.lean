/- Pins of package once: what each call does. Conditions: one goroutine; the lock is free; fewer than 2^40 pins. -/
import Derived.Test.YtlcjhnbnjhgklaaCell
import Derived.Test.YtlcjhnbnjhgklaaBase
namespace Go.Proofs.Ytlcjhnbnjhgklaa
open Go.RowKit Go.MuLone

def flat (l : List (Int × Int)) : List Value := l.flatMap fun p => [.int .i64 p.1, .int .i64 p.2]
theorem flat_length (l : List (Int × Int)) : (flat l).length = l.length * 2 := by
  induction l with
  | nil => rfl
  | cons p l ih => simp only [flat, List.flatMap_cons, List.length_append, List.length_cons, List.length_nil] at *; omega

structure PinsIs (w : World) (b : Nat) (sv : Value) (last : Int) (l : List (Int × Int)) : Prop where
  p0 : w.cell? ⟨b, 0, none⟩ = some (.int .i32 0)
  p2 : w.cell? ⟨b, 2, none⟩ = some (.int .i64 last)
  p3 : w.cell? ⟨b, 3, none⟩ = some sv
  own : w.ownsRow 0 79 2 sv l.length (flat l)
  ne : sv.ownBlock ≠ some b
  z0 : w.frozen? ⟨b, 0, none⟩ = false
  z2 : w.frozen? ⟨b, 2, none⟩ = false
  z3 : w.frozen? ⟨b, 3, none⟩ = false

theorem pinInfo : (Try.prog.info? 79).map (fun i => (i.zero, i.size, i.bytes)) = some (some (.agg #[.int .i64 0, .int .i64 0]), 2, 16) := by kernel_rfl

theorem pin_nil (n : Int) (w : World) : Calls Try.prog 24 #[.pointer none, .int .i64 n] w fun e w' => e = .returned (.int .i64 0) ∧ w = w' := by
  go_enter_defers Try.func24, Try.ntmps24
  go_wp2
  exact ⟨_, results_tmp rfl _ _ _, rfl, rfl⟩

def PinPost (w : World) (b : Nat) (sv : Value) (last : Int) (l : List (Int × Int)) (w' : World) : Prop :=
  ∃ sv', PinsIs w' b sv' last l ∧ Moved w sv sv' ∧ Only (fun k => k = b ∨ sv.ownBlock = some k) w w'

set_option maxRecDepth 100000 in
set_option maxHeartbeats 800000 in
theorem pin_any (b : Nat) (sv : Value) (last n : Int) (l : List (Int × Int)) (w : World) (h : PinsIs w b sv last l) (h1 : 0 ≤ last) (h2 : last ≤ 1000000) (hl : l.length ≤ 1000000) :
    Calls Try.prog 24 #[.pointer (some ⟨b, 0, none⟩), .int .i64 n] w fun e w' => e = .returned (.int .i64 (last + 1)) ∧ PinPost w b sv (last + 1) (l ++ [(last + 1, n)]) w' := by
  obtain ⟨p0, p2, p3, own, ne, z0, z2, z3⟩ := h
  obtain ⟨i0, hi, hz0, hz1, hz2⟩ := info_parts pinInfo
  have c2 : (w.setCell ⟨b, 0, none⟩ (.int .i32 1)).cell? ⟨b, 2, none⟩ = some (.int .i64 last) := (World.cell?_setCell_other _ _ _ _ (ne_off _ _ _ (by omega))).trans p2
  have o1 : Only (fun k => k = b) w ((w.setCell ⟨b, 0, none⟩ (.int .i32 1)).setCell ⟨b, 2, none⟩ (.int .i64 (last + 1))) := ((Only.refl (fun k => k = b) w).setCell (p := ⟨b, 0, none⟩) (fun _ => rfl) _).setCell (p := ⟨b, 2, none⟩) (fun _ => rfl) _
  have d0 : ((w.setCell ⟨b, 0, none⟩ (.int .i32 1)).setCell ⟨b, 2, none⟩ (.int .i64 (last + 1))).cell? ⟨b, 0, none⟩ = some (.int .i32 1) := (World.cell?_setCell_other _ _ _ _ (ne_off _ _ _ (by omega))).trans (World.cell?_setCell_same _ _ _ p0)
  have d2 : ((w.setCell ⟨b, 0, none⟩ (.int .i32 1)).setCell ⟨b, 2, none⟩ (.int .i64 (last + 1))).cell? ⟨b, 2, none⟩ = some (.int .i64 (last + 1)) := World.cell?_setCell_same _ _ _ c2
  have d3 : ((w.setCell ⟨b, 0, none⟩ (.int .i32 1)).setCell ⟨b, 2, none⟩ (.int .i64 (last + 1))).cell? ⟨b, 3, none⟩ = some sv := (World.cell?_setCell_other _ _ _ _ (ne_off _ _ _ (by omega))).trans ((World.cell?_setCell_other _ _ _ _ (ne_off _ _ _ (by omega))).trans p3)
  have x0 : ((w.setCell ⟨b, 0, none⟩ (.int .i32 1)).setCell ⟨b, 2, none⟩ (.int .i64 (last + 1))).frozen? ⟨b, 0, none⟩ = false := by simp [z0]
  have x2 : ((w.setCell ⟨b, 0, none⟩ (.int .i32 1)).setCell ⟨b, 2, none⟩ (.int .i64 (last + 1))).frozen? ⟨b, 2, none⟩ = false := by simp [z2]
  have x3 : ((w.setCell ⟨b, 0, none⟩ (.int .i32 1)).setCell ⟨b, 2, none⟩ (.int .i64 (last + 1))).frozen? ⟨b, 3, none⟩ = false := by simp [z3]
  have own1 : ((w.setCell ⟨b, 0, none⟩ (.int .i32 1)).setCell ⟨b, 2, none⟩ (.int .i64 (last + 1))).ownsRow 0 79 2 sv l.length (flat l) := own.kept (row := some b) ⟨o1.os, o1.tape, o1.output, o1.size, fun k hk hn => o1.block k hk (fun e => hn (by rw [e]))⟩ (.inr ne)
  go_enter_defers Try.func24, Try.ntmps24
  go_wp2_with (go_at_call 41; refine (lock_free Try.muLib ⟨b, 0, none⟩ _ p0 z0).mono ?_; rintro e w' ⟨rfl, rfl⟩)
  clear c2 p0 p2 p3 z0 z2 z3
  generalize ((w.setCell ⟨b, 0, none⟩ (.int .i32 1)).setCell ⟨b, 2, none⟩ (.int .i64 (last + 1))) = W at *
  have hb : b < W.heap.size := lt_of_cell d0
  refine wp_calm ?_
  go_region_law (refine step_append_moved _ rfl _ _ 61 rfl 79 i0 _ 2 16 Try.underlying61 hi hz0 hz1 hz2 rfl (by decide) _ _ _ rfl (own1.drew.alloc _) ⟨W.heap.size, 0, none⟩ 1 1 [.int .i64 (last + 1), .int .i64 n] rfl rfl (cells_new W.drew [.int .i64 (last + 1), .int .i64 n] 79 _) (by simp [Value.oneCell']) (by unfold maxLen; omega) (by omega) ?_; intro a' c' w1 hown hgr hmv; have hq : Only (fun k => sv.ownBlock = some k) W w1 := (((Only.refl _ W).drew).alloc _).grown hgr (fun k _ h => h); have e3 := (hq.cell (p := ⟨b, 3, none⟩) hb ne).trans d3; have y3 := (hq.frozen (p := ⟨b, 3, none⟩) hb ne).trans x3; clear hgr)
  all_goals
    have e0 := (hq.cell (p := ⟨b, 0, none⟩) hb ne).trans d0
    have e2 := (hq.cell (p := ⟨b, 2, none⟩) hb ne).trans d2
    have y0 := (hq.frozen (p := ⟨b, 0, none⟩) hb ne).trans x0
    have y2 := (hq.frozen (p := ⟨b, 2, none⟩) hb ne).trans x2
    have hne' : Value.ownBlock (.slice a' (l.length + 1) c') ≠ some b := fun e => (hmv b e).elim ne (fun h => by simp at h; omega)
    have g0 := (World.cell?_setCell_other w1 _ _ (.slice a' (l.length + 1) c') (ne_off b 3 0 (by omega))).trans e0
    have g2 := (World.cell?_setCell_other w1 _ _ (.slice a' (l.length + 1) c') (ne_off b 3 2 (by omega))).trans e2
    have g3 := World.cell?_setCell_same w1 ⟨b, 3, none⟩ (.slice a' (l.length + 1) c') e3
    have v0 : (w1.setCell ⟨b, 3, none⟩ (.slice a' (l.length + 1) c')).frozen? ⟨b, 0, none⟩ = false := by simp [y0]
    have v2 : (w1.setCell ⟨b, 3, none⟩ (.slice a' (l.length + 1) c')).frozen? ⟨b, 2, none⟩ = false := by simp [y2]
    have v3 : (w1.setCell ⟨b, 3, none⟩ (.slice a' (l.length + 1) c')).frozen? ⟨b, 3, none⟩ = false := by simp [y3]
    have hown2 := own_store hown hne' 3 (.slice a' (l.length + 1) c')
    have hq2 : Only (fun k => k = b ∨ sv.ownBlock = some k) w (w1.setCell ⟨b, 3, none⟩ (.slice a' (l.length + 1) c')) := ((o1.mono (T := fun k => k = b ∨ sv.ownBlock = some k) fun _ _ h => .inl h).trans hq (fun i _ h => .inr h)).setCell (p := ⟨b, 3, none⟩) (fun _ => .inl rfl) _
    have hmv2 : Moved w sv (.slice a' (l.length + 1) c') := fun k hk => (hmv k hk).imp id fun h => by have := o1.size; simp at h; omega
    have e : flat (l ++ [(last + 1, n)]) = flat l ++ [.int .i64 (last + 1), .int .i64 n] := by simp [flat]
    have HE := Lib.hid e
    clear e hq hmv hown e0 e2 e3 y0 y2 y3 d0 d2 d3 x0 x2 x3 own1 o1 own
    generalize hw : w1.setCell ⟨b, 3, none⟩ (.slice a' (l.length + 1) c') = W2 at *
    clear hw
    go_wp2
    -- THE DOOR
    refine leaves_cons (f := 42) (args := #[.pointer (some ⟨b, 0, none⟩)]) (by simp) (by simp [go_sem]) ?_
    refine (unlock_deferred Try.muLib ⟨b, 0, none⟩ .returning _ g0 v0).mono ?_
    rintro e u' w'' ⟨rfl, rfl, rfl⟩
    refine ⟨_, results_tmp rfl _ _ _, rfl, .slice a' (l.length + 1) c', ⟨?_, ?_, ?_, ?_, hne', by simp [v0], by simp [v2], by simp [v3]⟩, hmv2, ?_⟩
    · exact World.cell?_setCell_same _ _ _ g0
    · exact (World.cell?_setCell_other _ _ _ _ (ne_off _ _ _ (by omega))).trans g2
    · exact (World.cell?_setCell_other _ _ _ _ (ne_off _ _ _ (by omega))).trans g3
    · rw [HE.out, List.length_append]
      exact own_store hown2 hne' _ _
    · exact hq2.setCell (p := ⟨b, 0, none⟩) (fun _ => .inl rfl) _
/-- The pins while their lock is held. -/
structure PinsHeld (w : World) (b : Nat) (sv : Value) (last : Int) (l : List (Int × Int)) : Prop where
  p0 : w.cell? ⟨b, 0, none⟩ = some (.int .i32 1)
  p2 : w.cell? ⟨b, 2, none⟩ = some (.int .i64 last)
  p3 : w.cell? ⟨b, 3, none⟩ = some sv
  own : w.ownsRow 0 79 2 sv l.length (flat l)
  ne : sv.ownBlock ≠ some b
  z0 : w.frozen? ⟨b, 0, none⟩ = false
  z2 : w.frozen? ⟨b, 2, none⟩ = false
  z3 : w.frozen? ⟨b, 3, none⟩ = false

theorem PinsIs.lock {w : World} {b : Nat} {sv : Value} {last : Int} {l : List (Int × Int)} (h : PinsIs w b sv last l) : PinsHeld (w.setCell ⟨b, 0, none⟩ (.int .i32 1)) b sv last l :=
  ⟨World.cell?_setCell_same _ _ _ h.p0, (World.cell?_setCell_other _ _ _ _ (ne_off _ _ _ (by omega))).trans h.p2, (World.cell?_setCell_other _ _ _ _ (ne_off _ _ _ (by omega))).trans h.p3, own_store h.own h.ne _ _, h.ne, by simp [h.z0], by simp [h.z2], by simp [h.z3]⟩
theorem PinsHeld.unlock {w : World} {b : Nat} {sv : Value} {last : Int} {l : List (Int × Int)} (h : PinsHeld w b sv last l) : PinsIs (w.setCell ⟨b, 0, none⟩ (.int .i32 0)) b sv last l :=
  ⟨World.cell?_setCell_same _ _ _ h.p0, (World.cell?_setCell_other _ _ _ _ (ne_off _ _ _ (by omega))).trans h.p2, (World.cell?_setCell_other _ _ _ _ (ne_off _ _ _ (by omega))).trans h.p3, own_store h.own h.ne _ _, h.ne, by simp [h.z0], by simp [h.z2], by simp [h.z3]⟩
theorem PinsHeld.only {w w' : World} {b : Nat} {sv : Value} {last : Int} {l : List (Int × Int)} {S : Nat → Prop} (h : PinsHeld w b sv last l) (ho : Only S w w') (hb : ¬ S b) (hs : ∀ k, sv.ownBlock = some k → ¬ S k) : PinsHeld w' b sv last l := by
  have hl := lt_of_cell h.p0
  refine ⟨(ho.cell hl hb).trans h.p0, (ho.cell hl hb).trans h.p2, (ho.cell hl hb).trans h.p3, own_only h.own ho hs, h.ne, (ho.frozen hl hb).trans h.z0, (ho.frozen hl hb).trans h.z2, (ho.frozen hl hb).trans h.z3⟩
theorem PinsIs.only {w w' : World} {b : Nat} {sv : Value} {last : Int} {l : List (Int × Int)} {S : Nat → Prop} (h : PinsIs w b sv last l) (ho : Only S w w') (hb : ¬ S b) (hs : ∀ k, sv.ownBlock = some k → ¬ S k) : PinsIs w' b sv last l := by
  have hl := lt_of_cell h.p0
  refine ⟨(ho.cell hl hb).trans h.p0, (ho.cell hl hb).trans h.p2, (ho.cell hl hb).trans h.p3, own_only h.own ho hs, h.ne, (ho.frozen hl hb).trans h.z0, (ho.frozen hl hb).trans h.z2, (ho.frozen hl hb).trans h.z3⟩

theorem len_nil (w : World) : Calls Try.prog 27 #[.pointer none] w fun e w' => e = .returned (.int .i64 0) ∧ w = w' := by
  go_enter_defers Try.func27, Try.ntmps27
  go_wp2
  exact ⟨_, results_tmp rfl _ _ _, rfl, rfl⟩
theorem least_nil (w : World) : Calls Try.prog 26 #[.pointer none] w fun e w' => e = .returned (.tuple #[.int .i64 0, .bool false]) ∧ w = w' := by
  go_enter_defers Try.func26, Try.ntmps26
  go_wp2
  exact ⟨_, results_tmp2 rfl _ _ _, rfl, rfl⟩
theorem drop_nil (n : Int) (w : World) : Calls Try.prog 25 #[.pointer none, .int .i64 n] w fun e w' => e = .returned (.bool false) ∧ w.alloc (.cells #[.int .i64 n] 3) = w' := by
  go_enter_defers Try.func25, Try.ntmps25
  go_wp2
  exact ⟨_, results_tmp rfl _ _ _, rfl, rfl⟩

def PinsSame (w : World) (b : Nat) (sv : Value) (last : Int) (l : List (Int × Int)) (w' : World) : Prop := PinsIs w' b sv last l ∧ Only (fun k => k = b) w w'

theorem len_any (b : Nat) (sv : Value) (last : Int) (l : List (Int × Int)) (w : World) (h : PinsIs w b sv last l) :
    Calls Try.prog 27 #[.pointer (some ⟨b, 0, none⟩)] w fun e w' => e = .returned (.int .i64 l.length) ∧ PinsSame w b sv last l w' := by
  have hH := h.lock
  have o1 : Only (fun k => k = b) w (w.setCell ⟨b, 0, none⟩ (.int .i32 1)) := (Only.refl (fun k => k = b) w).setCell (p := ⟨b, 0, none⟩) (fun _ => rfl) _
  have p0 := h.p0
  have z0 := h.z0
  obtain ⟨a, c, rfl⟩ := ownsRow_form h.own
  clear h
  go_enter_defers Try.func27, Try.ntmps27
  go_wp2_with (go_at_call 41; refine (lock_free Try.muLib ⟨b, 0, none⟩ _ p0 z0).mono ?_; rintro e w' ⟨rfl, rfl⟩; have p3 := hH.p3)
  refine leaves_cons (f := 42) (args := #[.pointer (some ⟨b, 0, none⟩)]) (by simp) (by simp [go_sem]) ?_
  refine (unlock_deferred Try.muLib ⟨b, 0, none⟩ .returning _ hH.p0 hH.z0).mono ?_
  rintro e u' w'' ⟨rfl, rfl, rfl⟩
  exact ⟨_, results_tmp rfl _ _ _, rfl, hH.unlock, o1.setCell (p := ⟨b, 0, none⟩) (fun _ => rfl) _⟩

theorem cell_made (b off : Nat) (x : Int) (t : Bool) (w : World) (hc : w.cell? ⟨b, off + 3, none⟩ = some (.int .u32 x)) (ht : (x != 0) = t) :
    Calls Try.prog 30 #[.pointer (some ⟨b, off, none⟩)] w fun e w' => e = .returned (.bool t) ∧ w = w' := by
  go_enter Try.func30, Try.ntmps30
  go_wp2_with (go_at_call 33; refine (bool_load _ x t _ hc ht).mono ?_; rintro e w' ⟨rfl, rfl⟩)
  go_ret
  exact ⟨rfl, rfl⟩
theorem cell_made_nil (w : World) : Calls Try.prog 30 #[.pointer none] w fun e w' => e = .returned (.bool false) ∧ w = w' := by
  go_enter Try.func30, Try.ntmps30
  go_wp2_with fail
  go_ret
  exact ⟨rfl, rfl⟩
end Go.Proofs.Ytlcjhnbnjhgklaa
