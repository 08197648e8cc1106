/- 'Least' of pins: the library's MinFunc at pins, and the method. Conditions: one goroutine; the lock is free. -/
import Derived.Test.YtlcjhnbnjhgklaaFind
namespace Go.Proofs.Ytlcjhnbnjhgklaa
open Go.RowKit Go.MuLone

/-- The lowest of the first k + 1 pins, the first of these. -/
def mn (l : List (Int × Int)) : Nat → Int × Int
  | 0 => l.getD 0 (0, 0)
  | k + 1 => if cmpOf (l.getD (k + 1) (0, 0)) (mn l k) < 0 then l.getD (k + 1) (0, 0) else mn l k

structure Two (w : World) (b : Nat) (p : Int × Int) : Prop where
  c0 : w.cell? ⟨b, 0, none⟩ = some (.int .i64 p.1)
  c1 : w.cell? ⟨b, 1, none⟩ = some (.int .i64 p.2)
  z0 : w.frozen? ⟨b, 0, none⟩ = false
  z1 : w.frozen? ⟨b, 1, none⟩ = false
theorem Two.only {w w' : World} {b : Nat} {p : Int × Int} {S : Nat → Prop} (h : Two w b p) (ho : Only S w w') (hb : ¬ S b) : Two w' b p :=
  ⟨(ho.cell (lt_of_cell h.c0) hb).trans h.c0, (ho.cell (lt_of_cell h.c0) hb).trans h.c1, (ho.frozen (lt_of_cell h.c0) hb).trans h.z0, (ho.frozen (lt_of_cell h.c0) hb).trans h.z1⟩
theorem Two.set {w : World} {b : Nat} {p : Int × Int} (h : Two w b p) (x y : Int) : Two ((w.setCell ⟨b, 0, none⟩ (.int .i64 x)).setCell ⟨b, 1, none⟩ (.int .i64 y)) b (x, y) :=
  ⟨(World.cell?_setCell_other _ _ _ _ (ne_off _ _ _ (by omega))).trans (same_cell h.c0 _), same_cell ((World.cell?_setCell_other _ _ _ _ (ne_off _ _ _ (by omega))).trans h.c1) _, by simp [h.z0], by simp [h.z1]⟩

set_option maxRecDepth 100000 in
set_option maxHeartbeats 1000000 in
theorem minFunc (g cap n : Nat) (l : List (Int × Int)) (w : World) (h : PinRow w g cap l) (hn : l.length = n + 1) :
    Calls Try.prog 45 #[.slice (some ⟨g, 0, none⟩) l.length cap, .func (.func 46) #[] #[]] w fun e w' => e = .returned (.agg #[.int .i64 (mn l n).1, .int .i64 (mn l n).2]) ∧ Only (fun _ => False) w w' := by
  have hlen := h.len
  have lg := own_lt h
  obtain ⟨d0, d1⟩ := h.cell 0 (by omega)
  have HN := Lib.hid hn
  have hp : 0 < l.length := by omega
  have hp1 : 1 ≤ l.length := hp
  clear hn
  rw [Nat.zero_mul] at d0 d1
  rw [Nat.zero_add] at d1
  have HQ : Hid (mn l 0 = l.getD 0 (0, 0)) := Lib.hid rfl
  generalize l.getD 0 (0, 0) = q at *
  go_enter Try.func45, Try.ntmps45
  go_wp2_with fail
  go_loopw [6] (fun i wr => ∃ k : Nat, k + 1 ≤ l.length ∧ i = .int .i64 ((k : Int) + 1) ∧ Two wr (w.heap.size + 1) (mn l k) ∧ Two wr w.heap.size (0, 0) ∧ Only (fun _ => False) w wr) (fun i _ => (l.length - intOf i).toNat)
  case atStart =>
    refine ⟨0, by omega, rfl, ?_, ?_, ((Only.refl _ w).alloc _).alloc _⟩
    · rw [HQ.out]; exact ⟨by go_simp, by go_simp, by go_simp, by go_simp⟩
    · exact ⟨by go_simp, by go_simp, by go_simp, by go_simp⟩
  case round =>
    obtain ⟨k, hk1, rfl, hM, hR, ho⟩ := hrel
    clear HQ d0 d1
    by_cases hlt : k + 1 < l.length
    · obtain ⟨c0, c1⟩ := (h.only ho id).cell (k + 1) hlt
      have HV : Hid (mn l (k + 1) = if cmpOf (l.getD (k + 1) (0, 0)) (mn l k) < 0 then l.getD (k + 1) (0, 0) else mn l k) := Lib.hid rfl
      generalize l.getD (k + 1) (0, 0) = x at *
      generalize mn l k = m at *
      obtain ⟨m0, m1, y0, y1⟩ := hM
      have w4 : (k : Int) + 1 < (l.length : Int) := by omega
      have w5 : (0 : Int) ≤ (k : Int) + 1 := by omega
      have w6 : ((k : Int) + 1).toNat = k + 1 := by omega
      have od : Only (fun _ => False) wr wr.drew := (Only.refl _ wr).drew
      have l0 := lt_of_cell c0
      have l1 := lt_of_cell m0
      go_wp2_with fail
      refine wp_calm ?_
      go_region_held3 (fun w' => w'.cell? ⟨g, (k + 1) * 2, none⟩ = some (.int .i64 x.1) ∧ w'.cell? ⟨g, (k + 1) * 2 + 1, none⟩ = some (.int .i64 x.2) ∧ w'.cell? ⟨w.heap.size + 1, 0, none⟩ = some (.int .i64 m.1) ∧ w'.cell? ⟨w.heap.size + 1, 1, none⟩ = some (.int .i64 m.2)) (first | exact ⟨c0, c1, m0, m1⟩ | exact ⟨q1, q2, q3, q4⟩)
        (first | ((with_reducible refine (fn46 x m _).mono ?_); rintro e w3 ⟨rfl, o3⟩; have q0 := od.trans o3 (fun _ _ => id); have q1 := (q0.cell (p := ⟨g, (k + 1) * 2, none⟩) l0 id).trans c0; have q2 := (q0.cell (p := ⟨g, (k + 1) * 2 + 1, none⟩) l0 id).trans c1; have q3 := (q0.cell (p := ⟨w.heap.size + 1, 0, none⟩) l1 id).trans m0; have q4 := (q0.cell (p := ⟨w.heap.size + 1, 1, none⟩) l1 id).trans m1))
      have y0' := (q0.frozen (p := ⟨w.heap.size + 1, 0, none⟩) l1 id).trans y0
      have y1' := (q0.frozen (p := ⟨w.heap.size + 1, 1, none⟩) l1 id).trans y1
      have hR3 := hR.only q0 id
      have ho3 := ho.trans q0 fun _ _ => id
      clear c0 c1 m0 m1 y0 y1 od o3 q0 hR ho
      by_cases hc : cmpOf x m < 0
      · rw [if_pos hc] at HV
        go_wp2_with fail
        go_roundw
        case rel =>
          have o4 : Only (fun k => k = w.heap.size + 1) w3 ((w3.setCell ⟨w.heap.size + 1, 0, none⟩ (.int .i64 x.1)).setCell ⟨w.heap.size + 1, 1, none⟩ (.int .i64 x.2)) := ((Only.refl (fun k => k = w.heap.size + 1) w3).put _ 0 rfl _).put _ 1 rfl _
          refine ⟨k + 1, by omega, by go_num, ?_, hR3.only o4 (by omega), ho3.trans o4 fun i hi q => by omega⟩
          rw [HV.out]
          exact Two.set ⟨q3, q4, y0', y1'⟩ _ _
        case measure => simp [intOf]; omega
      · rw [if_neg hc] at HV
        go_wp2_with fail
        go_roundw
        case rel => exact ⟨k + 1, by omega, by go_num, by rw [HV.out]; exact ⟨q3, q4, y0', y1'⟩, hR3, ho3⟩
        case measure => simp [intOf]; omega
    · obtain rfl : n = k := by have := HN.out; omega
      generalize hm : mn l n = m at *
      have HM := Lib.hid hm
      clear hm
      obtain ⟨m0, m1, y0, y1⟩ := hM
      have hT := hR.set m.1 m.2
      obtain ⟨t0, t1, _, _⟩ := hT
      obtain ⟨r0, r1, s0, s1⟩ := hR
      have o4 : Only (fun k => k = w.heap.size) wr ((wr.setCell ⟨w.heap.size, 0, none⟩ (.int .i64 m.1)).setCell ⟨w.heap.size, 1, none⟩ (.int .i64 m.2)) := ((Only.refl (fun k => k = w.heap.size) wr).put _ 0 rfl _).put _ 1 rfl _
      go_wp2_with fail
      refine bodyPost_ret (v := .agg #[.int .i64 m.1, .int .i64 m.2]) (by simp [results, Try.results45, go_sem, t0, t1]) rfl ⟨by rw [HM.out], ho.trans o4 fun i hi q => by omega⟩

def LeastPost (w : World) (b : Nat) (sv : Value) (last : Int) (l : List (Int × Int)) (w' : World) : Prop := PinsIs w' b sv last l ∧ Only (fun k => k = b) w w'

set_option maxRecDepth 100000 in
theorem least_none (b : Nat) (sv : Value) (last : Int) (w : World) (h : PinsIs w b sv last []) :
    Calls Try.prog 26 #[.pointer (some ⟨b, 0, none⟩)] w fun e w' => e = .returned (.tuple #[.int .i64 0, .bool false]) ∧ LeastPost w b sv last [] w' := by
  have hH := h.lock
  have o1 : Only (fun k => k = b) w (w.setCell ⟨b, 0, none⟩ (.int .i32 1)) := (Only.refl (fun k => k = b) w).put b 0 rfl _
  have p0 := h.p0
  have z0 := h.z0
  obtain ⟨a, c, rfl⟩ := ownsRow_form h.own
  clear h
  go_enter_defers Try.func26, Try.ntmps26
  go_wp2_with fail
  (with_reducible refine (lock_free Try.muLib ⟨b, 0, none⟩ _ p0 z0).mono ?_)
  rintro e w' ⟨rfl, rfl⟩
  have p3 := hH.p3
  go_wp2_with fail
  refine leaves_cons (f := 42) (args := #[.pointer (some ⟨b, 0, none⟩)]) (by simp) (by simp [go_sem]) ?_
  refine (unlock_deferred Try.muLib ⟨b, 0, none⟩ .returning _ hH.p0 hH.z0).mono ?_
  rintro e u' w'' ⟨rfl, rfl, rfl⟩
  exact ⟨_, results_tmp2 rfl _ _ _, rfl, hH.unlock, o1.put b 0 rfl _⟩

set_option maxRecDepth 100000 in
theorem least_some (b n : Nat) (sv : Value) (last : Int) (l : List (Int × Int)) (w : World) (h : PinsIs w b sv last l) (hn : l.length = n + 1) :
    Calls Try.prog 26 #[.pointer (some ⟨b, 0, none⟩)] w fun e w' => e = .returned (.tuple #[.int .i64 (mn l n).2, .bool true]) ∧ LeastPost w b sv last l w' := by
  have hfld : ∀ (x y : Int) (w : World), (Instr.field 79 (.agg #[.int .i64 x, .int .i64 y]) 1).run Try.prog w = .ok (.int .i64 y) w := fun _ _ _ => by kernel_rfl
  have hH := h.lock
  have o1 : Only (fun k => k = b) w (w.setCell ⟨b, 0, none⟩ (.int .i32 1)) := (Only.refl (fun k => k = b) w).put b 0 rfl _
  have p0 := h.p0
  have z0 := h.z0
  obtain ⟨g, cap, rfl⟩ : ∃ g cap, sv = .slice (some ⟨g, 0, none⟩) l.length cap := by
    rcases h.own.2 with ⟨_, q⟩ | ⟨g, cap, cur, q, _⟩
    · omega
    · exact ⟨g, cap, q⟩
  have nb : ¬ g = b := fun q => h.ne (by rw [q]; rfl)
  have hb := lt_of_cell hH.p0
  have hmin := minFunc g cap n l _ hH.own hn
  have HM := Lib.hid hmin
  have hlen : 1 ≤ l.length := by omega
  have hmax := PinRow.len (w := w) (g := g) (cap := cap) (l := l) h.own
  clear h hmin hn
  go_enter_defers Try.func26, Try.ntmps26
  go_wp2_with fail
  (with_reducible refine (lock_free Try.muLib ⟨b, 0, none⟩ _ p0 z0).mono ?_)
  rintro e w' ⟨rfl, rfl⟩
  have p3 := hH.p3
  go_wp2_with fail
  (with_reducible refine HM.out.mono ?_)
  rintro e w2 ⟨rfl, o2⟩
  have hH2 := hH.only o2 id (fun _ _ => id)
  go_wp2_with fail
  refine leaves_cons (f := 42) (args := #[.pointer (some ⟨b, 0, none⟩)]) (by simp) (by simp [go_sem]) ?_
  refine (unlock_deferred Try.muLib ⟨b, 0, none⟩ .returning _ hH2.p0 hH2.z0).mono ?_
  rintro e u' w'' ⟨rfl, rfl, rfl⟩
  exact ⟨_, results_tmp2 rfl _ _ _, rfl, hH2.unlock, (o1.trans o2 fun _ _ q => q.elim).put b 0 rfl _⟩
end Go.Proofs.Ytlcjhnbnjhgklaa
