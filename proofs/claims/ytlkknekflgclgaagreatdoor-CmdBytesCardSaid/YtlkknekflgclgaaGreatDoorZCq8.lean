/- How much room a list of commands takes: some number. Conditions: one goroutine. -/
import Derived.Test.YtlkknekflgclgaaGreatDoorZCq7
namespace Go.Proofs.YtlkknekflgclgaaGreatDoor
open Go.RowKit Go.MuLone

set_option maxRecDepth 100000 in
set_option maxHeartbeats 4000000 in
theorem Room_any (w : World) (left : Int) (g : Nat) (hc : ∀ j : Nat, j < 5 → ∃ z, w.cell? ⟨g, j, none⟩ = some (.int .i64 z)) :
    Calls Tryz.prog 24 #[.int .i64 left, .slice (some ⟨g, 0, none⟩) 5 5] w fun e w' => (∃ z, e = .returned (.int .i64 z)) ∧ Only (fun _ => False) w w' := by
  have HC := Lib.hid hc
  clear hc
  go_enter Tryz.func24, Tryz.ntmps24
  go_wp2_with fail
  go_loopg [0, 5] 5 (fun gh lv iv wr => ∃ (i : Nat) (lf : Int), gh + i = 5 ∧ iv = .int .i64 i ∧ lv = .int .i64 lf ∧ wr = w)
  case atStart => exact ⟨0, left, by omega, rfl, rfl, rfl⟩
  case round =>
    obtain ⟨i, lf, hgk, rfl, rfl, rfl⟩ := hrel
    by_cases hi : i < 5
    · obtain ⟨z, hz⟩ := HC.out i hi
      have hi1 : (i : Int) < 5 := by omega
      have hi0 : (0 : Int) ≤ (i : Int) := by omega
      have hwi : IntKind.i64.wrap ((i : Int) + 1) = (i : Int) + 1 := IntWalk.i64_in _ (by omega)
      by_cases h1 : lf < 0
      · go_wp2_with fail
        go_ret
        exact ⟨⟨_, rfl⟩, Only.refl _ _⟩
      · by_cases h2 : z > lf
        · have e1 : decide (lf < 0) = false := decide_eq_false h1
          have e2 : decide (lf < z) = true := decide_eq_true h2
          go_wp2_with fail
          go_ret
          exact ⟨⟨_, rfl⟩, Only.refl _ _⟩
        · have e1 : decide (lf < 0) = false := decide_eq_false h1
          have e2 : decide (lf < z) = false := decide_eq_false (by omega)
          go_wp2_with fail
          go_roundg (gk - 1)
          case measure => omega
          case rel => exact ⟨i + 1, _, by omega, by go_num, rfl, rfl⟩
    · obtain rfl : i = 5 := by omega
      go_wp2_with fail
      go_ret
      exact ⟨⟨_, rfl⟩, Only.refl _ _⟩
set_option maxRecDepth 100000 in
set_option maxHeartbeats 8000000 in
theorem Cmds_any (w : World) (room : Int) (v : Value) (l : List Cq) (hv : RowAt cmdC 5 w v l) (hn : l.length ≤ 9223372036854775807) :
    Calls Tryz.prog 16 #[.int .i64 room, v] w fun e w' => (∃ z, e = .returned (.int .i64 z)) ∧ Only (fun _ => False) w w' := by
  obtain ⟨a, cap, rfl, ha⟩ := row_len hv
  have HV := Lib.hid hv
  have HA := Lib.hid ha
  clear hv ha
  go_enter Tryz.func16, Tryz.ntmps16
  go_wp2_with fail
  go_loopg [0, 5] l.length (fun gh lv iv wr => ∃ (i : Nat) (lf : Int), gh + i = l.length ∧ iv = .int .i64 i ∧ lv = .int .i64 lf ∧ Only (fun _ => False) w wr)
  case atStart => exact ⟨0, room, by omega, rfl, rfl, Only.refl _ _⟩
  case round =>
    obtain ⟨i, lf, hgk, rfl, rfl, ho⟩ := hrel
    have HO := Lib.hid ho
    clear ho
    by_cases hi : i < l.length
    · by_cases h1 : lf < 0
      · have hi1 : (i : Int) < (l.length : Int) := by omega
        have e1 : decide (lf ≥ 0) = false := decide_eq_false (by omega)
        have e2 : decide (0 ≤ lf) = false := decide_eq_false (by omega)
        go_wp2_with fail
        go_ret
        exact ⟨⟨_, rfl⟩, HO.out⟩
      · obtain ⟨x, hx⟩ : ∃ x, l[i]? = some x := ⟨_, List.getElem?_eq_getElem hi⟩
        obtain ⟨g, off, rfl⟩ := HA.out (fun e => by rw [e] at hi; simp at hi)
        have hi1 : (i : Int) < (l.length : Int) := by omega
        have hi0 : (0 : Int) ≤ (i : Int) := by omega
        have e1 : decide (lf ≥ 0) = true := decide_eq_true (by omega)
        have e2 : decide (0 ≤ lf) = true := decide_eq_true (by omega)
        have hwi : IntKind.i64.wrap ((i : Int) + 1) = (i : Int) + 1 := IntWalk.i64_in _ (by omega)
        have HS : Hid (∀ W, Only (fun _ => False) wr W → W.cell? ⟨g, off + i * 5 + 1, none⟩ = some (str x.path) ∧ W.cell? ⟨g, off + i * 5 + 2, none⟩ = some (str x.key) ∧ W.cell? ⟨g, off + i * 5 + 3, none⟩ = some (str x.val) ∧ W.cell? ⟨g, off + i * 5 + 4, none⟩ = some (str x.old)) := Lib.hid (fun W hW => by
          obtain ⟨_, c1, c2, c3, c4⟩ := cmd_at (row_still HV.out (HO.out.trans hW (fun _ _ q => q))) hx
          exact ⟨c1, c2, c3, c4⟩)
        have k0 : Only (fun _ => False) wr wr := Only.refl _ _
        have k1 : Only (fun _ => False) wr wr.drew := (Only.refl _ _).drew
        have k2 : Only (fun _ => False) wr (wr.alloc (.cells #[.int .i64 9, .int .i64 (x.path.length : Int), .int .i64 (x.key.length : Int), .int .i64 (x.val.length : Int), .int .i64 (x.old.length : Int)] 3)) := (Only.refl _ _).alloc _
        have k3 : Only (fun _ => False) wr (wr.alloc (.cells #[.int .i64 9, .int .i64 (x.path.length : Int), .int .i64 (x.key.length : Int), .int .i64 (x.val.length : Int), .int .i64 (x.old.length : Int)] 3)).drew := ((Only.refl _ _).alloc _).drew
        have HRm : Hid (∀ W, Only (fun _ => False) (wr.alloc (.cells #[.int .i64 9, .int .i64 (x.path.length : Int), .int .i64 (x.key.length : Int), .int .i64 (x.val.length : Int), .int .i64 (x.old.length : Int)] 3)) W → Calls Tryz.prog 24 #[.int .i64 lf, .slice (some ⟨wr.heap.size, 0, none⟩) 5 5] W fun e w' => (∃ z, e = .returned (.int .i64 z)) ∧ Only (fun _ => False) W w') := Lib.hid (fun W hW => by
          refine Room_any W lf wr.heap.size (fun j hj => ?_)
          have hb := blk_keep (blk_new wr (.cells #[.int .i64 9, .int .i64 (x.path.length : Int), .int .i64 (x.key.length : Int), .int .i64 (x.val.length : Int), .int .i64 (x.old.length : Int)] 3)) hW id
          have h5 : j = 0 ∨ j = 1 ∨ j = 2 ∨ j = 3 ∨ j = 4 := by omega
          rcases h5 with rfl | rfl | rfl | rfl | rfl
          · exact ⟨_, blk_cell hb 0⟩
          · exact ⟨_, blk_cell hb 1⟩
          · exact ⟨_, blk_cell hb 2⟩
          · exact ⟨_, blk_cell hb 3⟩
          · exact ⟨_, blk_cell hb 4⟩)
        have m0 : Only (fun _ => False) (wr.alloc (.cells #[.int .i64 9, .int .i64 (x.path.length : Int), .int .i64 (x.key.length : Int), .int .i64 (x.val.length : Int), .int .i64 (x.old.length : Int)] 3)) (wr.alloc (.cells #[.int .i64 9, .int .i64 (x.path.length : Int), .int .i64 (x.key.length : Int), .int .i64 (x.val.length : Int), .int .i64 (x.old.length : Int)] 3)) := Only.refl _ _
        have m1 : Only (fun _ => False) (wr.alloc (.cells #[.int .i64 9, .int .i64 (x.path.length : Int), .int .i64 (x.key.length : Int), .int .i64 (x.val.length : Int), .int .i64 (x.old.length : Int)] 3)) (wr.alloc (.cells #[.int .i64 9, .int .i64 (x.path.length : Int), .int .i64 (x.key.length : Int), .int .i64 (x.val.length : Int), .int .i64 (x.old.length : Int)] 3)).drew := (Only.refl _ _).drew
        clear hx
        go_wp2_with fail
        go_region_held3 (fun w' => w'.cell? ⟨g, off + i * 5 + 1, none⟩ = some (str x.path) ∧ w'.cell? ⟨g, off + i * 5 + 2, none⟩ = some (str x.key) ∧ w'.cell? ⟨g, off + i * 5 + 3, none⟩ = some (str x.val) ∧ w'.cell? ⟨g, off + i * 5 + 4, none⟩ = some (str x.old)) (first | exact HS.out _ (by assumption)) (first | ((with_reducible refine (HRm.out _ (by assumption)).mono ?_); rintro _ w5 ⟨⟨zz, rfl⟩, o5⟩; have k5 : Only (fun _ => False) wr w5 := Only.trans k2 (Only.trans (by assumption) o5 (fun _ _ q => q)) (fun _ _ q => q)))
        all_goals (
          have HO5 := Lib.hid (HO.out.trans k5 (fun _ _ q => q))
          clear k0 k1 k2 k3 k5 m0 m1 o5 HRm HS
          go_wp2_with fail
          go_roundg (gk - 1)
          case measure => omega
          case rel => exact ⟨i + 1, zz, by omega, by go_num, rfl, HO5.out⟩)
    · obtain rfl : i = l.length := by omega
      have hi1 : ¬ ((l.length : Int) < (l.length : Int)) := by omega
      go_wp2_with fail
      go_ret
      exact ⟨⟨_, rfl⟩, HO.out⟩
end Go.Proofs.YtlkknekflgclgaaGreatDoor
