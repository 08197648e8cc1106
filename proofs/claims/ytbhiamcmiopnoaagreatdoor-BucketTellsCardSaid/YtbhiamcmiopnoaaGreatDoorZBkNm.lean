/- The law's book, of texts: names that are marks. Conditions: one goroutine; the numbers are small. -/
import Derived.Test.YtbhiamcmiopnoaaGreatDoorZBk0
namespace Go.Proofs.YtbhiamcmiopnoaaGreatDoor.bk
open Go.RowKit

/-- A name. -/
def nameB (i k : Nat) : Bytes := [109, UInt8.ofNat (65 + i % 26), UInt8.ofNat (65 + i / 26 % 26), UInt8.ofNat (48 + k % 10), UInt8.ofNat (48 + k / 10 % 10), UInt8.ofNat (48 + k / 100 % 10)]
theorem u8_small {n : Nat} (h : n < 256) : u8 (UInt8.ofNat n) = .int .u8 (n : Int) := by
  unfold u8
  rw [UInt8.toNat_ofNat', Nat.mod_eq_of_lt (by omega)]

set_option maxRecDepth 100000 in
set_option maxHeartbeats 4000000 in
theorem nameB_is (w : World) (i k : Nat) (hi : i ≤ 1000) (hk : k ≤ 1000000) :
    Calls Tryz.prog 157 #[.int .i64 (i : Int), .int .i64 (k : Int)] w fun e w' => e = .returned (str (nameB i k)) ∧ Only (fun _ => False) w w' := by
  have m1 : (i : Int).tmod 26 = ((i % 26 : Nat) : Int) := by rw [Int.tmod_eq_emod_of_nonneg (by omega)]; rfl
  have d1 : (i : Int).tdiv 26 = ((i / 26 : Nat) : Int) := by rw [Int.tdiv_eq_ediv_of_nonneg (by omega)]; rfl
  have m2 : ((i / 26 : Nat) : Int).tmod 26 = ((i / 26 % 26 : Nat) : Int) := by rw [Int.tmod_eq_emod_of_nonneg (by omega)]; rfl
  have m3 : (k : Int).tmod 10 = ((k % 10 : Nat) : Int) := by rw [Int.tmod_eq_emod_of_nonneg (by omega)]; rfl
  have d2 : (k : Int).tdiv 10 = ((k / 10 : Nat) : Int) := by rw [Int.tdiv_eq_ediv_of_nonneg (by omega)]; rfl
  have m4 : ((k / 10 : Nat) : Int).tmod 10 = ((k / 10 % 10 : Nat) : Int) := by rw [Int.tmod_eq_emod_of_nonneg (by omega)]; rfl
  have d3 : (k : Int).tdiv 100 = ((k / 100 : Nat) : Int) := by rw [Int.tdiv_eq_ediv_of_nonneg (by omega)]; rfl
  have m5 : ((k / 100 : Nat) : Int).tmod 10 = ((k / 100 % 10 : Nat) : Int) := by rw [Int.tmod_eq_emod_of_nonneg (by omega)]; rfl
  obtain ⟨a1, ha1⟩ : ∃ a, i % 26 = a := ⟨_, rfl⟩
  obtain ⟨a2, ha2⟩ : ∃ a, i / 26 % 26 = a := ⟨_, rfl⟩
  obtain ⟨a3, ha3⟩ : ∃ a, k % 10 = a := ⟨_, rfl⟩
  obtain ⟨a4, ha4⟩ : ∃ a, k / 10 % 10 = a := ⟨_, rfl⟩
  obtain ⟨a5, ha5⟩ : ∃ a, k / 100 % 10 = a := ⟨_, rfl⟩
  obtain ⟨b1, hb1⟩ : ∃ a, i / 26 = a := ⟨_, rfl⟩
  obtain ⟨b2, hb2⟩ : ∃ a, k / 10 = a := ⟨_, rfl⟩
  obtain ⟨b3, hb3⟩ : ∃ a, k / 100 = a := ⟨_, rfl⟩
  have HN : Hid (nameB i k = [109, UInt8.ofNat (65 + a1), UInt8.ofNat (65 + a2), UInt8.ofNat (48 + a3), UInt8.ofNat (48 + a4), UInt8.ofNat (48 + a5)]) := Lib.hid (by unfold nameB; rw [ha1, ha2, ha3, ha4, ha5])
  have l1 : a1 < 26 := by omega
  have l2 : a2 < 26 := by omega
  have l3 : a3 < 10 := by omega
  have l4 : a4 < 10 := by omega
  have l5 : a5 < 10 := by omega
  rw [ha1] at m1
  rw [ha2, hb1] at m2
  rw [hb1] at d1
  rw [ha3] at m3
  rw [ha4, hb2] at m4
  rw [hb2] at d2
  rw [ha5, hb3] at m5
  rw [hb3] at d3
  have w1 : ∀ n : Nat, n < 1000000 → IntKind.i64.wrap (n : Int) = (n : Int) := fun n h => IntWalk.i64_in _ (by omega)
  have e1 : IntKind.i64.wrap (65 + (a1 : Int)) = 65 + (a1 : Int) := by exact IntWalk.i64_in _ (by omega)
  have e2 : IntKind.i64.wrap (65 + (a2 : Int)) = 65 + (a2 : Int) := by exact IntWalk.i64_in _ (by omega)
  have e3 : IntKind.i64.wrap (48 + (a3 : Int)) = 48 + (a3 : Int) := by exact IntWalk.i64_in _ (by omega)
  have e4 : IntKind.i64.wrap (48 + (a4 : Int)) = 48 + (a4 : Int) := by exact IntWalk.i64_in _ (by omega)
  have e5 : IntKind.i64.wrap (48 + (a5 : Int)) = 48 + (a5 : Int) := by exact IntWalk.i64_in _ (by omega)
  have f1 := w1 a1 (by omega)
  have f2 := w1 a2 (by omega)
  have f3 := w1 a3 (by omega)
  have f4 := w1 a4 (by omega)
  have f5 := w1 a5 (by omega)
  have f6 := w1 b1 (by omega)
  have f7 := w1 b2 (by omega)
  have f8 := w1 b3 (by omega)
  have g1 : IntKind.u8.wrap (65 + (a1 : Int)) = 65 + (a1 : Int) := by simp [IntKind.wrap, IntKind.bits, IntKind.signed]; omega
  have hcv : (convert 100 9 (.slice (some ⟨w.heap.size, 0, none⟩) 6 6)).run Tryz.prog (w.alloc (.cells #[.int .u8 109, .int .u8 (65 + (a1 : Int)), .int .u8 (65 + (a2 : Int)), .int .u8 (48 + (a3 : Int)), .int .u8 (48 + (a4 : Int)), .int .u8 (48 + (a5 : Int))] 5)) = .ok (str (nameB i k)) (w.alloc (.cells #[.int .u8 109, .int .u8 (65 + (a1 : Int)), .int .u8 (65 + (a2 : Int)), .int .u8 (48 + (a3 : Int)), .int .u8 (48 + (a4 : Int)), .int .u8 (48 + (a5 : Int))] 5)) := by
    rw [HN.out]
    refine run_convert_bytes_back _ 100 9 5 ⟨w.heap.size, 0, none⟩ 6 [109, UInt8.ofNat (65 + a1), UInt8.ofNat (65 + a2), UInt8.ofNat (48 + a3), UInt8.ofNat (48 + a4), UInt8.ofNat (48 + a5)] Tryz.underlying100 Tryz.underlying5 Tryz.underlying9 (fun j hj => ?_)
    have hadd : ((⟨w.heap.size, 0, none⟩ : Addr).add j) = ⟨w.heap.size, j, none⟩ := by unfold Addr.add; split <;> simp_all
    rw [hadd, blk_cell (blk_new w _) j]
    have tn : ∀ n : Nat, n < 256 → ((UInt8.ofNat n).toNat : Int) = (n : Int) := fun n h => by
      rw [UInt8.toNat_ofNat', Nat.mod_eq_of_lt (by omega)]
    have hj6 : j < 6 := by simpa using hj
    have h6 : j = 0 ∨ j = 1 ∨ j = 2 ∨ j = 3 ∨ j = 4 ∨ j = 5 := by omega
    rcases h6 with rfl | rfl | rfl | rfl | rfl | rfl
    · rfl
    · simp only [List.getElem?_toArray, List.getElem?_cons_zero, List.getElem?_cons_succ, List.getElem_cons_zero, List.getElem_cons_succ]
      rw [tn _ (by omega)]
      rfl
    · simp only [List.getElem?_toArray, List.getElem?_cons_zero, List.getElem?_cons_succ, List.getElem_cons_zero, List.getElem_cons_succ]
      rw [tn _ (by omega)]
      rfl
    · simp only [List.getElem?_toArray, List.getElem?_cons_zero, List.getElem?_cons_succ, List.getElem_cons_zero, List.getElem_cons_succ]
      rw [tn _ (by omega)]
      rfl
    · simp only [List.getElem?_toArray, List.getElem?_cons_zero, List.getElem?_cons_succ, List.getElem_cons_zero, List.getElem_cons_succ]
      rw [tn _ (by omega)]
      rfl
    · simp only [List.getElem?_toArray, List.getElem?_cons_zero, List.getElem?_cons_succ, List.getElem_cons_zero, List.getElem_cons_succ]
      rw [tn _ (by omega)]
      rfl
  have HO := Lib.hid ((Only.refl (fun _ => False) w).alloc (.cells #[.int .u8 109, .int .u8 (65 + (a1 : Int)), .int .u8 (65 + (a2 : Int)), .int .u8 (48 + (a3 : Int)), .int .u8 (48 + (a4 : Int)), .int .u8 (48 + (a5 : Int))] 5))
  clear w1 ha1 ha2 ha3 ha4 ha5 hb1 hb2 hb3 hi hk
  go_enter Tryz.func157, Tryz.ntmps157
  go_wp2_with fail
  go_ret
  exact ⟨rfl, HO.out⟩
end Go.Proofs.YtbhiamcmiopnoaaGreatDoor.bk
