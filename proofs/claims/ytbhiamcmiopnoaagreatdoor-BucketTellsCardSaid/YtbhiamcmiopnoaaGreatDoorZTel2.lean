/- BucketTells: the law, whatever came in. Conditions: one goroutine; the library's bound MaxLen is some number. -/
import Derived.Test.YtbhiamcmiopnoaaGreatDoorZTelA
import Derived.Test.YtbhiamcmiopnoaaGreatDoorZTelB
import Derived.Test.YtbhiamcmiopnoaaGreatDoorZBkApT
import Derived.Test.YtbhiamcmiopnoaaGreatDoorZNumLow
import Derived.Deep.DeepCutAuto
namespace Go.Proofs.YtbhiamcmiopnoaaGreatDoor.bk
open Go.RowKit

theorem bkt_neq (a b : Int) (w : World) : (binOp .neq 23 (.agg #[.int .i64 a, .int .i64 b]) (.agg #[.int .i64 a, .int .i64 b])).run Tryz.prog w = .ok (.bool false) w := by
  simp [go_sem]
theorem u64N_conv (v : Int) : IntKind.u64.wrap v = (u64N v : Int) := by
  simp [IntKind.wrap, IntKind.signed, IntKind.bits, u64N]
  omega
theorem ba_app (a b : Bytes) : ({ data := a.toArray } : ByteArray) ++ { data := b.toArray } = { data := (a ++ b).toArray } := by
  congr 1
set_option maxRecDepth 100000 in
set_option maxHeartbeats 16000000 in
theorem tells_is (w : World) (hm : MaxAt w) (root seq : Int) (s path : Bytes) :
    Calls Tryz.prog 3 #[.agg #[.int .i64 root, .int .i64 seq], str s, str path] w fun e w' => e = .returned (.bool true) ∧ Only (fun _ => False) w w' := by
  have oA := (Only.refl (fun _ => False) w).alloc (.cells #[.int .i64 root, .int .i64 seq] 23)
  have n1 := blk_new w (.cells #[.int .i64 root, .int .i64 seq] 23)
  have HM := Lib.hid hm
  have HAl : Hid (∀ W, Only (fun _ => False) w W → Calls Tryz.prog 8 #[] W fun e w' => e = .returned (.bool true) ∧ Only (fun _ => False) W w') := Lib.hid (fun W hW => alive14_is W (HM.out.still hW))
  clear hm
  go_enter Tryz.func3, Tryz.ntmps3
  by_cases h1 : 100 < s.length
  · have e1 : decide (100 < (s.length : Int)) = true := decide_eq_true (by omega)
    go_wp2_with fail
    (with_reducible refine (HAl.out _ oA).mono ?_)
    rintro e w2 ⟨rfl, o2⟩
    have HF := Lib.hid (oA.trans o2 (fun _ _ q => q))
    clear o2
    go_wp2_with fail
    go_ret
    exact ⟨rfl, HF.out⟩
  have e1 : decide (100 < (s.length : Int)) = false := decide_eq_false (by omega)
  by_cases h2 : 300 < path.length
  · have e2 : decide (300 < (path.length : Int)) = true := decide_eq_true (by omega)
    go_wp2_with fail
    (with_reducible refine (HAl.out _ oA).mono ?_)
    rintro e w2 ⟨rfl, o2⟩
    have HF := Lib.hid (oA.trans o2 (fun _ _ q => q))
    clear o2
    go_wp2_with fail
    go_ret
    exact ⟨rfl, HF.out⟩
  have e2 : decide (300 < (path.length : Int)) = false := decide_eq_false (by omega)
  have HZ := Lib.hid (fun W (hW : Only (fun _ => False) (w.alloc (.cells #[.int .i64 root, .int .i64 seq] 23)) W) => blk_keep n1 hW id)
  have HO := Lib.hid oA
  have HWL := Lib.hid (show w.heap.size < (w.alloc (.cells #[.int .i64 root, .int .i64 seq] 23)).heap.size from blk_lt n1)
  clear n1 oA
  go_wp2_with fail
  generalize hW0 : w.alloc (.cells #[.int .i64 root, .int .i64 seq] 23) = W0 at *
  clear hW0
  (with_reducible refine (HAl.out _ HO.out).mono ?_)
  rintro e w1 ⟨rfl, o1⟩
  have HK0 := Lib.hid (BookAt.empty txtC 1 9 37 0 (blk_new w1 (.cells #[.slice none 0 0, .slice none 0 0, .slice none 0 0, .slice none 0 0, .slice none 0 0, .slice none 0 0, .slice none 0 0, .slice none 0 0, .slice none 0 0, .slice none 0 0, .slice none 0 0, .slice none 0 0, .slice none 0 0, .slice none 0 0, .slice none 0 0, .slice none 0 0, .slice none 0 0, .slice none 0 0] 36)) rfl rfl (Nat.le_refl _))
  have o2 := (Only.refl (fun _ => False) w1).alloc (.cells #[.slice none 0 0, .slice none 0 0, .slice none 0 0, .slice none 0 0, .slice none 0 0, .slice none 0 0, .slice none 0 0, .slice none 0 0, .slice none 0 0, .slice none 0 0, .slice none 0 0, .slice none 0 0, .slice none 0 0, .slice none 0 0, .slice none 0 0, .slice none 0 0, .slice none 0 0, .slice none 0 0] 36)
  have HO2 := Lib.hid (And.intro ((HO.out.trans o1 (fun _ _ q => q)).trans o2 (fun _ _ q => q)) (o1.trans o2 (fun _ _ q => q)))
  have HP := Lib.hid (BPath_is (w1.alloc (.cells #[.slice none 0 0, .slice none 0 0, .slice none 0 0, .slice none 0 0, .slice none 0 0, .slice none 0 0, .slice none 0 0, .slice none 0 0, .slice none 0 0, .slice none 0 0, .slice none 0 0, .slice none 0 0, .slice none 0 0, .slice none 0 0, .slice none 0 0, .slice none 0 0, .slice none 0 0, .slice none 0 0] 36)) path (by omega) (HM.out.still HO2.out.1))
  have HB := Lib.hid (show w.heap.size < w1.heap.size from Nat.lt_of_lt_of_le HWL.out o1.size)
  have hsz := Lib.hid (show (w1.alloc (.cells #[.slice none 0 0, .slice none 0 0, .slice none 0 0, .slice none 0 0, .slice none 0 0, .slice none 0 0, .slice none 0 0, .slice none 0 0, .slice none 0 0, .slice none 0 0, .slice none 0 0, .slice none 0 0, .slice none 0 0, .slice none 0 0, .slice none 0 0, .slice none 0 0, .slice none 0 0, .slice none 0 0] 36)).heap.size = w1.heap.size + 1 from Array.size_push _)
  clear o1 o2 HAl e1 e2
  unfold BPathEnds at HP
  go_wp2_with fail
  (with_reducible refine HP.out.mono ?_)
  rintro e w3 ⟨v, rfl, hown, hnew, o3⟩
  obtain ⟨a, c, rfl⟩ := ownsRow_form hown
  have HR := Lib.hid (RPathB_is w3 path (by omega))
  have H3 := Lib.hid (And.intro hown (And.intro hnew o3))
  clear hown hnew o3 HP
  go_wp2_with fail
  (with_reducible refine HR.out.mono ?_)
  rintro e w4 ⟨v2, rfl, hrow2, o4, hnew2⟩
  obtain ⟨a2, c2, rfl⟩ := row_form hrow2
  obtain ⟨hown, hnew, o3⟩ := H3.out
  have HBT := Lib.hid (BT_is w4 w1.heap.size #[.slice none 0 0, .slice none 0 0, .slice none 0 0, .slice none 0 0, .slice none 0 0, .slice none 0 0, .slice none 0 0, .slice none 0 0, .slice none 0 0, .slice none 0 0, .slice none 0 0, .slice none 0 0, .slice none 0 0, .slice none 0 0, .slice none 0 0, .slice none 0 0, .slice none 0 0, .slice none 0 0] (.slice none 0 0) (.slice none 0 0) [] [] [] w1.heap.size (.slice a (pathP path).length c) (pathP path) (HK0.out.still (o3.trans o4 (fun _ _ q => q))) (by simp) (own_only hown o4 (fun _ _ q => q)) (by have := pathP_few path; omega) (fun b q => by
    have := hnew b q
    have := hsz.out
    exact ⟨by omega, by omega, by simp [bown, OwnB, Value.ownBlock]⟩))
  unfold BookTold at HBT
  have H4 := Lib.hid (And.intro hown (And.intro hnew (And.intro o3 (And.intro hrow2 (And.intro o4 hnew2)))))
  clear hown hnew o3 hrow2 o4 hnew2 HR H3
  go_wp2_with fail
  (with_reducible refine HBT.out.mono ?_)
  rintro e w5 ⟨rfl, hq5, vI, vW, y, hbk, _, _, _⟩
  obtain ⟨hown, hnew, o3, hrow2, o4, hnew2⟩ := H4.out
  have o5 : Only (fun b => b = w1.heap.size) w4 w5 := hq5.mono (fun b _ q => q.elim id (fun q => q.elim (fun q => by simp [OwnB, Value.ownBlock] at q) (fun q => by simp [OwnB, Value.ownBlock] at q)))
  have hr1 : RowAt txtC 1 w5 (.slice a (pathP path).length c) (pathP path) := row_own (fun _ => rfl) (own_only (own_only hown o4 (fun _ _ q => q)) o5 (fun b q e => by have := hnew b q; have := hsz.out; omega))
  have hr2 : RowAt txtC 1 w5 (.slice a2 (pathP path).length c2) (pathP path) := row_only hrow2 o5 (fun b q e => by have := (hnew2 b q).1; have := hsz.out; have := o3.size; omega)
  have hoz := (HO2.out.2.trans o3 (fun _ _ q => q)).trans o4 (fun _ _ q => q)
  have hz5 := (o5.block w.heap.size (by have := (HZ.out w4 hoz); exact blk_lt this) (fun e => by have := HB.out; have := HWL.out; omega)).trans (HZ.out w4 hoz)
  have hoo : Only (fun _ => False) w w5 := (Only.trans (((HO2.out.1.trans o3 (fun _ _ q => q)).trans o4 (fun _ _ q => q)).mono (T := fun b => b = w1.heap.size) (fun _ _ (q : False) => q.elim)) o5 (fun _ _ q => q)).mono (fun b hb q => by have := HB.out; have q : b = w1.heap.size := q; omega)
  have H5 := Lib.hid (And.intro hbk (And.intro hr1 (And.intro hr2 (And.intro hz5 hoo))))
  have HRD := Lib.hid (BRead_is w5 s (by omega))
  unfold BReadEnds at HRD
  have hl1 : ∀ b, rowBlock (.slice a (pathP path).length c) = some b → b < w5.heap.size := fun b q => by
    have h1 := (hown.lt b (by rw [rowBlock_own hown] at q; exact q)).2
    have := o4.size
    have := o5.size
    omega
  have hl2 : ∀ b, rowBlock (.slice a2 (pathP path).length c2) = some b → b < w5.heap.size := fun b q => by
    have h1 := (hnew2 b q).2
    have := o5.size
    omega
  clear hown hnew o3 hrow2 o4 hnew2 hq5 hbk o5 hr1 hr2 hoz hz5 hoo HBT H4 HO2 HK0
  go_wp2_with fail
  (with_reducible refine HRD.out.mono ?_)
  rintro e w6 ⟨rfl, o6⟩
  have HO6 := Lib.hid o6
  clear o6 HRD
  cases hrb : readB s with
  | some nq =>
    obtain ⟨n, q⟩ := nq
    have hs10 : s.length = 10 ∧ 0 ≤ q ∧ (n = 0 ∨ 2 ≤ n ∧ n < 4000) ∧ n = numB (s.take 2) ∧ q = wrap64 (numB (s.drop 2) : Int) := by
      unfold readB at hrb
      split at hrb
      · rename_i hc
        cases hrb
        exact ⟨hc.1, hc.2.1, hc.2.2, rfl, rfl⟩
      · cases hrb
    have HRB := Lib.hid hrb
    have e10 : ((s.length : Int) == 10) = true := by simp; omega
    have HNQ := Lib.hid hs10
    clear hrb hs10
    go_upto_if 53 with fail
    have t1 := blk_new w6 (.cells #[.int .i64 n, .int .i64 q] 23)
    have t2 := blk_keep t1 ((Only.refl (fun _ => False) (w6.alloc (.cells #[.int .i64 n, .int .i64 q] 23))).alloc (.cells #[.int .i64 0, .int .i64 0] 23)) id
    have t3 := blk_new (w6.alloc (.cells #[.int .i64 n, .int .i64 q] 23)) (.cells #[.int .i64 0, .int .i64 0] 23)
    have t4 : (w6.alloc (.cells #[.int .i64 n, .int .i64 q] 23)).heap.size = w6.heap.size + 1 := Array.size_push _
    rw [t4] at t3
    have HO7 := Lib.hid ((HO6.out.alloc (.cells #[.int .i64 n, .int .i64 q] 23)).alloc (.cells #[.int .i64 0, .int .i64 0] 23))
    have HT := Lib.hid (And.intro t2 t3)
    clear t1 t2 t3 t4
    generalize (w6.alloc (.cells #[.int .i64 n, .int .i64 q] 23)).alloc (.cells #[.int .i64 0, .int .i64 0] 23) = W7 at *
    go_cut [14] (fun s14 wx => s14 = .bool true ∧ Only (fun b => b = w6.heap.size + 1) W7 wx ∧ wx.heap[w6.heap.size + 1]? = some (.cells #[.int .i64 n, .int .i64 q] 23 (0, 0)))
    case first =>
      obtain ⟨h10, hq0, hn0, hn1, hq1⟩ := HNQ.out
      have hi2 : (2 : Int) ≤ (s.length : Int) := by omega
      have hm8 : numB (s.drop 2) < 18446744073709551616 := Nat.lt_of_lt_of_le (numB_lt _) (Nat.le_trans (Nat.pow_le_pow_right (by omega) (show (s.drop 2).length ≤ 8 by rw [List.length_drop]; omega)) (by decide))
      have hn64 : n < 65536 := by rw [hn1]; exact Nat.lt_of_lt_of_le (numB_lt _) (Nat.le_trans (Nat.pow_le_pow_right (by omega) (show (s.take 2).length ≤ 2 by rw [List.length_take]; omega)) (by decide))
      have HN1 : Hid (∀ W, Calls Tryz.prog 13 #[.string ((⟨s.toArray⟩ : ByteArray).extract 0 2)] W fun e w' => e = .returned (.int .u64 (n : Int)) ∧ W = w') := Lib.hid (fun W => by
        rw [cut_front, hn1]
        exact RNum_is W (s.take 2) (by rw [List.length_take]; omega))
      have HN2 : Hid (∀ W, Calls Tryz.prog 13 #[.string ((⟨s.toArray⟩ : ByteArray).extract 2 s.length)] W fun e w' => e = .returned (.int .u64 (numB (s.drop 2) : Int)) ∧ W = w') := Lib.hid (fun W => by
        rw [cut_back]
        exact RNum_is W _ (by rw [List.length_drop]; omega))
      have y1 : IntKind.i64.wrap (n : Int) = (n : Int) := IntWalk.i64_in _ (by omega)
      have y2 : IntKind.i64.wrap (numB (s.drop 2) : Int) = q := by
        rw [hq1]
        simp [IntKind.wrap, IntKind.signed, IntKind.bits, wrap64]
        omega
      generalize numB (s.drop 2) = m8 at *
      have f0 := blk_frozen HT.out.2 0
      have f1 := blk_frozen HT.out.2 1
      have k0 := blk_cell HT.out.2 0
      have k1 := blk_cell HT.out.2 1
      simp only [List.getElem?_toArray, List.getElem?_cons_zero, List.getElem?_cons_succ] at k0 k1
      have hW9 : (((W7.setCell ⟨w6.heap.size + 1, 0, none⟩ (.int .i64 n)).setCell ⟨w6.heap.size + 1, 1, none⟩ (.int .i64 q)).drew).heap[w6.heap.size + 1]? = some (.cells #[.int .i64 n, .int .i64 q] 23 (0, 0)) := blk_keep (blk_set (blk_set HT.out.2 0 (.int .i64 n)) 1 (.int .i64 q)) ((Only.refl (fun _ => False) _).drew) id
      have hO9 : Only (fun b => b = w6.heap.size + 1) W7 (((W7.setCell ⟨w6.heap.size + 1, 0, none⟩ (.int .i64 n)).setCell ⟨w6.heap.size + 1, 1, none⟩ (.int .i64 q)).drew) := (((Only.refl (fun b => b = w6.heap.size + 1) W7).put (w6.heap.size + 1) 0 rfl _).put (w6.heap.size + 1) 1 rfl _).drew
      have H9 := Lib.hid (And.intro hW9 hO9)
      clear h10 hn1 hq1 hm8 hn64 hW9 hO9
      go_wp2_with fail
      go_region_law (first | (rw [if_pos (by simp [Region.wanted])]; go_simp; first | ((with_reducible refine (HN1.out _).mono ?_); rintro _ _ ⟨rfl, rfl⟩) | ((with_reducible refine (HN2.out _).mono ?_); rintro _ _ ⟨rfl, rfl⟩)))
      generalize ((W7.setCell ⟨w6.heap.size + 1, 0, none⟩ (.int .i64 n)).setCell ⟨w6.heap.size + 1, 1, none⟩ (.int .i64 q)).drew = W9 at *
      have r0 := blk_cell H9.out.1 0
      have r1 := blk_cell H9.out.1 1
      simp only [List.getElem?_toArray, List.getElem?_cons_zero, List.getElem?_cons_succ] at r0 r1
      clear y1 y2 f0 f1 k0 k1 hi2
      rcases hn0 with rfl | ⟨hn2, hn4⟩
      · have e20 : decide (q ≥ 0) = true := decide_eq_true (by omega)
        have e262 : decide (0 ≤ q) = true := decide_eq_true (by omega)
        go_wp2_with fail
        go_meet
        case rel => exact ⟨rfl, H9.out.2, H9.out.1⟩
      · have e20 : ((n : Int) == 0) = false := by simp; omega
        have e254 : decide ((n : Int) ≥ 2) = true := decide_eq_true (by omega)
        have e2125 : decide (2 ≤ (n : Int)) = true := decide_eq_true (by omega)
        have e2197 : decide ((n : Int) < 4000) = true := decide_eq_true (by omega)
        have e2272 : decide (q ≥ 0) = true := decide_eq_true (by omega)
        have e2336 : decide (0 ≤ q) = true := decide_eq_true (by omega)
        go_wp2_with fail
        go_meet
        case rel => exact ⟨rfl, H9.out.2, H9.out.1⟩
    case rest =>
      obtain ⟨rfl, hO, hc⟩ := hcut
      have hx := blk_keep HT.out.1 hO (by omega)
      have c0 := blk_cell hc 0
      have c1 := blk_cell hc 1
      have d0 := blk_cell hx 0
      have d1 := blk_cell hx 1
      simp only [List.getElem?_toArray, List.getElem?_cons_zero, List.getElem?_cons_succ] at c0 c1 d0 d1
      have hnq := bkt_neq n q wc
      obtain ⟨hbk, hr1, hr2, hz5, hoo⟩ := H5.out
      have hO5 : Only (fun b => b = w6.heap.size + 1) w5 wc := Only.trans (HO7.out.mono (T := fun b => b = w6.heap.size + 1) (fun _ _ (q : False) => q.elim)) hO (fun _ _ q => q)
      have h56 := HO6.out.size
      have hz := (hO5.block w.heap.size (blk_lt hz5) (fun e => by have := blk_lt hz5; omega)).trans hz5
      have z0 := blk_cell hz 0
      have z1 := blk_cell hz 1
      simp only [List.getElem?_toArray, List.getElem?_cons_zero, List.getElem?_cons_succ] at z0 z1
      have HBK := Lib.hid (hbk.only hO5 (fun e => by have := hbk.x.lt; omega) (fun b q e => by have := (hbk.bown_lt q).1; omega))
      have HOO : Hid (Only (fun _ => False) w wc) := Lib.hid ((Only.trans (hoo.mono (T := fun b => b = w6.heap.size + 1) (fun _ _ (q : False) => q.elim)) hO5 (fun _ _ q => q)).mono (fun b hb q => by have q : b = w6.heap.size + 1 := q; have := blk_lt hz5; omega))
      have hro : ∀ {v : Value}, RowAt txtC 1 w5 v (pathP path) → (∀ b, rowBlock v = some b → b < w5.heap.size) → RowAt txtC 1 wc v (pathP path) := fun h1 h2 => row_only h1 hO5 (fun b q e => by have := h2 b q; omega)
      have HR12 := Lib.hid (And.intro (hro hr1 (fun b q => hl1 b q)) (hro hr2 (fun b q => hl2 b q)))
      clear hbk hr1 hr2 hz5 hoo hO5 hz hro hO
      clear hc hx
      by_cases hrt : 0 ≤ root ∧ root < 65536
      · obtain ⟨hrt0, hrt1⟩ := hrt
        obtain ⟨rn, rfl⟩ := Int.eq_ofNat_of_zero_le hrt0
        have e5 : decide ((rn : Int) ≥ 0) = true := decide_eq_true (by omega)
        have e5' : decide (0 ≤ (rn : Int)) = true := decide_eq_true (by omega)
        have e6 : decide ((rn : Int) < 65536) = true := decide_eq_true (by omega)
        have HLY := Lib.hid (BLay_is wc rn (by omega) seq)
        have x1 : IntKind.u64.wrap (rn : Int) = (rn : Int) := by simp [IntKind.wrap, IntKind.signed, IntKind.bits]; omega
        have x2 := u64N_conv seq
        have x3 : u64N seq < 18446744073709551616 := by unfold u64N; omega
        have HL1 := Lib.hid (fun W => Low_is W rn 2 (by omega) (by omega))
        have HL2 := Lib.hid (fun W => Low_is W (u64N seq) 8 x3 (by omega))
        clear x3
        go_wp2_with fail
        (with_reducible refine HLY.out.mono ?_)
        rintro e w8 ⟨rfl, o8⟩
        have q0 : ∀ p : Grew w8, p.u.cell? ⟨w.heap.size, 0, none⟩ = some (.int .i64 (rn : Int)) := fun p => p.cell ((o8.cell (p := ⟨w.heap.size, 0, none⟩) (lt_of_cell z0) id).trans z0)
        have q1 : ∀ p : Grew w8, p.u.cell? ⟨w.heap.size, 1, none⟩ = some (.int .i64 seq) := fun p => p.cell ((o8.cell (p := ⟨w.heap.size, 1, none⟩) (lt_of_cell z1) id).trans z1)
        have k1 : ¬ 9223372036854775807 < (lowB rn 2).length + (lowB (u64N seq) 8).length := by rw [lowB_length, lowB_length]; omega
        have HO8 := Lib.hid o8
        have kb : ({ data := (lowB rn 2).toArray } : ByteArray) ++ { data := (lowB (u64N seq) 8).toArray } = { data := (layB rn seq).toArray } := ba_app _ _
        clear o8 z0 z1 HLY
        generalize layB rn seq = T at *
        go_wp2_with fail
        refine wp_region_grew (by kernel_rfl) (by kernel_rfl) (fun _W h0 h1 => ?_)
        repeat (refine h1 _ _ _ (fun K hK => ?_); go_simp; first | (refine hK _ ?_; clear hK K) | (apply Exists.intro; refine ⟨fun p => ?_, hK _ ?_⟩; first | (with_reducible refine Grew.calls _ (HL1.out _)) | (with_reducible refine Grew.calls _ (HL2.out _)); clear hK K))
        refine h0 _ (fun p => ?_)
        clear h0 h1 q0 q1 HL1 HL2 k1
        have HW8 := Lib.hid (HO8.out.trans p.h (fun _ _ q => q))
        generalize p.u = w8 at *
        clear kb x1 x2 p
        have HSM := Lib.hid (SameT_is w8 _ _ (pathP path) (row_only HR12.out.1 HW8.out (fun _ _ q => q)) (row_only HR12.out.2 HW8.out (fun _ _ q => q)) (by have := pathP_few path; omega))
        unfold StillTold at HSM
        go_wp2_with fail
        (with_reducible refine HSM.out.mono ?_)
        rintro e w9 ⟨rfl, o9⟩
        have HA := Lib.hid (BApart_is w9 w1.heap.size w1.heap.size _ vI vW [.slice a (pathP path).length c] [y] [pathP path] ((HBK.out.still HW8.out).still o9) (by simp) (by intro l hl; rw [List.mem_singleton.1 hl]; have := pathP_few path; omega) rfl rfl rfl rfl rfl rfl rfl rfl)
        unfold ApartTold at HA
        have HF : Hid (Only (fun _ => False) w w9) := Lib.hid (HOO.out.trans (HW8.out.trans o9 (fun _ _ q => q)) (fun _ _ q => q))
        clear o9 HSM
        go_wp2_with fail
        (with_reducible refine HA.out.mono ?_)
        rintro e w10 ⟨rfl, o10⟩
        have HG : Hid (Only (fun _ => False) w w10) := Lib.hid ((Only.trans (HF.out.mono (T := fun b => w1.heap.size ≤ b) (fun _ _ (q : False) => q.elim)) o10 (fun _ _ q => q)).mono (fun i hi q => by have := HB.out; have q : w1.heap.size ≤ i := q; omega))
        clear o10 HA
        go_wp2_with fail
        go_ret
        exact ⟨rfl, HG.out⟩
      · have HW8 : Hid (Only (fun _ => False) wc wc) := Lib.hid (Only.refl _ _)
        have HSM := Lib.hid (SameT_is wc _ _ (pathP path) HR12.out.1 HR12.out.2 (by have := pathP_few path; omega))
        unfold StillTold at HSM
        by_cases h0 : 0 ≤ root
        · have e5 : decide (root ≥ 0) = true := decide_eq_true (by omega)
          have e5' : decide (0 ≤ root) = true := decide_eq_true (by omega)
          have e6 : decide (root < 65536) = false := decide_eq_false (by omega)
          clear hrt
          go_wp2_with fail
          (with_reducible refine HSM.out.mono ?_)
          rintro e w9 ⟨rfl, o9⟩
          have HA := Lib.hid (BApart_is w9 w1.heap.size w1.heap.size _ vI vW [.slice a (pathP path).length c] [y] [pathP path] ((HBK.out.still HW8.out).still o9) (by simp) (by intro l hl; rw [List.mem_singleton.1 hl]; have := pathP_few path; omega) rfl rfl rfl rfl rfl rfl rfl rfl)
          unfold ApartTold at HA
          have HF : Hid (Only (fun _ => False) w w9) := Lib.hid (HOO.out.trans (HW8.out.trans o9 (fun _ _ q => q)) (fun _ _ q => q))
          clear o9 HSM
          go_wp2_with fail
          (with_reducible refine HA.out.mono ?_)
          rintro e w10 ⟨rfl, o10⟩
          have HG : Hid (Only (fun _ => False) w w10) := Lib.hid ((Only.trans (HF.out.mono (T := fun b => w1.heap.size ≤ b) (fun _ _ (q : False) => q.elim)) o10 (fun _ _ q => q)).mono (fun i hi q => by have := HB.out; have q : w1.heap.size ≤ i := q; omega))
          clear o10 HA
          go_wp2_with fail
          go_ret
          exact ⟨rfl, HG.out⟩
        · have e5 : decide (root ≥ 0) = false := decide_eq_false (by omega)
          have e5' : decide (0 ≤ root) = false := decide_eq_false (by omega)
          clear hrt
          go_wp2_with fail
          (with_reducible refine HSM.out.mono ?_)
          rintro e w9 ⟨rfl, o9⟩
          have HA := Lib.hid (BApart_is w9 w1.heap.size w1.heap.size _ vI vW [.slice a (pathP path).length c] [y] [pathP path] ((HBK.out.still HW8.out).still o9) (by simp) (by intro l hl; rw [List.mem_singleton.1 hl]; have := pathP_few path; omega) rfl rfl rfl rfl rfl rfl rfl rfl)
          unfold ApartTold at HA
          have HF : Hid (Only (fun _ => False) w w9) := Lib.hid (HOO.out.trans (HW8.out.trans o9 (fun _ _ q => q)) (fun _ _ q => q))
          clear o9 HSM
          go_wp2_with fail
          (with_reducible refine HA.out.mono ?_)
          rintro e w10 ⟨rfl, o10⟩
          have HG : Hid (Only (fun _ => False) w w10) := Lib.hid ((Only.trans (HF.out.mono (T := fun b => w1.heap.size ≤ b) (fun _ _ (q : False) => q.elim)) o10 (fun _ _ q => q)).mono (fun i hi q => by have := HB.out; have q : w1.heap.size ≤ i := q; omega))
          clear o10 HA
          go_wp2_with fail
          go_ret
          exact ⟨rfl, HG.out⟩
  | none =>
    have e10 : (s.length = 10 ∧ ((s.length : Int) == 10) = true) ∨ (s.length ≠ 10 ∧ ((s.length : Int) == 10) = false) := by
      by_cases h : s.length = 10
      · exact .inl ⟨h, by simp [h]⟩
      · exact .inr ⟨h, by simp; omega⟩
    have HRB := Lib.hid hrb
    clear hrb
    go_upto_if 53 with fail
    have t1 := blk_new w6 (.cells #[.int .i64 0, .int .i64 0] 23)
    have t2 := blk_keep t1 ((Only.refl (fun _ => False) (w6.alloc (.cells #[.int .i64 0, .int .i64 0] 23))).alloc (.cells #[.int .i64 0, .int .i64 0] 23)) id
    have t3 := blk_new (w6.alloc (.cells #[.int .i64 0, .int .i64 0] 23)) (.cells #[.int .i64 0, .int .i64 0] 23)
    have t4 : (w6.alloc (.cells #[.int .i64 0, .int .i64 0] 23)).heap.size = w6.heap.size + 1 := Array.size_push _
    rw [t4] at t3
    have HO7 := Lib.hid ((HO6.out.alloc (.cells #[.int .i64 0, .int .i64 0] 23)).alloc (.cells #[.int .i64 0, .int .i64 0] 23))
    have HT := Lib.hid (And.intro t2 t3)
    clear t1 t2 t3 t4
    generalize (w6.alloc (.cells #[.int .i64 0, .int .i64 0] 23)).alloc (.cells #[.int .i64 0, .int .i64 0] 23) = W7 at *
    go_cut [14] (fun s14 wx => s14 = .bool false ∧ Only (fun b => b = w6.heap.size + 1) W7 wx)
    case first =>
      rcases e10 with ⟨h10, e10⟩ | ⟨_, e10⟩
      · obtain ⟨n, hn1⟩ : ∃ n, n = numB (s.take 2) := ⟨_, rfl⟩
        obtain ⟨q, hq1⟩ : ∃ q, q = wrap64 (numB (s.drop 2) : Int) := ⟨_, rfl⟩
        have hbad : q < 0 ∨ n = 1 ∨ 4000 ≤ n := by
          have h2 := HRB.out
          unfold readB at h2
          rw [← hn1, ← hq1] at h2
          split at h2
          · cases h2
          · rename_i h3
            apply Classical.byContradiction
            intro h4
            exact h3 ⟨h10, by omega, by omega⟩
        have hi2 : (2 : Int) ≤ (s.length : Int) := by omega
        have hm8 : numB (s.drop 2) < 18446744073709551616 := Nat.lt_of_lt_of_le (numB_lt _) (Nat.le_trans (Nat.pow_le_pow_right (by omega) (show (s.drop 2).length ≤ 8 by rw [List.length_drop]; omega)) (by decide))
        have hn64 : n < 65536 := by rw [hn1]; exact Nat.lt_of_lt_of_le (numB_lt _) (Nat.le_trans (Nat.pow_le_pow_right (by omega) (show (s.take 2).length ≤ 2 by rw [List.length_take]; omega)) (by decide))
        have HN1 : Hid (∀ W, Calls Tryz.prog 13 #[.string ((⟨s.toArray⟩ : ByteArray).extract 0 2)] W fun e w' => e = .returned (.int .u64 (n : Int)) ∧ W = w') := Lib.hid (fun W => by
          rw [cut_front, hn1]
          exact RNum_is W (s.take 2) (by rw [List.length_take]; omega))
        have HN2 : Hid (∀ W, Calls Tryz.prog 13 #[.string ((⟨s.toArray⟩ : ByteArray).extract 2 s.length)] W fun e w' => e = .returned (.int .u64 (numB (s.drop 2) : Int)) ∧ W = w') := Lib.hid (fun W => by
          rw [cut_back]
          exact RNum_is W _ (by rw [List.length_drop]; omega))
        have y1 : IntKind.i64.wrap (n : Int) = (n : Int) := IntWalk.i64_in _ (by omega)
        have y2 : IntKind.i64.wrap (numB (s.drop 2) : Int) = q := by
          rw [hq1]
          simp [IntKind.wrap, IntKind.signed, IntKind.bits, wrap64]
          omega
        generalize numB (s.drop 2) = m8 at *
        have f0 := blk_frozen HT.out.2 0
        have f1 := blk_frozen HT.out.2 1
        have k0 := blk_cell HT.out.2 0
        have k1 := blk_cell HT.out.2 1
        simp only [List.getElem?_toArray, List.getElem?_cons_zero, List.getElem?_cons_succ] at k0 k1
        have hW9 : (((W7.setCell ⟨w6.heap.size + 1, 0, none⟩ (.int .i64 n)).setCell ⟨w6.heap.size + 1, 1, none⟩ (.int .i64 q)).drew).heap[w6.heap.size + 1]? = some (.cells #[.int .i64 n, .int .i64 q] 23 (0, 0)) := blk_keep (blk_set (blk_set HT.out.2 0 (.int .i64 n)) 1 (.int .i64 q)) ((Only.refl (fun _ => False) _).drew) id
        have hO9 : Only (fun b => b = w6.heap.size + 1) W7 (((W7.setCell ⟨w6.heap.size + 1, 0, none⟩ (.int .i64 n)).setCell ⟨w6.heap.size + 1, 1, none⟩ (.int .i64 q)).drew) := (((Only.refl (fun b => b = w6.heap.size + 1) W7).put (w6.heap.size + 1) 0 rfl _).put (w6.heap.size + 1) 1 rfl _).drew
        have H9 := Lib.hid (And.intro hW9 hO9)
        clear h10 hn1 hq1 hm8 hn64 hW9 hO9
        go_wp2_with fail
        go_region_law (first | (rw [if_pos (by simp [Region.wanted])]; go_simp; first | ((with_reducible refine (HN1.out _).mono ?_); rintro _ _ ⟨rfl, rfl⟩) | ((with_reducible refine (HN2.out _).mono ?_); rintro _ _ ⟨rfl, rfl⟩)))
        generalize ((W7.setCell ⟨w6.heap.size + 1, 0, none⟩ (.int .i64 n)).setCell ⟨w6.heap.size + 1, 1, none⟩ (.int .i64 q)).drew = W9 at *
        have r0 := blk_cell H9.out.1 0
        have r1 := blk_cell H9.out.1 1
        simp only [List.getElem?_toArray, List.getElem?_cons_zero, List.getElem?_cons_succ] at r0 r1
        clear y1 y2 f0 f1 k0 k1 hi2
        by_cases hz : n = 0
        · subst hz
          have hbad : q < 0 := by omega
          have e20 : decide (q ≥ 0) = false := decide_eq_false (by omega)
          have e264 : decide (0 ≤ q) = false := decide_eq_false (by omega)
          go_wp2_with fail
          go_meet
          case rel => exact ⟨rfl, H9.out.2⟩
        · by_cases h2 : 2 ≤ n
          · by_cases h4 : n < 4000
            · have hbad : q < 0 := by omega
              clear hz
              have e20 : ((n : Int) == 0) = false := by simp; omega
              have e254 : decide ((n : Int) ≥ 2) = true := decide_eq_true (by omega)
              have e2125 : decide (2 ≤ (n : Int)) = true := decide_eq_true (by omega)
              have e2197 : decide ((n : Int) < 4000) = true := decide_eq_true (by omega)
              have e2272 : decide (q ≥ 0) = false := decide_eq_false (by omega)
              have e2338 : decide (0 ≤ q) = false := decide_eq_false (by omega)
              go_wp2_with fail
              go_meet
              case rel => exact ⟨rfl, H9.out.2⟩
            · clear hbad hz
              have e20 : ((n : Int) == 0) = false := by simp; omega
              have e254 : decide ((n : Int) ≥ 2) = true := decide_eq_true (by omega)
              have e2125 : decide (2 ≤ (n : Int)) = true := decide_eq_true (by omega)
              have e2197 : decide ((n : Int) < 4000) = false := decide_eq_false (by omega)
              go_wp2_with fail
              go_meet
              case rel => exact ⟨rfl, H9.out.2⟩
          · clear hbad
            have e20 : ((n : Int) == 0) = false := by simp; omega
            have e254 : decide ((n : Int) ≥ 2) = false := decide_eq_false (by omega)
            have e2127 : decide (2 ≤ (n : Int)) = false := decide_eq_false (by omega)
            go_wp2_with fail
            go_meet
            case rel => exact ⟨rfl, H9.out.2⟩
      · go_wp2_with fail
        go_meet
        case rel => exact ⟨by rw [e10], Only.refl _ _⟩
    case rest =>
      obtain ⟨rfl, hO⟩ := hcut
      have hx := blk_keep HT.out.1 hO (by omega)
      have d0 := blk_cell hx 0
      have d1 := blk_cell hx 1
      simp only [List.getElem?_toArray, List.getElem?_cons_zero, List.getElem?_cons_succ] at d0 d1
      have hnq := bkt_neq 0 0 wc
      obtain ⟨hbk, hr1, hr2, hz5, hoo⟩ := H5.out
      have hO5 : Only (fun b => b = w6.heap.size + 1) w5 wc := Only.trans (HO7.out.mono (T := fun b => b = w6.heap.size + 1) (fun _ _ (q : False) => q.elim)) hO (fun _ _ q => q)
      have h56 := HO6.out.size
      have hz := (hO5.block w.heap.size (blk_lt hz5) (fun e => by have := blk_lt hz5; omega)).trans hz5
      have z0 := blk_cell hz 0
      have z1 := blk_cell hz 1
      simp only [List.getElem?_toArray, List.getElem?_cons_zero, List.getElem?_cons_succ] at z0 z1
      have HBK := Lib.hid (hbk.only hO5 (fun e => by have := hbk.x.lt; omega) (fun b q e => by have := (hbk.bown_lt q).1; omega))
      have HOO : Hid (Only (fun _ => False) w wc) := Lib.hid ((Only.trans (hoo.mono (T := fun b => b = w6.heap.size + 1) (fun _ _ (q : False) => q.elim)) hO5 (fun _ _ q => q)).mono (fun b hb q => by have q : b = w6.heap.size + 1 := q; have := blk_lt hz5; omega))
      have hro : ∀ {v : Value}, RowAt txtC 1 w5 v (pathP path) → (∀ b, rowBlock v = some b → b < w5.heap.size) → RowAt txtC 1 wc v (pathP path) := fun h1 h2 => row_only h1 hO5 (fun b q e => by have := h2 b q; omega)
      have HR12 := Lib.hid (And.intro (hro hr1 (fun b q => hl1 b q)) (hro hr2 (fun b q => hl2 b q)))
      clear hbk hr1 hr2 hz5 hoo hO5 hz hro hO
      clear hx
      by_cases hrt : 0 ≤ root ∧ root < 65536
      · obtain ⟨hrt0, hrt1⟩ := hrt
        obtain ⟨rn, rfl⟩ := Int.eq_ofNat_of_zero_le hrt0
        have e5 : decide ((rn : Int) ≥ 0) = true := decide_eq_true (by omega)
        have e5' : decide (0 ≤ (rn : Int)) = true := decide_eq_true (by omega)
        have e6 : decide ((rn : Int) < 65536) = true := decide_eq_true (by omega)
        have HLY := Lib.hid (BLay_is wc rn (by omega) seq)
        have x1 : IntKind.u64.wrap (rn : Int) = (rn : Int) := by simp [IntKind.wrap, IntKind.signed, IntKind.bits]; omega
        have x2 := u64N_conv seq
        have x3 : u64N seq < 18446744073709551616 := by unfold u64N; omega
        have HL1 := Lib.hid (fun W => Low_is W rn 2 (by omega) (by omega))
        have HL2 := Lib.hid (fun W => Low_is W (u64N seq) 8 x3 (by omega))
        clear x3
        go_wp2_with fail
        (with_reducible refine HLY.out.mono ?_)
        rintro e w8 ⟨rfl, o8⟩
        have q0 : ∀ p : Grew w8, p.u.cell? ⟨w.heap.size, 0, none⟩ = some (.int .i64 (rn : Int)) := fun p => p.cell ((o8.cell (p := ⟨w.heap.size, 0, none⟩) (lt_of_cell z0) id).trans z0)
        have q1 : ∀ p : Grew w8, p.u.cell? ⟨w.heap.size, 1, none⟩ = some (.int .i64 seq) := fun p => p.cell ((o8.cell (p := ⟨w.heap.size, 1, none⟩) (lt_of_cell z1) id).trans z1)
        have k1 : ¬ 9223372036854775807 < (lowB rn 2).length + (lowB (u64N seq) 8).length := by rw [lowB_length, lowB_length]; omega
        have HO8 := Lib.hid o8
        have kb : ({ data := (lowB rn 2).toArray } : ByteArray) ++ { data := (lowB (u64N seq) 8).toArray } = { data := (layB rn seq).toArray } := ba_app _ _
        clear o8 z0 z1 HLY
        generalize layB rn seq = T at *
        go_wp2_with fail
        refine wp_region_grew (by kernel_rfl) (by kernel_rfl) (fun _W h0 h1 => ?_)
        repeat (refine h1 _ _ _ (fun K hK => ?_); go_simp; first | (refine hK _ ?_; clear hK K) | (apply Exists.intro; refine ⟨fun p => ?_, hK _ ?_⟩; first | (with_reducible refine Grew.calls _ (HL1.out _)) | (with_reducible refine Grew.calls _ (HL2.out _)); clear hK K))
        refine h0 _ (fun p => ?_)
        clear h0 h1 q0 q1 HL1 HL2 k1
        have HW8 := Lib.hid (HO8.out.trans p.h (fun _ _ q => q))
        generalize p.u = w8 at *
        clear kb x1 x2 p
        have HSM := Lib.hid (SameT_is w8 _ _ (pathP path) (row_only HR12.out.1 HW8.out (fun _ _ q => q)) (row_only HR12.out.2 HW8.out (fun _ _ q => q)) (by have := pathP_few path; omega))
        unfold StillTold at HSM
        go_wp2_with fail
        (with_reducible refine HSM.out.mono ?_)
        rintro e w9 ⟨rfl, o9⟩
        have HA := Lib.hid (BApart_is w9 w1.heap.size w1.heap.size _ vI vW [.slice a (pathP path).length c] [y] [pathP path] ((HBK.out.still HW8.out).still o9) (by simp) (by intro l hl; rw [List.mem_singleton.1 hl]; have := pathP_few path; omega) rfl rfl rfl rfl rfl rfl rfl rfl)
        unfold ApartTold at HA
        have HF : Hid (Only (fun _ => False) w w9) := Lib.hid (HOO.out.trans (HW8.out.trans o9 (fun _ _ q => q)) (fun _ _ q => q))
        clear o9 HSM
        go_wp2_with fail
        (with_reducible refine HA.out.mono ?_)
        rintro e w10 ⟨rfl, o10⟩
        have HG : Hid (Only (fun _ => False) w w10) := Lib.hid ((Only.trans (HF.out.mono (T := fun b => w1.heap.size ≤ b) (fun _ _ (q : False) => q.elim)) o10 (fun _ _ q => q)).mono (fun i hi q => by have := HB.out; have q : w1.heap.size ≤ i := q; omega))
        clear o10 HA
        go_wp2_with fail
        go_ret
        exact ⟨rfl, HG.out⟩
      · have HW8 : Hid (Only (fun _ => False) wc wc) := Lib.hid (Only.refl _ _)
        have HSM := Lib.hid (SameT_is wc _ _ (pathP path) HR12.out.1 HR12.out.2 (by have := pathP_few path; omega))
        unfold StillTold at HSM
        by_cases h0 : 0 ≤ root
        · have e5 : decide (root ≥ 0) = true := decide_eq_true (by omega)
          have e5' : decide (0 ≤ root) = true := decide_eq_true (by omega)
          have e6 : decide (root < 65536) = false := decide_eq_false (by omega)
          clear hrt
          go_wp2_with fail
          (with_reducible refine HSM.out.mono ?_)
          rintro e w9 ⟨rfl, o9⟩
          have HA := Lib.hid (BApart_is w9 w1.heap.size w1.heap.size _ vI vW [.slice a (pathP path).length c] [y] [pathP path] ((HBK.out.still HW8.out).still o9) (by simp) (by intro l hl; rw [List.mem_singleton.1 hl]; have := pathP_few path; omega) rfl rfl rfl rfl rfl rfl rfl rfl)
          unfold ApartTold at HA
          have HF : Hid (Only (fun _ => False) w w9) := Lib.hid (HOO.out.trans (HW8.out.trans o9 (fun _ _ q => q)) (fun _ _ q => q))
          clear o9 HSM
          go_wp2_with fail
          (with_reducible refine HA.out.mono ?_)
          rintro e w10 ⟨rfl, o10⟩
          have HG : Hid (Only (fun _ => False) w w10) := Lib.hid ((Only.trans (HF.out.mono (T := fun b => w1.heap.size ≤ b) (fun _ _ (q : False) => q.elim)) o10 (fun _ _ q => q)).mono (fun i hi q => by have := HB.out; have q : w1.heap.size ≤ i := q; omega))
          clear o10 HA
          go_wp2_with fail
          go_ret
          exact ⟨rfl, HG.out⟩
        · have e5 : decide (root ≥ 0) = false := decide_eq_false (by omega)
          have e5' : decide (0 ≤ root) = false := decide_eq_false (by omega)
          clear hrt
          go_wp2_with fail
          (with_reducible refine HSM.out.mono ?_)
          rintro e w9 ⟨rfl, o9⟩
          have HA := Lib.hid (BApart_is w9 w1.heap.size w1.heap.size _ vI vW [.slice a (pathP path).length c] [y] [pathP path] ((HBK.out.still HW8.out).still o9) (by simp) (by intro l hl; rw [List.mem_singleton.1 hl]; have := pathP_few path; omega) rfl rfl rfl rfl rfl rfl rfl rfl)
          unfold ApartTold at HA
          have HF : Hid (Only (fun _ => False) w w9) := Lib.hid (HOO.out.trans (HW8.out.trans o9 (fun _ _ q => q)) (fun _ _ q => q))
          clear o9 HSM
          go_wp2_with fail
          (with_reducible refine HA.out.mono ?_)
          rintro e w10 ⟨rfl, o10⟩
          have HG : Hid (Only (fun _ => False) w w10) := Lib.hid ((Only.trans (HF.out.mono (T := fun b => w1.heap.size ≤ b) (fun _ _ (q : False) => q.elim)) o10 (fun _ _ q => q)).mono (fun i hi q => by have := HB.out; have q : w1.heap.size ≤ i := q; omega))
          clear o10 HA
          go_wp2_with fail
          go_ret
          exact ⟨rfl, HG.out⟩
end Go.Proofs.YtbhiamcmiopnoaaGreatDoor.bk
