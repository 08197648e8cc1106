/- CmdBytes: the law itself. Conditions: none but those of the statement. -/
import Derived.Test.YtlkknekflgclgaaGreatDoorZBkApK
import Derived.Test.YtlkknekflgclgaaGreatDoorZCyE
import Derived.Test.YtlkknekflgclgaaGreatDoorZCy5
import Derived.Test.YtlkknekflgclgaaGreatDoorZCyU
import Derived.Test.YtlkknekflgclgaaGreatDoorZCq9
namespace Go.Proofs.YtlkknekflgclgaaGreatDoor
open Go.RowKit Go.MuLone

set_option maxRecDepth 100000 in
set_option maxHeartbeats 4000000 in
theorem Room_one (w : World) (left z : Int) (g : Nat) (hc : w.cell? ⟨g, 0, none⟩ = some (.int .i64 z)) :
    Calls Tryz.prog 24 #[.int .i64 left, .slice (some ⟨g, 0, none⟩) 1 1] w fun e w' => (∃ z, e = .returned (.int .i64 z)) ∧ Only (fun _ => False) w w' := by
  go_enter Tryz.func24, Tryz.ntmps24
  go_wp2_with fail
  go_loopg [0, 5] 1 (fun gh lv iv wr => ∃ (i : Nat) (lf : Int), gh + i = 1 ∧ iv = .int .i64 i ∧ lv = .int .i64 lf ∧ wr = w)
  case atStart => exact ⟨0, left, by omega, rfl, rfl, rfl⟩
  case round =>
    obtain ⟨i, lf, hgk, rfl, rfl, rfl⟩ := hrel
    by_cases hi : i < 1
    · obtain rfl : i = 0 := by omega
      have hwi : IntKind.i64.wrap (((0 : Nat) : Int) + 1) = 1 := by decide
      by_cases h1 : lf < 0
      · go_wp2_with fail
        go_ret
        exact ⟨⟨_, rfl⟩, Only.refl _ _⟩
      · by_cases h2 : z > lf
        · have e1 : decide (lf < 0) = false := decide_eq_false h1
          have e2 : decide (lf < z) = true := decide_eq_true h2
          go_wp2_with fail
          go_ret
          exact ⟨⟨_, rfl⟩, Only.refl _ _⟩
        · have e1 : decide (lf < 0) = false := decide_eq_false h1
          have e2 : decide (lf < z) = false := decide_eq_false (by omega)
          go_wp2_with fail
          go_roundg (gk - 1)
          case measure => omega
          case rel => exact ⟨0 + 1, _, by omega, by go_num, rfl, rfl⟩
    · obtain rfl : i = 1 := by omega
      go_wp2_with fail
      go_ret
      exact ⟨⟨_, rfl⟩, Only.refl _ _⟩
theorem readQ_few (b : Bytes) : (readQ b).1.cmds.length ≤ 255 := by
  have h1 := cmdsG_len (lowG (intG (intG ⟨b, 0⟩).2).2 1).1 (lowG (intG (intG ⟨b, 0⟩).2).2 1).2
  have h2 := lowG_lt (intG (intG ⟨b, 0⟩).2).2 1
  unfold readQ
  split
  · simp [noReq]
  · split
    · simp [noReq]
    · unfold reqG
      dsimp only
      omega
theorem readEntryQ_few (b : Bytes) : (readEntryQ b).1.req.cmds.length ≤ 255 := by
  unfold readEntryQ readE
  split
  · simp [noEnt, noReq]
  · split
    · simp [noEnt, noReq]
    · split
      · simp [noEnt, noReq]
      · exact readQ_few _
theorem readRepQ_few (b : Bytes) : (readRepQ b).1.length ≤ 255 := by
  have h1 := rpsG_len (lowG ⟨b, 0⟩ 1).1 (lowG ⟨b, 0⟩ 1).2
  have h2 := lowG_lt ⟨b, 0⟩ 1
  unfold readRepQ
  split
  · simp
  · dsimp only
    omega
set_option maxRecDepth 100000 in
set_option maxHeartbeats 16000000 in
theorem bytes_is (w : World) (nt : Nat) (hT : Tab nt w) (hnt : nt ≤ w.heap.size) (cl sq : Int) (l : List Cq) (v : Value) (hv : RowAt cmdC 5 w v l) (hn : l.length ≤ 9223372036854775807) (ix tm : Int)
    (ar : Option Addr) (cr : Nat) (rs : List Rp) (hr : RowAt rpC 2 w (.slice ar rs.length cr) rs) (hrc : rs.length ≤ cr) (hrn : rs.length ≤ 9223372036854775807) (hre : ∀ x ∈ rs, ErrOk x.err) (b : Bytes) :
    Calls Tryz.prog 5 #[.agg #[.int .i64 cl, .int .i64 sq, v], .int .i64 ix, .int .i64 tm, .slice ar rs.length cr, str b] w fun e w' => e = .returned (.bool true) ∧ Only (fun _ => False) w w' := by
  obtain ⟨a, cap, rfl, _⟩ := row_len hv
  have oA := (Only.refl (fun _ => False) w).alloc (.cells #[.int .i64 cl, .int .i64 sq, .slice a l.length cap] 52)
  have n1 := blk_new w (.cells #[.int .i64 cl, .int .i64 sq, .slice a l.length cap] 52)
  have HV := Lib.hid hv
  have HT := Lib.hid hT
  have HRV := Lib.hid (And.intro hr (And.intro hrc hre))
  have HAl : Hid (∀ W, Only (fun _ => False) w W → Calls Tryz.prog 17 #[] W fun e w' => e = .returned (.bool true) ∧ Only (fun _ => False) W w') := Lib.hid (fun W hW => alive_is W nt (HT.out.still hW) (by have := hW.size; omega))
  have HC1 : Hid (∀ W, Only (fun _ => False) w W → ∀ z, Calls Tryz.prog 16 #[.int .i64 z, .slice a l.length cap] W fun e w' => (∃ z, e = .returned (.int .i64 z)) ∧ Only (fun _ => False) W w') := Lib.hid (fun W hW z => Cmds_any W z _ l (row_still HV.out hW) hn)
  clear hv hT hr hrc hre
  go_enter Tryz.func5, Tryz.ntmps5
  by_cases h1 : 300 < l.length
  · have e1 : decide (300 < (l.length : Int)) = true := decide_eq_true (by omega)
    go_wp2_with fail
    (with_reducible refine (HAl.out _ oA).mono ?_)
    rintro e w2 ⟨rfl, o2⟩
    have HF := Lib.hid (oA.trans o2 (fun _ _ q => q))
    clear o2
    go_wp2_with fail
    go_ret
    exact ⟨rfl, HF.out⟩
  have e1 : decide (300 < (l.length : Int)) = false := decide_eq_false (by omega)
  go_wp2_with fail
  generalize hW0 : w.alloc (.cells #[.int .i64 cl, .int .i64 sq, .slice a l.length cap] 52) = W0 at *
  have HZ : Hid (∀ W, Only (fun _ => False) W0 W → W.cell? ⟨w.heap.size, 0, none⟩ = some (.int .i64 cl) ∧ W.cell? ⟨w.heap.size, 1, none⟩ = some (.int .i64 sq) ∧ W.cell? ⟨w.heap.size, 2, none⟩ = some (.slice a l.length cap)) := Lib.hid (fun W hW => ⟨blk_cell (blk_keep n1 hW id) 0, blk_cell (blk_keep n1 hW id) 1, blk_cell (blk_keep n1 hW id) 2⟩)
  have HO := Lib.hid oA
  clear n1 hW0 oA
  (with_reducible refine (HC1.out _ HO.out _).mono ?_)
  rintro e w1 ⟨⟨z1, rfl⟩, o1⟩
  have O1 := Lib.hid o1
  obtain ⟨c0, c1, c2⟩ := HZ.out w1 o1
  clear o1
  by_cases hz1 : z1 < 0
  · have e2 : decide (z1 < 0) = true := decide_eq_true hz1
    go_wp2_with fail
    (with_reducible refine (HAl.out _ (HO.out.trans O1.out (fun _ _ q => q))).mono ?_)
    rintro e w2 ⟨rfl, o2⟩
    have HF := Lib.hid ((HO.out.trans O1.out (fun _ _ q => q)).trans o2 (fun _ _ q => q))
    clear o2
    go_wp2_with fail
    go_ret
    exact ⟨rfl, HF.out⟩
  have e2 : decide (z1 < 0) = false := decide_eq_false hz1
  by_cases h3 : 3000 < b.length
  · have e3 : decide (3000 < (b.length : Int)) = true := decide_eq_true (by omega)
    go_wp2_with fail
    (with_reducible refine (HAl.out _ (HO.out.trans O1.out (fun _ _ q => q))).mono ?_)
    rintro e w2 ⟨rfl, o2⟩
    have HF := Lib.hid ((HO.out.trans O1.out (fun _ _ q => q)).trans o2 (fun _ _ q => q))
    clear o2
    go_wp2_with fail
    go_ret
    exact ⟨rfl, HF.out⟩
  have e3 : decide (3000 < (b.length : Int)) = false := decide_eq_false (by omega)
  by_cases h4 : 300 < rs.length
  · have e4 : decide (300 < (rs.length : Int)) = true := decide_eq_true (by omega)
    go_wp2_with fail
    (with_reducible refine (HAl.out _ (HO.out.trans O1.out (fun _ _ q => q))).mono ?_)
    rintro e w2 ⟨rfl, o2⟩
    have HF := Lib.hid ((HO.out.trans O1.out (fun _ _ q => q)).trans o2 (fun _ _ q => q))
    clear o2
    go_wp2_with fail
    go_ret
    exact ⟨rfl, HF.out⟩
  have e4 : decide (300 < (rs.length : Int)) = false := decide_eq_false (by omega)
  go_wp2_with fail
  (with_reducible refine (HAl.out _ (HO.out.trans O1.out (fun _ _ q => q))).mono ?_)
  rintro e w3 ⟨rfl, o3⟩
  have O3 := Lib.hid (O1.out.trans o3 (fun _ _ q => q))
  clear o3 O1 HAl HC1 e1 e2 e3 e4 c0 c1 c2
  go_wp2_with fail
  go_loopg [11, 12] rs.length (fun gh lv iv wr => ∃ (i : Nat) (lf : Int), gh + i = rs.length ∧ iv = .int .i64 i ∧ lv = .int .i64 lf ∧ Only (fun _ => False) W0 wr)
  case atStart => exact ⟨0, _, by omega, rfl, rfl, O3.out⟩
  case round =>
    obtain ⟨i, lf, hgk, rfl, rfl, ho⟩ := hrel
    have HOw := Lib.hid ho
    clear ho
    by_cases hgo : i < rs.length ∧ 0 ≤ lf
    · obtain ⟨hi, hlf⟩ := hgo
      obtain ⟨x, hx⟩ : ∃ x, rs[i]? = some x := ⟨_, List.getElem?_eq_getElem hi⟩
      obtain ⟨_, _, hA, hne⟩ := row_len HRV.out.1
      cases hA
      obtain ⟨g, off, rfl⟩ := hne (fun e => by rw [e] at hi; simp at hi)
      obtain ⟨_, d1⟩ := rp_at (row_still HRV.out.1 (HO.out.trans HOw.out (fun _ _ q => q))) hx
      have hi1 : (i : Int) < (rs.length : Int) := by omega
      have hi0 : (0 : Int) ≤ (i : Int) := by omega
      have e1 : decide (lf ≥ 0) = true := decide_eq_true hlf
      have e2 : decide (0 ≤ lf) = true := decide_eq_true hlf
      have hwi : IntKind.i64.wrap ((i : Int) + 1) = (i : Int) + 1 := IntWalk.i64_in _ (by omega)
      have HRm : Hid (∀ W, Only (fun _ => False) (wr.alloc (.cells #[.int .i64 (x.val.length : Int)] 3)) W → Calls Tryz.prog 24 #[.int .i64 lf, .slice (some ⟨wr.heap.size, 0, none⟩) 1 1] W fun e w' => (∃ z, e = .returned (.int .i64 z)) ∧ Only (fun _ => False) W w') := Lib.hid (fun W hW => Room_one W lf (x.val.length : Int) wr.heap.size (blk_cell (blk_keep (blk_new wr (.cells #[.int .i64 (x.val.length : Int)] 3)) hW id) 0))
      have k2 : Only (fun _ => False) wr (wr.alloc (.cells #[.int .i64 (x.val.length : Int)] 3)) := (Only.refl _ _).alloc _
      clear hx
      go_wp2_with fail
      (with_reducible refine (HRm.out _ (Only.refl _ _)).mono ?_)
      rintro e w5 ⟨⟨zz, rfl⟩, o5⟩
      have HO5 := Lib.hid (HOw.out.trans (k2.trans o5 (fun _ _ q => q)) (fun _ _ q => q))
      clear o5 k2 HRm d1
      go_wp2_with fail
      go_roundg (gk - 1)
      case measure => omega
      case rel => exact ⟨i + 1, zz, by omega, by go_num, rfl, HO5.out⟩
    · have HD : Hid (¬ (i < rs.length) ∨ lf < 0) := Lib.hid (by omega)
      by_cases hlf : lf < 0
      · by_cases hi : i < rs.length
        · have hi1 : (i : Int) < (rs.length : Int) := by omega
          have e1 : decide (lf ≥ 0) = false := decide_eq_false (by omega)
          have e2 : decide (0 ≤ lf) = false := decide_eq_false (by omega)
          have e3 : decide (lf < 0) = true := decide_eq_true hlf
          have HF := Lib.hid (HO.out.trans HOw.out (fun _ _ q => q))
          go_wp2_with fail
          go_ret
          exact ⟨rfl, HF.out⟩
        · have hi1 : ¬ (i : Int) < (rs.length : Int) := by omega
          have e3 : decide (lf < 0) = true := decide_eq_true hlf
          have HF := Lib.hid (HO.out.trans HOw.out (fun _ _ q => q))
          go_wp2_with fail
          go_ret
          exact ⟨rfl, HF.out⟩
      · have hi1 : ¬ (i : Int) < (rs.length : Int) := by have := HD.out; omega
        have e3 : decide (lf < 0) = false := decide_eq_false hlf
        obtain ⟨c0, c1, c2⟩ := HZ.out wr HOw.out
        clear hgo HD
        have sz : ∀ (x : World) (o : Obj), (x.alloc o).heap.size = x.heap.size + 1 := fun x o => Array.size_push _
        obtain ⟨T, O, hK⟩ := bk.Kept.start (wr.alloc (.cells #[.int .i64 ix, .int .i64 tm, .int .i64 cl, .int .i64 sq, .slice a l.length cap] 57))
        have hE := blk_new wr (.cells #[.int .i64 ix, .int .i64 tm, .int .i64 cl, .int .i64 sq, .slice a l.length cap] 57)
        have hB0 := HOw.out.trans ((Only.refl (fun _ => False) wr).alloc (.cells #[.int .i64 ix, .int .i64 tm, .int .i64 cl, .int .i64 sq, .slice a l.length cap] 57)) (fun _ _ q => q)
        have hL := blk_new ((wr.alloc (.cells #[.int .i64 ix, .int .i64 tm, .int .i64 cl, .int .i64 sq, .slice a l.length cap] 57)).alloc (.cells (Array.replicate 18 (.slice none 0 0)) 36)) (.cells #[.int .i64 ix, .int .i64 tm, .int .i64 cl, .int .i64 sq, .slice a l.length cap] 57)
        have hK1 := hK.still ((Only.refl (fun _ => False) _).alloc (.cells #[.int .i64 ix, .int .i64 tm, .int .i64 cl, .int .i64 sq, .slice a l.length cap] 57))
        rw [sz, sz] at hL
        rw [sz] at hK1
        go_wp2_with (refine wpList_build_ent _ rfl (.tmp 83) (.tmp 84) (.tmp 85) rfl ix tm cl sq a l.length cap rfl rfl rfl ?_)
        have e18 : (.cells (Array.replicate 18 (.slice none 0 0)) 36 : Obj) = .cells #[.slice none 0 0, .slice none 0 0, .slice none 0 0, .slice none 0 0, .slice none 0 0, .slice none 0 0, .slice none 0 0, .slice none 0 0, .slice none 0 0, .slice none 0 0, .slice none 0 0, .slice none 0 0, .slice none 0 0, .slice none 0 0, .slice none 0 0, .slice none 0 0, .slice none 0 0, .slice none 0 0] 36 := rfl
        rw [e18] at hL hK1 hK
        generalize hWb : wr.alloc (.cells #[.int .i64 ix, .int .i64 tm, .int .i64 cl, .int .i64 sq, .slice a l.length cap] 57) = Wb at *
        generalize hW3 : (Wb.alloc (.cells #[.slice none 0 0, .slice none 0 0, .slice none 0 0, .slice none 0 0, .slice none 0 0, .slice none 0 0, .slice none 0 0, .slice none 0 0, .slice none 0 0, .slice none 0 0, .slice none 0 0, .slice none 0 0, .slice none 0 0, .slice none 0 0, .slice none 0 0, .slice none 0 0, .slice none 0 0, .slice none 0 0] 36)).alloc (.cells #[.int .i64 ix, .int .i64 tm, .int .i64 cl, .int .i64 sq, .slice a l.length cap] 57) = W3 at *
        have HWB := Lib.hid (HO.out.trans hB0 (fun _ _ q => q))
        have HKP := Lib.hid hK1
        have HZ2 : Hid (∀ W, Only (fun _ => False) Wb W → (W.cell? ⟨w.heap.size, 0, none⟩ = some (.int .i64 cl) ∧ W.cell? ⟨w.heap.size, 1, none⟩ = some (.int .i64 sq) ∧ W.cell? ⟨w.heap.size, 2, none⟩ = some (.slice a l.length cap)) ∧
            W.cell? ⟨wr.heap.size, 0, none⟩ = some (.int .i64 ix) ∧ W.cell? ⟨wr.heap.size, 1, none⟩ = some (.int .i64 tm) ∧ W.cell? ⟨wr.heap.size, 2, none⟩ = some (.int .i64 cl) ∧ W.cell? ⟨wr.heap.size, 3, none⟩ = some (.int .i64 sq) ∧ W.cell? ⟨wr.heap.size, 4, none⟩ = some (.slice a l.length cap)) := Lib.hid (fun W hW => by
          have y := blk_keep hE hW id
          exact ⟨HZ.out W (hB0.trans hW (fun _ _ q => q)), blk_cell y 0, blk_cell y 1, blk_cell y 2, blk_cell y 3, blk_cell y 4⟩)
        have HLE := Lib.hid (LentE_is W3 (wr.heap.size + 1 + 1) 1 ix tm cl sq (.slice a l.length cap) l (by omega) (fun j u hu => (blk_cell hL j).trans (by simpa [entC] using hu)) (row_still HV.out ((HWB.out).trans hK1.since (fun _ _ q => q))) rfl)
        unfold LentTold at HLE
        clear hK hE hB0 hL hK1 sz hWb hW3 e18 c0 c1 c2 HOw O3 e3 hi1 hlf HZ HO
        (with_reducible refine HLE.out.mono ?_)
        rintro e w4 ⟨gm, cm, vm, rfl, hlt, o4⟩
        obtain ⟨am, bm, rfl⟩ := bk.row_form hlt.row
        have HK4 := Lib.hid (HKP.out.still o4)
        have HL4 := Lib.hid hlt
        have m2 := hlt.c2
        have m3 := hlt.c3
        have m4 := hlt.c4
        have HQ4 := Lib.hid (Lay_is w4 ⟨cl, sq, l⟩ _ hlt.row (by show l.length ≤ _; omega))
        clear hlt o4 HLE HKP
        generalize wr.heap.size = t13 at *
        generalize w.heap.size = t5 at *
        generalize wr = wr0 at *
        generalize w1 = w10 at *
        generalize hly : layQ ⟨cl, sq, l⟩ = ly at *
        obtain ⟨L1, L2⟩ := ly
        dsimp only at HQ4
        go_wp2_with fail
        (with_reducible refine HQ4.out.mono ?_)
        rintro e w5 ⟨rfl, o5⟩
        have HK5 := Lib.hid (HK4.out.still o5)
        have HL5 := Lib.hid (HL4.out.still o5)
        obtain ⟨⟨c0, c1, c2⟩, d0, d1, d2, d3, d4⟩ := HZ2.out w5 HK5.out.since
        have HQ5 := Lib.hid (RLay_is w5 ⟨cl, sq, l⟩ _ (row_still HV.out (HWB.out.trans HK5.out.since (fun _ _ q => q))) (by show l.length ≤ _; omega))
        rw [hly] at HQ5
        dsimp only at HQ5
        clear o5 m2 m3 m4 HK4 HL4 HQ4 hly
        go_wp2_with fail
        (with_reducible refine HQ5.out.mono ?_)
        rintro e w6 ⟨rfl, o6⟩
        have HK6 := Lib.hid (HK5.out.still o6)
        have HL6 := Lib.hid (HL5.out.still o6)
        obtain ⟨⟨c0, c1, c2⟩, d0, d1, d2, d3, d4⟩ := HZ2.out w6 HK6.out.since
        have m0 := HL6.out.c0
        have m1 := HL6.out.c1
        have m2 := HL6.out.c2
        have m3 := HL6.out.c3
        have m4 := HL6.out.c4
        have HQ6 := Lib.hid (Entry_is w6 ix tm ⟨cl, sq, l⟩ _ HL6.out.row (by show l.length ≤ _; omega))
        generalize hly : entryQ ix tm ⟨cl, sq, l⟩ = ly at *
        obtain ⟨E1, E2⟩ := ly
        dsimp only at HQ6
        clear o6 HK5 HL5 HQ5
        go_wp2_with fail
        (with_reducible refine HQ6.out.mono ?_)
        rintro e w7 ⟨rfl, o7⟩
        have HK7 := Lib.hid (HK6.out.still o7)
        have HL7 := Lib.hid (HL6.out.still o7)
        obtain ⟨⟨c0, c1, c2⟩, d0, d1, d2, d3, d4⟩ := HZ2.out w7 HK7.out.since
        have HQ7 := Lib.hid (REntry_is w7 ix tm ⟨cl, sq, l⟩ _ (row_still HV.out (HWB.out.trans HK7.out.since (fun _ _ q => q))) (by show l.length ≤ _; omega))
        rw [hly] at HQ7
        dsimp only at HQ7
        clear o7 m0 m1 m2 m3 m4 HK6 HL6 HQ6 hly
        go_wp2_with fail
        (with_reducible refine HQ7.out.mono ?_)
        rintro e w8 ⟨rfl, o8⟩
        have HK8 := Lib.hid (HK7.out.still o8)
        have HL8 := Lib.hid (HL7.out.still o8)
        clear o8 HK7 HL7 HQ7 c0 c1 c2 d0 d1 d2 d3 d4
        have HW8 := Lib.hid (HWB.out.trans HK8.out.since (fun _ _ q => q))
        have HS : Hid (∀ W, Only (fun _ => False) w8 W → W.cell? ⟨t5, 0, none⟩ = some (.int .i64 cl) ∧ W.cell? ⟨t5, 1, none⟩ = some (.int .i64 sq) ∧ W.cell? ⟨t5, 2, none⟩ = some (.slice a l.length cap) ∧ W.cell? ⟨t13, 0, none⟩ = some (.int .i64 ix) ∧ W.cell? ⟨t13, 1, none⟩ = some (.int .i64 tm) ∧ W.cell? ⟨t13, 2, none⟩ = some (.int .i64 cl) ∧ W.cell? ⟨t13, 3, none⟩ = some (.int .i64 sq) ∧ W.cell? ⟨t13, 4, none⟩ = some (.slice a l.length cap)) := Lib.hid (fun W hW => by
          obtain ⟨⟨c0, c1, c2⟩, d0, d1, d2, d3, d4⟩ := HZ2.out W (HK8.out.since.trans hW (fun _ _ q => q))
          exact ⟨c0, c1, c2, d0, d1, d2, d3, d4⟩)
        have HCk : Hid (∀ W, Only (fun _ => False) w8 W → Calls Tryz.prog 19 #[.agg #[.int .i64 cl, .int .i64 sq, .slice a l.length cap]] W fun e w' => e = .returned (.int .i64 (checkQ ⟨cl, sq, l⟩)) ∧ Only (fun _ => False) W w') := Lib.hid (fun W hW => Check_is W ⟨cl, sq, l⟩ _ (row_still HV.out (HW8.out.trans hW (fun _ _ q => q))) (by show l.length ≤ _; omega))
        have HCr : Hid (∀ W, Only (fun _ => False) w8 W → Calls Tryz.prog 29 #[.agg #[.int .i64 cl, .int .i64 sq, .slice a l.length cap]] W fun e w' => e = .returned (.int .i64 (checkQ ⟨cl, sq, l⟩)) ∧ Only (fun _ => False) W w') := Lib.hid (fun W hW => RCheck_is W ⟨cl, sq, l⟩ _ (row_still HV.out (HW8.out.trans hW (fun _ _ q => q))) (by show l.length ≤ _; omega))
        have HST : Hid (∀ W, Only (fun _ => False) w8 W → ∀ W2, Only (fun _ => False) (W.alloc (.cells #[.int .i64 ix, .int .i64 tm, .int .i64 cl, .int .i64 sq, .slice a l.length cap] 57)) W2 → Calls Tryz.prog 30 #[.slice (some ⟨gm, 0, none⟩) 1 cm, .slice (some ⟨W.heap.size, 0, none⟩) 1 1] W2 fun e w' => e = .returned (.bool true) ∧ Only (fun _ => False) W2 w') := Lib.hid (fun W hW W2 hW2 => by
          have oa := (Only.refl (fun _ => False) W).alloc (.cells #[.int .i64 ix, .int .i64 tm, .int .i64 cl, .int .i64 sq, .slice a l.length cap] 57)
          have y := blk_keep (blk_new W (.cells #[.int .i64 ix, .int .i64 tm, .int .i64 cl, .int .i64 sq, .slice a l.length cap] 57)) hW2 id
          have o2 := (hW.trans oa (fun _ _ q => q)).trans hW2 (fun _ _ q => q)
          exact StaysE_is W2 gm cm W.heap.size 1 ix tm cl sq _ (.slice a l.length cap) l (by omega) (HL8.out.still o2) (fun j u hu => (blk_cell y j).trans (by simpa [entC] using hu)) (row_still HV.out (HW8.out.trans o2 (fun _ _ q => q))))
        generalize checkQ ⟨cl, sq, l⟩ = cq at *
        have k0 : Only (fun _ => False) w8 w8 := Only.refl _ _
        have k1 : Only (fun _ => False) w8 w8.drew := (Only.refl _ _).drew
        obtain ⟨c0, c1, c2, d0, d1, d2, d3, d4⟩ := HS.out w8 k0
        go_wp2_with fail
        go_region_held3 (fun w' => w'.cell? ⟨t5, 0, none⟩ = some (.int .i64 cl) ∧ w'.cell? ⟨t5, 1, none⟩ = some (.int .i64 sq) ∧ w'.cell? ⟨t5, 2, none⟩ = some (.slice a l.length cap) ∧ w'.cell? ⟨t13, 0, none⟩ = some (.int .i64 ix) ∧ w'.cell? ⟨t13, 1, none⟩ = some (.int .i64 tm) ∧ w'.cell? ⟨t13, 2, none⟩ = some (.int .i64 cl) ∧ w'.cell? ⟨t13, 3, none⟩ = some (.int .i64 sq) ∧ w'.cell? ⟨t13, 4, none⟩ = some (.slice a l.length cap)) (first | exact HS.out _ (by assumption)) (first | ((with_reducible refine (HCk.out _ (by assumption)).mono ?_); rintro _ w9 ⟨rfl, o9⟩; have k9 : Only (fun _ => False) w8 w9 := Only.trans (by assumption) o9 (fun _ _ q => q)) | ((with_reducible refine (HCr.out _ (by assumption)).mono ?_); rintro _ w10 ⟨rfl, o10⟩; have k10 : Only (fun _ => False) w8 w10 := Only.trans (by assumption) o10 (fun _ _ q => q); have k11 := k10.alloc (.cells #[.int .i64 ix, .int .i64 tm, .int .i64 cl, .int .i64 sq, .slice a l.length cap] 57)) | ((with_reducible refine (HST.out _ (by assumption) _ (Only.refl _ _)).mono ?_); rintro _ w12 ⟨rfl, o12⟩; have k12 : Only (fun _ => False) w8 w12 := Only.trans k11 o12 (fun _ _ q => q)))
        have HKx := Lib.hid (HK8.out.still k12)
        clear k0 k1 k9 k10 k11 k12 o9 o10 o12 c0 c1 c2 d0 d1 d2 d3 d4 HS HCk HCr HST HW8 HL8 HK8
        have HA1 := Lib.hid (fun W => Read_is W b (by omega))
        have HA2 := Lib.hid (fun W => RRead_is W b (by omega))
        have HA3 := Lib.hid (fun W => ReadEntry_is W b (by omega))
        have HA4 := Lib.hid (fun W => RReadEntry_is W b (by omega))
        have HA5 := Lib.hid (fun W => CRR_is W b (by omega))
        have HA6 := Lib.hid (fun W => RRR_is W b (by omega))
        have hf1 := readQ_few b
        have hf2 := readEntryQ_few b
        have hf3 := readRepQ_few b
        generalize readQ b = rq at *
        generalize readEntryQ b = eq at *
        generalize readRepQ b = pq at *
        obtain ⟨⟨rc, rsq, rl⟩, re⟩ := rq
        obtain ⟨⟨ei, et, ⟨ec, es, el⟩⟩, ee⟩ := eq
        obtain ⟨yl, ye⟩ := pq
        have HFW := Lib.hid (And.intro hf1 (And.intro hf2 hf3))
        dsimp only at HFW
        clear hf1 hf2 hf3
        unfold ReadEnds at HA1 HA2
        unfold ReadEEnds at HA3 HA4
        unfold RrEnds at HA5 HA6
        dsimp only at HA1 HA2 HA3 HA4 HA5 HA6
        go_wp2_with fail
        go_loopg [24] 2 (fun gh iv wr => ∃ (k : Nat) (T O : Nat → Prop), gh + k = 2 ∧ iv = .int .i64 k ∧ bk.Kept Wb wr (t13 + 1) T O (2 * k) k)
        case atStart => exact ⟨0, T, O, by omega, rfl, HKx.out⟩
        case round =>
          clear HKx
          clear T O
          obtain ⟨k, T, O, hgk, rfl, hKp⟩ := hrel
          have HKP := Lib.hid hKp
          clear hKp
          by_cases hk : k < 2
          · have hk2 : (k : Int) < 2 := by omega
            have hwk : IntKind.i64.wrap ((k : Int) + 1) = (k : Int) + 1 := IntWalk.i64_in _ (by omega)
            go_wp2_with fail
            (with_reducible refine (HA1.out _).mono ?_)
            rintro e w1 ⟨vA, rfl, hoA, o1, nA⟩
            obtain ⟨aA, cA, rfl⟩ := ownsRow_form hoA
            have b1 := blk_new w1 (.cells #[.int .i64 rc, .int .i64 rsq, .slice aA rl.length cA] 52)
            have p1 := o1.trans ((Only.refl (fun _ => False) w1).alloc (.cells #[.int .i64 rc, .int .i64 rsq, .slice aA rl.length cA] 52)) (fun _ _ q => q)
            have s1 := o1.size
            have s1' : (w1.alloc (.cells #[.int .i64 rc, .int .i64 rsq, .slice aA rl.length cA] 52)).heap.size = w1.heap.size + 1 := Array.size_push _
            have F1 := Lib.hid (And.intro (hoA.alloc (.cells #[.int .i64 rc, .int .i64 rsq, .slice aA rl.length cA] 52)) (And.intro b1 (And.intro p1 (And.intro nA (And.intro s1 (And.intro s1' (fun q (e : (Value.slice aA rl.length cA).ownBlock = some q) => (hoA.lt q e).2)))))))
            clear hoA b1 p1 nA s1 s1' o1
            go_wp2_with fail
            generalize w1.alloc (.cells #[.int .i64 rc, .int .i64 rsq, .slice aA rl.length cA] 52) = W1 at *
            generalize w1.heap.size = q1 at *
            (with_reducible refine (HA2.out _).mono ?_)
            rintro e w2 ⟨vB, rfl, hoB, o2, nB⟩
            obtain ⟨aB, cB, rfl⟩ := ownsRow_form hoB
            have b2 := blk_new w2 (.cells #[.int .i64 rc, .int .i64 rsq, .slice aB rl.length cB] 52)
            have p2 := o2.trans ((Only.refl (fun _ => False) w2).alloc (.cells #[.int .i64 rc, .int .i64 rsq, .slice aB rl.length cB] 52)) (fun _ _ q => q)
            have s2 := o2.size
            have s2' : (w2.alloc (.cells #[.int .i64 rc, .int .i64 rsq, .slice aB rl.length cB] 52)).heap.size = w2.heap.size + 1 := Array.size_push _
            have F2 := Lib.hid (And.intro (hoB.alloc (.cells #[.int .i64 rc, .int .i64 rsq, .slice aB rl.length cB] 52)) (And.intro b2 (And.intro p2 (And.intro nB (And.intro s2 (And.intro s2' (fun q (e : (Value.slice aB rl.length cB).ownBlock = some q) => (hoB.lt q e).2)))))))
            clear hoB b2 p2 nB s2 s2' o2
            go_wp2_with fail
            generalize w2.alloc (.cells #[.int .i64 rc, .int .i64 rsq, .slice aB rl.length cB] 52) = W2 at *
            generalize w2.heap.size = q2 at *
            (with_reducible refine (HA3.out _).mono ?_)
            rintro e w3 ⟨vD, rfl, hoD, o3, nD⟩
            obtain ⟨aD, cD, rfl⟩ := ownsRow_form hoD
            have b3 := blk_new w3 (.cells #[.int .i64 ei, .int .i64 et, .int .i64 ec, .int .i64 es, .slice aD el.length cD] 57)
            have p3 := o3.trans ((Only.refl (fun _ => False) w3).alloc (.cells #[.int .i64 ei, .int .i64 et, .int .i64 ec, .int .i64 es, .slice aD el.length cD] 57)) (fun _ _ q => q)
            have s3 := o3.size
            have s3' : (w3.alloc (.cells #[.int .i64 ei, .int .i64 et, .int .i64 ec, .int .i64 es, .slice aD el.length cD] 57)).heap.size = w3.heap.size + 1 := Array.size_push _
            have F3 := Lib.hid (And.intro (hoD.alloc (.cells #[.int .i64 ei, .int .i64 et, .int .i64 ec, .int .i64 es, .slice aD el.length cD] 57)) (And.intro b3 (And.intro p3 (And.intro nD (And.intro s3 (And.intro s3' (fun q (e : (Value.slice aD el.length cD).ownBlock = some q) => (hoD.lt q e).2)))))))
            clear hoD b3 p3 nD s3 s3' o3
            go_wp2_with fail
            generalize w3.alloc (.cells #[.int .i64 ei, .int .i64 et, .int .i64 ec, .int .i64 es, .slice aD el.length cD] 57) = W3' at *
            generalize w3.heap.size = q3 at *
            (with_reducible refine (HA4.out _).mono ?_)
            rintro e w4 ⟨vO, rfl, hoO, o4, nO⟩
            obtain ⟨aO, cO, rfl⟩ := ownsRow_form hoO
            have b4 := blk_new w4 (.cells #[.int .i64 ei, .int .i64 et, .int .i64 ec, .int .i64 es, .slice aO el.length cO] 57)
            have p4 := o4.trans ((Only.refl (fun _ => False) w4).alloc (.cells #[.int .i64 ei, .int .i64 et, .int .i64 ec, .int .i64 es, .slice aO el.length cO] 57)) (fun _ _ q => q)
            have s4 := o4.size
            have s4' : (w4.alloc (.cells #[.int .i64 ei, .int .i64 et, .int .i64 ec, .int .i64 es, .slice aO el.length cO] 57)).heap.size = w4.heap.size + 1 := Array.size_push _
            have F4 := Lib.hid (And.intro (hoO.alloc (.cells #[.int .i64 ei, .int .i64 et, .int .i64 ec, .int .i64 es, .slice aO el.length cO] 57)) (And.intro b4 (And.intro p4 (And.intro nO (And.intro s4 (And.intro s4' (fun q (e : (Value.slice aO el.length cO).ownBlock = some q) => (hoO.lt q e).2)))))))
            clear hoO b4 p4 nO s4 s4' o4
            go_wp2_with fail
            generalize w4.alloc (.cells #[.int .i64 ei, .int .i64 et, .int .i64 ec, .int .i64 es, .slice aO el.length cO] 57) = W4' at *
            generalize w4.heap.size = q4 at *
            (with_reducible refine (HA5.out _).mono ?_)
            rintro e w5 ⟨vY, rfl, hoY, o5, nY⟩
            obtain ⟨aY, cY, rfl⟩ := ownsRow_form hoY
            have F5 := Lib.hid (And.intro hoY (And.intro o5 nY))
            clear hoY o5 nY
            go_wp2_with fail
            (with_reducible refine (HA6.out _).mono ?_)
            rintro e X ⟨vZ, rfl, hoZ, o6, nZ⟩
            obtain ⟨aZ, cZ, rfl⟩ := ownsRow_form hoZ
            obtain ⟨hA, b1, p1, nA, s1, s1', lA⟩ := F1.out
            obtain ⟨hB, b2, p2, nB, s2, s2', lB⟩ := F2.out
            obtain ⟨hD, b3, p3, nD, s3, s3', lD⟩ := F3.out
            obtain ⟨hO, b4, p4, nO, s4, s4', lO⟩ := F4.out
            obtain ⟨hY, o5, nY⟩ := F5.out
            have s5 := o5.size
            have s6 := o6.size
            have g4 := o5.trans o6 (fun _ _ q => q)
            have g3 := p4.trans g4 (fun _ _ q => q)
            have g2 := p3.trans g3 (fun _ _ q => q)
            have g1 := p2.trans g2 (fun _ _ q => q)
            have g0 := p1.trans g1 (fun _ _ q => q)
            have HKX := Lib.hid (HKP.out.still g0)
            have hAX := own_only hA g1 (fun _ _ => id)
            have hBX := own_only hB g2 (fun _ _ => id)
            have hDX := own_only hD g3 (fun _ _ => id)
            have hOX := own_only hO g4 (fun _ _ => id)
            have hYX := own_only hY o6 (fun _ _ => id)
            have lY := fun q (e : (Value.slice aY yl.length cY).ownBlock = some q) => (hY.lt q e).2
            have lZ := fun q (e : (Value.slice aZ yl.length cZ).ownBlock = some q) => (hoZ.lt q e).2
            have y1 := blk_keep b1 g1 id
            have y2 := blk_keep b2 g2 id
            have y3 := blk_keep b3 g3 id
            have y4 := blk_keep b4 g4 id
            have hsz : Wb.heap.size ≤ wr.heap.size := HKP.out.since.size
            have hOl := HKP.out.lt
            have hTs := HKP.out.sub
            -- where each thing lies
            have rA : ∀ q, (Value.slice aA rl.length cA).ownBlock = some q → wr.heap.size ≤ q ∧ q < q1 := fun q e => ⟨nA q e, lA q e⟩
            have rB : ∀ q, (Value.slice aB rl.length cB).ownBlock = some q → wr.heap.size ≤ q ∧ q < X.heap.size := fun q e => by have h1 := nB q e; have h2 := lB q e; omega
            have rD : ∀ q, (Value.slice aD el.length cD).ownBlock = some q → q1 < q ∧ wr.heap.size ≤ q ∧ q < q3 := fun q e => by have h1 := nD q e; have h2 := lD q e; omega
            have rO : ∀ q, (Value.slice aO el.length cO).ownBlock = some q → wr.heap.size ≤ q ∧ q < X.heap.size := fun q e => by have h1 := nO q e; have h2 := lO q e; omega
            have rY : ∀ q, (Value.slice aY yl.length cY).ownBlock = some q → q3 < q ∧ q1 < q ∧ wr.heap.size ≤ q ∧ q < X.heap.size := fun q e => by have h1 := nY q e; have h2 := lY q e; omega
            have rZ : ∀ q, (Value.slice aZ yl.length cZ).ownBlock = some q → wr.heap.size ≤ q ∧ q < X.heap.size := fun q e => by have h1 := nZ q e; have h2 := lZ q e; omega
            have rq : q1 < X.heap.size ∧ q2 < X.heap.size ∧ q3 < X.heap.size ∧ q4 < X.heap.size ∧ wr.heap.size ≤ q1 ∧ wr.heap.size ≤ q2 ∧ wr.heap.size ≤ q3 ∧ wr.heap.size ≤ q4 := by omega
            have HROWS := Lib.hid (And.intro hAX (And.intro hBX (And.intro hDX (And.intro hOX (And.intro hYX hoZ)))))
            have HBLK := Lib.hid (And.intro y1 (And.intro y2 (And.intro y3 y4)))
            have HRNG := Lib.hid (And.intro rA (And.intro rB (And.intro rD (And.intro rO (And.intro rY rZ)))))
            have HRQ := Lib.hid rq
            have HOL := Lib.hid (And.intro hOl (And.intro hTs hsz))
            have HKc := Lib.hid (bk.keptC_is HKX.out (by omega) _ rl hAX (by have := HFW.out.1; omega) (fun q e => by have h1 := rA q e; exact ⟨by omega, fun o => by have := (hOl q o).1; omega⟩))
            have c25 := blk_cell y1 2
            simp only [List.getElem?_toArray, List.getElem?_cons_zero, List.getElem?_cons_succ] at c25
            clear hA b1 p1 nA s1 s1' lA hB b2 p2 nB s2 s2' lB hD b3 p3 nD s3 s3' lD hO b4 p4 nO s4 s4' lO hY o5 nY s5 s6 g0 g1 g2 g3 g4 hAX hBX hDX hOX hYX lY lZ y1 y2 y3 y4 hsz hOl hTs rA rB rD rO rY rZ rq hoZ o6 nZ F1 F2 F3 F4 F5
            go_wp2_with fail
            (with_reducible refine HKc.out.mono ?_)
            rintro e X1 ⟨rfl, T1, O1, hK1, o1, t1, u1⟩
            have v1 : Only (fun q => q < wr.heap.size ∨ X.heap.size ≤ q) X X1 := o1.mono (fun q _ e => .inl ((HOL.out.1 q (HOL.out.2.1 q e)).1))
            have y3 := HBLK.out.2.2.1
            have y3 := blk_keep y3 v1 (by have := HRQ.out; omega)
            have c29 := blk_cell y3 4
            simp only [List.getElem?_toArray, List.getElem?_cons_zero, List.getElem?_cons_succ] at c29
            have hD1 := own_only HROWS.out.2.2.1 v1 (fun q e r => by have h1 := HRNG.out.2.2.1 q e; have h2 := HRQ.out; omega)
            have HKd := Lib.hid (bk.keptC_is hK1 (by omega) _ el hD1 (by have := HFW.out.2.1; omega) (fun q e => by
              have h1 := HRNG.out.2.2.1 q e
              have h2 := HRQ.out
              have h3 := HOL.out.2.2
              refine ⟨by omega, fun o => ?_⟩
              rcases u1 q o with o | o | o
              · have := (HOL.out.1 q o).1; omega
              · have := HRNG.out.1 q o; omega
              · omega))
            have HV1 := Lib.hid v1
            have HU1 := Lib.hid (And.intro t1 u1)
            have hs1 := Lib.hid v1.size
            clear hK1 o1 t1 u1 v1 y3 hD1 HKc c25 HKX
            go_wp2_with fail
            (with_reducible refine HKd.out.mono ?_)
            rintro e X2 ⟨rfl, T2, O2, hK2, o2, t2, u2⟩
            have v2 : Only (fun q => q < wr.heap.size ∨ X.heap.size ≤ q) X1 X2 := o2.mono (fun q _ e => by
              rcases HU1.out.1 q e with r | r
              · exact .inl ((HOL.out.1 q (HOL.out.2.1 q r)).1)
              · exact .inr r)
            have w2' := HV1.out.trans v2 (fun _ _ q => q)
            have hY2 := own_only HROWS.out.2.2.2.2.1 w2' (fun q e r => by have h1 := HRNG.out.2.2.2.2.1 q e; omega)
            have HKy := Lib.hid (bk.keptR_is hK2 (by omega) _ yl hY2 (by have := HFW.out.2.2; omega) (fun q e => by
              have h1 := HRNG.out.2.2.2.2.1 q e
              have h3 := HOL.out.2.2
              have h4 := hs1.out
              refine ⟨by omega, fun o => ?_⟩
              rcases u2 q o with o | o | o
              · rcases HU1.out.2 q o with o | o | o
                · have := (HOL.out.1 q o).1; omega
                · have := HRNG.out.1 q o; omega
                · omega
              · have := HRNG.out.2.2.1 q o; omega
              · omega))
            have HV2 := Lib.hid w2'
            have HU2 := Lib.hid t2
            clear hK2 o2 t2 u2 v2 w2' hY2 HKd c29
            go_wp2_with fail
            (with_reducible refine HKy.out.mono ?_)
            rintro e X3 ⟨rfl, T3, O3, hK3, o3, t3, u3⟩
            have v3 : Only (fun q => q < wr.heap.size ∨ X.heap.size ≤ q) X2 X3 := o3.mono (fun q _ e => by
              have h4 := hs1.out
              rcases HU2.out q e with r | r
              · rcases HU1.out.1 q r with r | r
                · exact .inl ((HOL.out.1 q (HOL.out.2.1 q r)).1)
                · exact .inr r
              · exact .inr (by omega))
            have HXX := Lib.hid (HV2.out.trans v3 (fun _ _ q => q))
            have HK3 := Lib.hid hK3
            clear hK3 o3 t3 u3 v3 HKy HV2 HU2 HU1 HV1
            have HKQ : Hid (∀ q, wr.heap.size ≤ q ∧ q < X.heap.size → ¬ (q < wr.heap.size ∨ X.heap.size ≤ q)) := Lib.hid (fun q h r => by omega)
            have f1 := blk_keep HBLK.out.1 HXX.out (HKQ.out q1 (by have := HRQ.out; omega))
            have f2 := blk_keep HBLK.out.2.1 HXX.out (HKQ.out q2 (by have := HRQ.out; omega))
            have f3 := blk_keep HBLK.out.2.2.1 HXX.out (HKQ.out q3 (by have := HRQ.out; omega))
            have f4 := blk_keep HBLK.out.2.2.2 HXX.out (HKQ.out q4 (by have := HRQ.out; omega))
            have z25 : ∀ (p : Grew X3), p.u.cell? ⟨q1, 0, none⟩ = some (.int .i64 rc) ∧ p.u.cell? ⟨q1, 1, none⟩ = some (.int .i64 rsq) ∧ p.u.cell? ⟨q1, 2, none⟩ = some (.slice aA rl.length cA) := fun p => ⟨p.cell (blk_cell f1 0), p.cell (blk_cell f1 1), p.cell (blk_cell f1 2)⟩
            have z27 : ∀ (p : Grew X3), p.u.cell? ⟨q2, 0, none⟩ = some (.int .i64 rc) ∧ p.u.cell? ⟨q2, 1, none⟩ = some (.int .i64 rsq) ∧ p.u.cell? ⟨q2, 2, none⟩ = some (.slice aB rl.length cB) := fun p => ⟨p.cell (blk_cell f2 0), p.cell (blk_cell f2 1), p.cell (blk_cell f2 2)⟩
            have z29 : ∀ (p : Grew X3), p.u.cell? ⟨q3, 0, none⟩ = some (.int .i64 ei) ∧ p.u.cell? ⟨q3, 1, none⟩ = some (.int .i64 et) ∧ p.u.cell? ⟨q3, 2, none⟩ = some (.int .i64 ec) ∧ p.u.cell? ⟨q3, 3, none⟩ = some (.int .i64 es) ∧ p.u.cell? ⟨q3, 4, none⟩ = some (.slice aD el.length cD) := fun p => ⟨p.cell (blk_cell f3 0), p.cell (blk_cell f3 1), p.cell (blk_cell f3 2), p.cell (blk_cell f3 3), p.cell (blk_cell f3 4)⟩
            have z31 : ∀ (p : Grew X3), p.u.cell? ⟨q4, 0, none⟩ = some (.int .i64 ei) ∧ p.u.cell? ⟨q4, 1, none⟩ = some (.int .i64 et) ∧ p.u.cell? ⟨q4, 2, none⟩ = some (.int .i64 ec) ∧ p.u.cell? ⟨q4, 3, none⟩ = some (.int .i64 es) ∧ p.u.cell? ⟨q4, 4, none⟩ = some (.slice aO el.length cO) := fun p => ⟨p.cell (blk_cell f4 0), p.cell (blk_cell f4 1), p.cell (blk_cell f4 2), p.cell (blk_cell f4 3), p.cell (blk_cell f4 4)⟩
            have HGa : Hid (∀ p : Grew X3, Calls Tryz.prog 21 #[.agg #[.int .i64 rc, .int .i64 rsq, .slice aA rl.length cA], .agg #[.int .i64 rc, .int .i64 rsq, .slice aB rl.length cB]] p.u fun e w' => e = .returned (.bool true) ∧ Only (fun _ => False) p.u w') := Lib.hid (fun p => by
              have r1 := row_ownQ (enc := cmdC) (k := 5) (xs := rl) (fun _ => rfl) (own_only (own_only HROWS.out.1 HXX.out (fun q e => HKQ.out q (by have := HRNG.out.1 q e; have := HRQ.out; omega))) p.h (fun _ _ => id))
              have r2 := row_ownQ (enc := cmdC) (k := 5) (xs := rl) (fun _ => rfl) (own_only (own_only HROWS.out.2.1 HXX.out (fun q e => HKQ.out q (by have := HRNG.out.2.1 q e; omega))) p.h (fun _ _ => id))
              have := SameReq_is p.u ⟨rc, rsq, rl⟩ ⟨rc, rsq, rl⟩ _ _ r1 r2 (by have := HFW.out.1; show rl.length ≤ _; omega)
              rwa [decide_eq_true rfl] at this)
            have HGb : Hid (∀ p : Grew X3, Calls Tryz.prog 21 #[.agg #[.int .i64 ec, .int .i64 es, .slice aD el.length cD], .agg #[.int .i64 ec, .int .i64 es, .slice aO el.length cO]] p.u fun e w' => e = .returned (.bool true) ∧ Only (fun _ => False) p.u w') := Lib.hid (fun p => by
              have r1 := row_ownQ (enc := cmdC) (k := 5) (xs := el) (fun _ => rfl) (own_only (own_only HROWS.out.2.2.1 HXX.out (fun q e => HKQ.out q (by have := HRNG.out.2.2.1 q e; have := HRQ.out; omega))) p.h (fun _ _ => id))
              have r2 := row_ownQ (enc := cmdC) (k := 5) (xs := el) (fun _ => rfl) (own_only (own_only HROWS.out.2.2.2.1 HXX.out (fun q e => HKQ.out q (by have := HRNG.out.2.2.2.1 q e; omega))) p.h (fun _ _ => id))
              have := SameReq_is p.u ⟨ec, es, el⟩ ⟨ec, es, el⟩ _ _ r1 r2 (by have := HFW.out.2.1; show el.length ≤ _; omega)
              rwa [decide_eq_true rfl] at this)
            have HGc : Hid (∀ p : Grew X3, Calls Tryz.prog 37 #[.slice aY yl.length cY, .slice aZ yl.length cZ] p.u fun e w' => e = .returned (.bool true) ∧ Only (fun _ => False) p.u w') := Lib.hid (fun p => by
              have r1 := row_ownQ (enc := rpC) (k := 2) (xs := yl) (fun _ => rfl) (own_only (own_only HROWS.out.2.2.2.2.1 HXX.out (fun q e => HKQ.out q (by have := HRNG.out.2.2.2.2.1 q e; omega))) p.h (fun _ _ => id))
              have r2 := row_ownQ (enc := rpC) (k := 2) (xs := yl) (fun _ => rfl) (own_only (own_only HROWS.out.2.2.2.2.2 HXX.out (fun q e => HKQ.out q (by have := HRNG.out.2.2.2.2.2 q e; omega))) p.h (fun _ _ => id))
              have := SameReplies_is p.u yl yl _ _ r1 r2 (by have := HFW.out.2.2; omega)
              rwa [decide_eq_true rfl] at this)
            have HCELL := Lib.hid (And.intro z25 (And.intro z27 (And.intro z29 z31)))
            obtain ⟨e1, e2, e3⟩ := z25 ⟨X3, Only.refl _ _⟩
            obtain ⟨e4, e5, e6⟩ := z27 ⟨X3, Only.refl _ _⟩
            clear z25 z27 z29 z31 f1 f2 f3 f4 HXX HBLK HROWS HRNG HRQ HKQ HOL HKP hs1
            dsimp only at e1 e2 e3 e4 e5 e6
            go_wp2_with fail
            (with_reducible refine (HGa.out ⟨X3, Only.refl _ _⟩).mono ?_)
            rintro e y1 ⟨rfl, p1⟩
            obtain ⟨f0, f1, f2, f3, f4⟩ := HCELL.out.2.2.1 ⟨y1, p1⟩
            obtain ⟨g0, g1, g2, g3, g4⟩ := HCELL.out.2.2.2 ⟨y1, p1⟩
            dsimp only at f0 f1 f2 f3 f4 g0 g1 g2 g3 g4
            have HP1 := Lib.hid p1
            clear p1 e1 e2 e3 e4 e5 e6 HGa
            go_wp2_with fail
            (with_reducible refine (HGb.out ⟨y1, HP1.out⟩).mono ?_)
            rintro e y2 ⟨rfl, p2⟩
            have HP2 := Lib.hid (HP1.out.trans p2 (fun _ _ q => q))
            clear p2 f0 f1 f2 f3 f4 g0 g1 g2 g3 g4 HGb HP1
            go_wp2_with fail
            (with_reducible refine (HGc.out ⟨y2, HP2.out⟩).mono ?_)
            rintro e y3 ⟨rfl, p3⟩
            have p : Grew X3 := ⟨y3, HP2.out.trans p3 (fun _ _ q => q)⟩
            have HP3 := Lib.hid (HP2.out.trans p3 (fun _ _ q => q))
            clear p3 HGc HP2 HCELL p
            go_wp2_with fail
            go_roundg (gk - 1)
            case measure => omega
            case rel => exact ⟨k + 1, T3, O3, by omega, by go_num, by have := HK3.out.still HP3.out; exact this⟩
          · obtain rfl : k = 2 := by omega
            have hk2 : ¬ ((2 : Int) < 2) := by omega
            have HF1 := Lib.hid (CReplies_is wr rs ar cr (row_still HRV.out.1 (HWB.out.trans HKP.out.since (fun _ _ q => q))) HRV.out.2.1 (by omega) HRV.out.2.2)
            go_wp2_with fail
            (with_reducible refine HF1.out.mono ?_)
            rintro e y1 ⟨rfl, o1⟩
            have HK1 := Lib.hid (HKP.out.still o1)
            have HF2 := Lib.hid (RReplies_is y1 rs ar cr (row_still HRV.out.1 (HWB.out.trans HK1.out.since (fun _ _ q => q))) HRV.out.2.1 (by omega) HRV.out.2.2)
            generalize repliesB rs = rb at *
            clear o1 HF1 HKP
            go_wp2_with fail
            (with_reducible refine HF2.out.mono ?_)
            rintro e y2 ⟨rfl, o2⟩
            have HK2 := Lib.hid (HK1.out.still o2)
            obtain ⟨⟨c0, c1, c2⟩, d0, d1, d2, d3, d4⟩ := HZ2.out y2 HK2.out.since
            have HF3 : Hid (Calls Tryz.prog 23 #[.agg #[.int .i64 cl, .int .i64 sq, .slice a l.length cap], .agg #[.int .i64 cl, .int .i64 sq, .slice a l.length cap]] y2 fun e w' => e = .returned (.bool true) ∧ Only (fun _ => False) y2 w') := Lib.hid (by
              have hvv := row_still HV.out (HWB.out.trans HK2.out.since (fun _ _ q => q))
              have := CSame_is y2 ⟨cl, sq, l⟩ ⟨cl, sq, l⟩ _ _ hvv hvv (by show l.length ≤ _; omega)
              rwa [decide_eq_true rfl] at this)
            have erb : (rb == rb) = true := by simp
            clear o2 HF2 HK1 d0 d1 d2 d3 d4
            go_wp2_with fail
            (with_reducible refine HF3.out.mono ?_)
            rintro e y3 ⟨rfl, o3⟩
            have HK3 := Lib.hid (HK2.out.still o3)
            have HF4 := Lib.hid (bk.keptApart_is HK3.out (by omega) (by omega))
            unfold bk.ApartTold at HF4
            clear o3 HF3 HK2 c0 c1 c2
            go_wp2_with fail
            (with_reducible refine HF4.out.mono ?_)
            rintro e y4 ⟨rfl, o4⟩
            have HF := Lib.hid o4
            clear o4 HF4
            go_wp2_with fail
            go_ret
            refine ⟨rfl, ?_⟩
            have h1 := HWB.out.size
            exact (Only.trans ((HWB.out.trans HK3.out.since (fun _ _ q => q)).mono (T := fun q => Wb.heap.size ≤ q) (fun _ _ (q : False) => q.elim)) HF.out (fun _ _ q => q)).mono (fun i hi q => by have q : Wb.heap.size ≤ i := q; omega)
end Go.Proofs.YtlkknekflgclgaaGreatDoor
