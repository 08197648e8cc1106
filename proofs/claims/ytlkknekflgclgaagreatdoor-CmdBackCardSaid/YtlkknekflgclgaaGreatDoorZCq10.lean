/- CmdBack: the law itself. Conditions: none but those of the statement. -/
import Derived.Test.YtlkknekflgclgaaGreatDoorZCq9
import Derived.Test.YtlkknekflgclgaaGreatDoorZLeafA
namespace Go.Proofs.YtlkknekflgclgaaGreatDoor
open Go.RowKit Go.MuLone

set_option maxRecDepth 100000 in
set_option maxHeartbeats 8000000 in
theorem back_is (w : World) (nt : Nat) (hT : Tab nt w) (hnt : nt ≤ w.heap.size) (cl sq cl2 sq2 : Int) (l l2 : List Cq) (v u : Value) (ix tm : Int) (more : Bytes) (hv : RowAt cmdC 5 w v l) (hu : RowAt cmdC 5 w u l2) (hn : l.length ≤ 9223372036854775807) (hn2 : l2.length ≤ 9223372036854775807) :
    Calls Tryz.prog 4 #[.agg #[.int .i64 cl, .int .i64 sq, v], .agg #[.int .i64 cl2, .int .i64 sq2, u], .int .i64 ix, .int .i64 tm, str more] w fun e w' => e = .returned (.bool true) ∧ Only (fun _ => False) w w' := by
  obtain ⟨a, cap, rfl, _⟩ := row_len hv
  obtain ⟨a2, cap2, rfl, _⟩ := row_len hu
  have oA := ((Only.refl (fun _ => False) w).alloc (.cells #[.int .i64 cl, .int .i64 sq, .slice a l.length cap] 52)).alloc (.cells #[.int .i64 cl2, .int .i64 sq2, .slice a2 l2.length cap2] 52)
  have sA : ∀ o : Obj, (w.alloc o).heap.size = w.heap.size + 1 := fun o => Array.size_push _
  have n1 := ((Only.refl (fun _ => False) (w.alloc (.cells #[.int .i64 cl, .int .i64 sq, .slice a l.length cap] 52))).alloc (.cells #[.int .i64 cl2, .int .i64 sq2, .slice a2 l2.length cap2] 52)).block w.heap.size (by rw [sA]; omega) id
  have n1 := n1.trans (blk_new w _)
  have n2 := blk_new (w.alloc (.cells #[.int .i64 cl, .int .i64 sq, .slice a l.length cap] 52)) (.cells #[.int .i64 cl2, .int .i64 sq2, .slice a2 l2.length cap2] 52)
  rw [sA] at n2
  have HV := Lib.hid hv
  have HU := Lib.hid hu
  have HT := Lib.hid hT
  have HAl : Hid (∀ W, Only (fun _ => False) w W → Calls Tryz.prog 17 #[] W fun e w' => e = .returned (.bool true) ∧ Only (fun _ => False) W w') := Lib.hid (fun W hW => alive_is W nt (HT.out.still hW) (by have := hW.size; omega))
  have HC1 : Hid (∀ W, Only (fun _ => False) w W → ∀ z, Calls Tryz.prog 16 #[.int .i64 z, .slice a l.length cap] W fun e w' => (∃ z, e = .returned (.int .i64 z)) ∧ Only (fun _ => False) W w') := Lib.hid (fun W hW z => Cmds_any W z _ l (row_still HV.out hW) hn)
  have HC2 : Hid (∀ W, Only (fun _ => False) w W → ∀ z, Calls Tryz.prog 16 #[.int .i64 z, .slice a2 l2.length cap2] W fun e w' => (∃ z, e = .returned (.int .i64 z)) ∧ Only (fun _ => False) W w') := Lib.hid (fun W hW z => Cmds_any W z _ l2 (row_still HU.out hW) hn2)
  go_enter Tryz.func4, Tryz.ntmps4
  go_wp2_with fail
  generalize hW0 : (w.alloc (.cells #[.int .i64 cl, .int .i64 sq, .slice a l.length cap] 52)).alloc (.cells #[.int .i64 cl2, .int .i64 sq2, .slice a2 l2.length cap2] 52) = W0 at *
  have HZ : Hid (∀ W, Only (fun _ => False) W0 W → (W.cell? ⟨w.heap.size, 0, none⟩ = some (.int .i64 cl) ∧ W.cell? ⟨w.heap.size, 1, none⟩ = some (.int .i64 sq) ∧ W.cell? ⟨w.heap.size, 2, none⟩ = some (.slice a l.length cap)) ∧ W.cell? ⟨w.heap.size + 1, 0, none⟩ = some (.int .i64 cl2) ∧ W.cell? ⟨w.heap.size + 1, 1, none⟩ = some (.int .i64 sq2) ∧ W.cell? ⟨w.heap.size + 1, 2, none⟩ = some (.slice a2 l2.length cap2)) := Lib.hid (fun W hW => ⟨⟨blk_cell (blk_keep n1 hW id) 0, blk_cell (blk_keep n1 hW id) 1, blk_cell (blk_keep n1 hW id) 2⟩, blk_cell (blk_keep n2 hW id) 0, blk_cell (blk_keep n2 hW id) 1, blk_cell (blk_keep n2 hW id) 2⟩)
  have HO := Lib.hid oA
  clear n1 n2 sA hW0 oA hv hu hT
  (with_reducible refine (HC1.out _ HO.out _).mono ?_)
  rintro e w1 ⟨⟨z1, rfl⟩, o1⟩
  have O1 := Lib.hid o1
  obtain ⟨⟨c0, c1, c2⟩, d0, d1, d2⟩ := HZ.out w1 o1
  clear o1
  by_cases hz1 : z1 < 0
  · have e1 : decide (z1 < 0) = true := decide_eq_true hz1
    go_wp2_with fail
    (with_reducible refine (HAl.out _ (HO.out.trans O1.out (fun _ _ q => q))).mono ?_)
    rintro e w2 ⟨rfl, o2⟩
    have HF := Lib.hid ((HO.out.trans O1.out (fun _ _ q => q)).trans o2 (fun _ _ q => q))
    clear o2
    go_wp2_with fail
    go_ret
    exact ⟨rfl, HF.out⟩
  have e1 : decide (z1 < 0) = false := decide_eq_false hz1
  go_wp2_with fail
  (with_reducible refine (HC2.out _ (HO.out.trans O1.out (fun _ _ q => q)) _).mono ?_)
  rintro e w2 ⟨⟨z2, rfl⟩, o2⟩
  have O2 := Lib.hid (O1.out.trans o2 (fun _ _ q => q))
  obtain ⟨⟨c0, c1, c2⟩, d0, d1, d2⟩ := HZ.out w2 O2.out
  clear o2 O1 HC1 HC2
  have out : ∀ (b : Bool), b = true → True := fun _ _ => trivial
  clear out
  by_cases hz2 : z2 < 0
  · have e2 : decide (z2 < 0) = true := decide_eq_true hz2
    go_wp2_with fail
    (with_reducible refine (HAl.out _ (HO.out.trans O2.out (fun _ _ q => q))).mono ?_)
    rintro e w3 ⟨rfl, o3⟩
    have HF := Lib.hid ((HO.out.trans O2.out (fun _ _ q => q)).trans o3 (fun _ _ q => q))
    clear o3
    go_wp2_with fail
    go_ret
    exact ⟨rfl, HF.out⟩
  have e2 : decide (z2 < 0) = false := decide_eq_false hz2
  by_cases h3 : 20 < l.length
  · have e3 : decide (20 < (l.length : Int)) = true := decide_eq_true (by omega)
    go_wp2_with fail
    (with_reducible refine (HAl.out _ (HO.out.trans O2.out (fun _ _ q => q))).mono ?_)
    rintro e w3 ⟨rfl, o3⟩
    have HF := Lib.hid ((HO.out.trans O2.out (fun _ _ q => q)).trans o3 (fun _ _ q => q))
    clear o3
    go_wp2_with fail
    go_ret
    exact ⟨rfl, HF.out⟩
  have e3 : decide (20 < (l.length : Int)) = false := decide_eq_false (by omega)
  by_cases h4 : 20 < l2.length
  · have e4 : decide (20 < (l2.length : Int)) = true := decide_eq_true (by omega)
    go_wp2_with fail
    (with_reducible refine (HAl.out _ (HO.out.trans O2.out (fun _ _ q => q))).mono ?_)
    rintro e w3 ⟨rfl, o3⟩
    have HF := Lib.hid ((HO.out.trans O2.out (fun _ _ q => q)).trans o3 (fun _ _ q => q))
    clear o3
    go_wp2_with fail
    go_ret
    exact ⟨rfl, HF.out⟩
  have e4 : decide (20 < (l2.length : Int)) = false := decide_eq_false (by omega)
  by_cases h5 : 100 < more.length
  · have e5 : decide (100 < (more.length : Int)) = true := decide_eq_true (by omega)
    go_wp2_with fail
    (with_reducible refine (HAl.out _ (HO.out.trans O2.out (fun _ _ q => q))).mono ?_)
    rintro e w3 ⟨rfl, o3⟩
    have HF := Lib.hid ((HO.out.trans O2.out (fun _ _ q => q)).trans o3 (fun _ _ q => q))
    clear o3
    go_wp2_with fail
    go_ret
    exact ⟨rfl, HF.out⟩
  have e5 : decide (100 < (more.length : Int)) = false := decide_eq_false (by omega)
  go_wp2_with fail
  (with_reducible refine (HAl.out _ (HO.out.trans O2.out (fun _ _ q => q))).mono ?_)
  rintro e w3 ⟨rfl, o3⟩
  have O3 := Lib.hid (O2.out.trans o3 (fun _ _ q => q))
  obtain ⟨⟨c0, c1, c2⟩, d0, d1, d2⟩ := HZ.out w3 O3.out
  clear o3 O2 HAl e1 e2 e3 e4 e5
  go_wp2_with (refine wpList_build_ent _ rfl (.tmp 54) (.tmp 55) (.tmp 56) rfl ix tm cl sq a l.length cap rfl rfl rfl ?_)
  have HEn := Lib.hid (Entry_is w3 ix tm ⟨cl, sq, l⟩ _ (row_still HV.out (HO.out.trans O3.out (fun _ _ q => q))) hn)
  by_cases he : (entryQ ix tm ⟨cl, sq, l⟩).2 = 0
  · have HB1 := Lib.hid (back_same he)
    have HB2 := Lib.hid (fun (m : Bytes) (hm : m ≠ []) => back_more he hm)
    have HB3 := Lib.hid (back_less he)
    have hblen := back_len he
    have hcq : checkQ ⟨cl, sq, l⟩ = 0 := (entryQ_ok he).2.2.1
    rw [he] at HEn
    clear he
    have hrl := reqB_long ⟨cl, sq, l⟩
    generalize (entryQ ix tm ⟨cl, sq, l⟩).1 = s at *
    obtain ⟨hb1, hb2, hb3⟩ := hblen
    have HRd := Lib.hid (fun W => Read_is W (s.drop 8) (by rw [hb2]; omega))
    have hrq : readQ (s.drop 8) = (⟨cl, sq, l⟩, 0) := by rw [hb2]; exact readQ_lay hcq
    rw [hrq] at HRd
    have HR1 := Lib.hid (fun W => ReadEntry_is W s (by omega))
    rw [HB1.out] at HR1
    have HR2 := Lib.hid (fun W => ReadEntry_is W (s ++ more) (by rw [List.length_append]; omega))
    have HR3 := Lib.hid (fun W => ReadEntry_is W (s.take (s.length - 1)) (by rw [List.length_take]; omega))
    have HM : Hid (more = [] ∨ (readEntryQ (s ++ more)).2 ≠ 0) := Lib.hid (by
      by_cases hm : more = []
      · exact .inl hm
      · exact .inr (HB2.out more hm))
    have hs8 : ¬ ((s.length : Int) < 8) := by omega
    have hs8b : (8 : Int) ≤ (s.length : Int) := by omega
    have hs1 : (0 : Int) ≤ (s.length : Int) - 1 := by omega
    have hs2 : (s.length : Int) - 1 ≤ (s.length : Int) := by omega
    have hws : IntKind.i64.wrap ((s.length : Int) - 1) = ((s.length - 1 : Nat) : Int) := by
      rw [show (s.length : Int) - 1 = ((s.length - 1 : Nat) : Int) by omega]
      exact IntWalk.i64_in _ (by omega)
    have hs3 : ((s.length - 1 : Nat) : Int) ≤ (s.length : Int) := by omega
    have hsl : s.length ≤ 8008 := by omega
    clear hrl hb1 hb2 hb3 hrq hcq HB1 HB2
    (with_reducible refine HEn.out.mono ?_)
    rintro e w4 ⟨rfl, o4⟩
    have O4 := Lib.hid (O3.out.trans o4 (fun _ _ q => q))
    obtain ⟨⟨c0, c1, c2⟩, d0, d1, d2⟩ := HZ.out w4 O4.out
    clear o4 O3 HEn
    go_wp2_with fail
    (with_reducible refine (HR1.out w4).mono ?_)
    rintro e w5 ⟨v1, rfl, own1, o5, new1⟩
    dsimp only at own1 ⊢
    obtain ⟨aa, ca, rfl⟩ := ownsRow_form own1
    have oB := (Only.refl (fun _ => False) w5).alloc (.cells #[.int .i64 ix, .int .i64 tm, .int .i64 cl, .int .i64 sq, .slice aa l.length ca] 57)
    have nb := blk_new w5 (.cells #[.int .i64 ix, .int .i64 tm, .int .i64 cl, .int .i64 sq, .slice aa l.length ca] 57)
    have y0 := blk_cell nb 0
    have y1 := blk_cell nb 1
    have y2 := blk_cell nb 2
    have y3 := blk_cell nb 3
    have y4 := blk_cell nb 4
    simp only [List.getElem?_toArray, List.getElem?_cons_zero, List.getElem?_cons_succ] at y0 y1 y2 y3 y4
    have O5 := Lib.hid ((O4.out.trans o5 (fun _ _ q => q)).trans oB (fun _ _ q => q))
    obtain ⟨⟨c0, c1, c2⟩, d0, d1, d2⟩ := HZ.out _ O5.out
    have HS1 := Lib.hid (SameReq_is _ ⟨cl, sq, l⟩ ⟨cl, sq, l⟩ _ _ (row_still (row_ownQ (enc := cmdC) (k := 5) (fun _ => rfl) own1) oB) (row_still HV.out (HO.out.trans O5.out (fun _ _ q => q))) hn)
    rw [decide_eq_true rfl] at HS1
    clear own1 o5 new1 oB nb O4 HR1
    go_wp2_with fail
    (with_reducible refine HS1.out.mono ?_)
    rintro e w6 ⟨rfl, o6⟩
    have O6 := Lib.hid (O5.out.trans o6 (fun _ _ q => q))
    obtain ⟨⟨c0, c1, c2⟩, d0, d1, d2⟩ := HZ.out _ O6.out
    clear o6 O5 HS1 y0 y1 y2 y3 y4
    have HRd2 : Hid (∀ W (t : ByteArray), t = ⟨(s.drop 8).toArray⟩ → Calls Tryz.prog 22 #[.string t] W (ReadEnds W (⟨cl, sq, l⟩, 0))) := Lib.hid (fun W t ht => by rw [ht]; exact HRd.out W)
    have HR22 : Hid (∀ W (t : ByteArray), t = ⟨(s ++ more).toArray⟩ → Calls Tryz.prog 20 #[.string t] W (ReadEEnds W (readEntryQ (s ++ more)))) := Lib.hid (fun W t ht => by rw [ht]; exact HR2.out W)
    have HR32 : Hid (∀ W (t : ByteArray), t = ⟨(s.take (s.length - 1)).toArray⟩ → Calls Tryz.prog 20 #[.string t] W (ReadEEnds W (readEntryQ (s.take (s.length - 1))))) := Lib.hid (fun W t ht => by rw [ht]; exact HR3.out W)
    clear HRd HR2 HR3
    go_wp2_with fail
    (with_reducible refine (HRd2.out _ _ (by first | rfl | exact cut_back s 8)).mono ?_)
    rintro e w7 ⟨v2, rfl, own2, o7, new2⟩
    dsimp only at own2 ⊢
    obtain ⟨ab, cb, rfl⟩ := ownsRow_form own2
    have oC := (Only.refl (fun _ => False) w7).alloc (.cells #[.int .i64 cl, .int .i64 sq, .slice ab l.length cb] 52)
    have HY := Lib.hid (blk_new w7 (.cells #[.int .i64 cl, .int .i64 sq, .slice ab l.length cb] 52))
    have O7 := Lib.hid ((O6.out.trans o7 (fun _ _ q => q)).trans oC (fun _ _ q => q))
    have HROW := Lib.hid (row_still (row_ownQ (enc := cmdC) (k := 5) (fun _ => rfl) own2) oC)
    obtain ⟨⟨c0, c1, c2⟩, d0, d1, d2⟩ := HZ.out _ O7.out
    clear own2 o7 new2 oC O6 HRd2
    have hcat : ¬ (9223372036854775807 < s.length + more.length) := by omega
    have hcat2 : s.length + more.length ≤ 9223372036854775807 := by omega
    generalize readEntryQ (s ++ more) = x3 at *
    generalize readEntryQ (s.take (s.length - 1)) = x4 at *
    obtain ⟨⟨i3, t3, ⟨cl3, sq3, l3⟩⟩, e3⟩ := x3
    obtain ⟨⟨i4, t4, ⟨cl4, sq4, l4⟩⟩, e4⟩ := x4
    go_wp2_with fail
    (with_reducible refine (HR22.out _ _ (by first | rfl | exact Value.string.inj (str_app s more))).mono ?_)
    rintro e w8 ⟨v3, rfl, own3, o8, new3⟩
    dsimp only at own3 ⊢
    obtain ⟨ac, cc, rfl⟩ := ownsRow_form own3
    have oD := (Only.refl (fun _ => False) w8).alloc (.cells #[.int .i64 i3, .int .i64 t3, .int .i64 cl3, .int .i64 sq3, .slice ac l3.length cc] 57)
    have O8 := Lib.hid (o8.trans oD (fun _ _ q => q))
    clear own3 o8 new3 oD HR22 hcat hcat2
    go_wp2_with fail
    (with_reducible refine (HR32.out _ _ (by first | rfl | exact cut_front s (s.length - 1))).mono ?_)
    rintro e w9 ⟨v4, rfl, own4, o9, new4⟩
    dsimp only at own4 ⊢
    obtain ⟨ad, cd, rfl⟩ := ownsRow_form own4
    have oE := (Only.refl (fun _ => False) w9).alloc (.cells #[.int .i64 i4, .int .i64 t4, .int .i64 cl4, .int .i64 sq4, .slice ad l4.length cd] 57)
    have O9 := Lib.hid (O8.out.trans (o9.trans oE (fun _ _ q => q)) (fun _ _ q => q))
    clear own4 o9 new4 oE HR32 O8
    go_wp2_with fail
    generalize w9.alloc (.cells #[.int .i64 i4, .int .i64 t4, .int .i64 cl4, .int .i64 sq4, .slice ad l4.length cd] 57) = W9 at *
    have O10 := Lib.hid (O7.out.trans O9.out (fun _ _ q => q))
    have HS : Hid (∀ w', Only (fun _ => False) W9 w' → w'.cell? ⟨w7.heap.size, 0, none⟩ = some (.int .i64 cl) ∧ w'.cell? ⟨w7.heap.size, 1, none⟩ = some (.int .i64 sq) ∧ w'.cell? ⟨w7.heap.size, 2, none⟩ = some (.slice ab l.length cb) ∧ w'.cell? ⟨w.heap.size, 0, none⟩ = some (.int .i64 cl) ∧ w'.cell? ⟨w.heap.size, 1, none⟩ = some (.int .i64 sq) ∧ w'.cell? ⟨w.heap.size, 2, none⟩ = some (.slice a l.length cap) ∧ w'.cell? ⟨w.heap.size + 1, 0, none⟩ = some (.int .i64 cl2) ∧ w'.cell? ⟨w.heap.size + 1, 1, none⟩ = some (.int .i64 sq2) ∧ w'.cell? ⟨w.heap.size + 1, 2, none⟩ = some (.slice a2 l2.length cap2)) := Lib.hid (fun w' hW => by
      have y := blk_keep HY.out (O9.out.trans hW (fun _ _ q => q)) id
      obtain ⟨⟨k0, k1, k2⟩, k3, k4, k5⟩ := HZ.out w' (O10.out.trans hW (fun _ _ q => q))
      exact ⟨blk_cell y 0, blk_cell y 1, blk_cell y 2, k0, k1, k2, k3, k4, k5⟩)
    have HSa : Hid (∀ W, Only (fun _ => False) W9 W → Calls Tryz.prog 21 #[.agg #[.int .i64 cl, .int .i64 sq, .slice ab l.length cb], .agg #[.int .i64 cl, .int .i64 sq, .slice a l.length cap]] W fun e w' => e = .returned (.bool true) ∧ Only (fun _ => False) W w') := Lib.hid (fun W hW => by
      have := SameReq_is W ⟨cl, sq, l⟩ ⟨cl, sq, l⟩ _ _ (row_still HROW.out (O9.out.trans hW (fun _ _ q => q))) (row_still HV.out ((HO.out.trans O10.out (fun _ _ q => q)).trans hW (fun _ _ q => q))) hn
      rwa [decide_eq_true rfl] at this)
    have HSb : Hid (∀ W, Only (fun _ => False) W9 W → Calls Tryz.prog 23 #[.agg #[.int .i64 cl, .int .i64 sq, .slice a l.length cap], .agg #[.int .i64 cl2, .int .i64 sq2, .slice a2 l2.length cap2]] W fun e w' => e = .returned (.bool (decide ((⟨cl, sq, l⟩ : ReqQ) = ⟨cl2, sq2, l2⟩))) ∧ Only (fun _ => False) W w') := Lib.hid (fun W hW => CSame_is W ⟨cl, sq, l⟩ ⟨cl2, sq2, l2⟩ _ _ (row_still HV.out ((HO.out.trans O10.out (fun _ _ q => q)).trans hW (fun _ _ q => q))) (row_still HU.out ((HO.out.trans O10.out (fun _ _ q => q)).trans hW (fun _ _ q => q))) hn)
    have HSc : Hid (∀ W, Only (fun _ => False) W9 W → Calls Tryz.prog 21 #[.agg #[.int .i64 cl, .int .i64 sq, .slice a l.length cap], .agg #[.int .i64 cl2, .int .i64 sq2, .slice a2 l2.length cap2]] W fun e w' => e = .returned (.bool (decide ((⟨cl, sq, l⟩ : ReqQ) = ⟨cl2, sq2, l2⟩))) ∧ Only (fun _ => False) W w') := Lib.hid (fun W hW => SameReq_is W ⟨cl, sq, l⟩ ⟨cl2, sq2, l2⟩ _ _ (row_still HV.out ((HO.out.trans O10.out (fun _ _ q => q)).trans hW (fun _ _ q => q))) (row_still HU.out ((HO.out.trans O10.out (fun _ _ q => q)).trans hW (fun _ _ q => q))) hn)
    generalize decide ((⟨cl, sq, l⟩ : ReqQ) = ⟨cl2, sq2, l2⟩) = dd at *
    have hb4 : e4 ≠ 0 := HB3.out
    have hdd : (dd == dd) = true := by cases dd <;> rfl
    have f1 : (e4 == 0) = false := by simpa using hb4
    have f2 : (e4 != 0) = true := by simpa using hb4
    have HMM : more = [] ∨ e3 ≠ 0 := HM.out
    have HWO := Lib.hid (HO.out.trans O10.out (fun _ _ q => q))
    clear hb4 HM HB3 HROW HY O9 O10 HZ HV HU O7 c0 c1 c2 d0 d1 d2
    have q0 : ∀ p : Grew W9, p.u.cell? ⟨w7.heap.size, 0, none⟩ = some (.int .i64 cl) := fun p => (HS.out _ p.h).1
    have q1 : ∀ p : Grew W9, p.u.cell? ⟨w7.heap.size, 1, none⟩ = some (.int .i64 sq) := fun p => (HS.out _ p.h).2.1
    have q2 : ∀ p : Grew W9, p.u.cell? ⟨w7.heap.size, 2, none⟩ = some (.slice ab l.length cb) := fun p => (HS.out _ p.h).2.2.1
    have q3 : ∀ p : Grew W9, p.u.cell? ⟨w.heap.size, 0, none⟩ = some (.int .i64 cl) := fun p => (HS.out _ p.h).2.2.2.1
    have q4 : ∀ p : Grew W9, p.u.cell? ⟨w.heap.size, 1, none⟩ = some (.int .i64 sq) := fun p => (HS.out _ p.h).2.2.2.2.1
    have q5 : ∀ p : Grew W9, p.u.cell? ⟨w.heap.size, 2, none⟩ = some (.slice a l.length cap) := fun p => (HS.out _ p.h).2.2.2.2.2.1
    have q6 : ∀ p : Grew W9, p.u.cell? ⟨w.heap.size + 1, 0, none⟩ = some (.int .i64 cl2) := fun p => (HS.out _ p.h).2.2.2.2.2.2.1
    have q7 : ∀ p : Grew W9, p.u.cell? ⟨w.heap.size + 1, 1, none⟩ = some (.int .i64 sq2) := fun p => (HS.out _ p.h).2.2.2.2.2.2.2.1
    have q8 : ∀ p : Grew W9, p.u.cell? ⟨w.heap.size + 1, 2, none⟩ = some (.slice a2 l2.length cap2) := fun p => (HS.out _ p.h).2.2.2.2.2.2.2.2
    clear HS
    have hmc : (more.isEmpty = true) ∨ (more.isEmpty = false ∧ (e3 == 0) = false ∧ (e3 != 0) = true) := by
      cases more with
      | nil => exact .inl rfl
      | cons x xs =>
        have h3 : e3 ≠ 0 := HMM.resolve_left (by simp)
        exact .inr ⟨rfl, by simpa using h3, by simpa using h3⟩
    clear HMM
    rcases hmc with g1 | ⟨g1, g2, g3⟩
    all_goals (
      refine wp_region_grew (by kernel_rfl) (by kernel_rfl) (fun _W h0 h1 => ?_)
      repeat (refine h1 _ _ _ (fun K hK => ?_); go_simp; first | (refine hK _ ?_; clear hK K) | (apply Exists.intro; refine ⟨fun p => ?_, hK _ ?_⟩; first | (with_reducible refine Grew.calls _ (HSa.out _ p.h)) | (with_reducible refine Grew.calls _ (HSb.out _ p.h)) | (with_reducible refine Grew.calls _ (HSc.out _ p.h)); clear hK K))
      refine h0 _ (fun p => ?_)
      clear h0 h1 q0 q1 q2 q3 q4 q5 q6 q7 q8 HSa HSb HSc
      have HF := Lib.hid (HWO.out.trans p.h (fun _ _ q => q))
      go_wp2_with fail
      go_ret
      exact ⟨rfl, HF.out⟩)
  · obtain ⟨hs0, hor⟩ := entryQ_bad he
    generalize (entryQ ix tm ⟨cl, sq, l⟩).2 = ee at *
    rw [hs0] at HEn
    have e1 : (ee == 0) = false := by simpa using he
    have e2 : (ee != 0) = true := by simpa using he
    have HCk := Lib.hid (fun W (hW : Only (fun _ => False) w W) => Check_is W ⟨cl, sq, l⟩ _ (row_still HV.out hW) hn)
    clear hs0 he
    (with_reducible refine HEn.out.mono ?_)
    rintro e w4 ⟨rfl, o4⟩
    have O4 := Lib.hid (O3.out.trans o4 (fun _ _ q => q))
    obtain ⟨⟨c0, c1, c2⟩, d0, d1, d2⟩ := HZ.out w4 O4.out
    clear o4 O3 HEn
    have HCk2 := Lib.hid (HCk.out w4 (HO.out.trans O4.out (fun _ _ q => q)))
    generalize checkQ ⟨cl, sq, l⟩ = cc at *
    dsimp only at HCk2
    clear HCk
    have hor2 : cc = ee ∨ (cc ≠ ee ∧ ee = 1) := by
      by_cases h : cc = ee
      · exact .inl h
      · rcases hor with h2 | h2
        · exact absurd h2 h
        · exact .inr ⟨h, h2⟩
    clear hor
    rcases hor2 with h | ⟨h, h1⟩
    · subst h
      have e3 : (cc == cc) = true := by simp
      go_wp2_with fail
      (with_reducible refine HCk2.out.mono ?_)
      rintro e w5 ⟨rfl, o5⟩
      have HF := Lib.hid ((HO.out.trans O4.out (fun _ _ q => q)).trans o5 (fun _ _ q => q))
      clear o5
      go_wp2_with fail
      go_ret
      exact ⟨rfl, HF.out⟩
    · subst h1
      have e3 : (cc == 1) = false := by simpa using h
      go_wp2_with fail
      (with_reducible refine HCk2.out.mono ?_)
      rintro e w5 ⟨rfl, o5⟩
      have HF := Lib.hid ((HO.out.trans O4.out (fun _ _ q => q)).trans o5 (fun _ _ q => q))
      clear o5
      go_wp2_with fail
      go_ret
      exact ⟨rfl, HF.out⟩
end Go.Proofs.YtlkknekflgclgaaGreatDoor
