/- The document's own answer: an entry is read. Conditions: one goroutine; the bytes are fewer than 2^30. -/
import Derived.Test.YtlkknekflgclgaaGreatDoorZCq6
import Derived.Test.YtlkknekflgclgaaGreatDoorZCyLay
import Derived.Test.YtlkknekflgclgaaGreatDoorZCy4
namespace Go.Proofs.YtlkknekflgclgaaGreatDoor
open Go.RowKit Go.MuLone

theorem blankE {w W : World} {t : Nat} (h : W.heap[t]? = some (.cells #[.int .i64 0, .int .i64 0, .int .i64 0, .int .i64 0, .slice none 0 0] 57 (0, 0))) (ho : Only (fun _ => False) w W) (ht : w.heap.size ≤ t) {W2 : World} (hW : W2 = (((((W.setCell ⟨t, 0, none⟩ (.int .i64 0)).setCell ⟨t, 1, none⟩ (.int .i64 0)).setCell ⟨t, 2, none⟩ (.int .i64 0)).setCell ⟨t, 3, none⟩ (.int .i64 0)).setCell ⟨t, 4, none⟩ (.slice none 0 0))) :
    W2.heap[t]? = some (.cells #[.int .i64 0, .int .i64 0, .int .i64 0, .int .i64 0, .slice none 0 0] 57 (0, 0)) ∧ Only (fun _ => False) w W2 := by
  subst hW
  have bt := blk_set (blk_set (blk_set (blk_set (blk_set h 0 (.int .i64 0)) 1 (.int .i64 0)) 2 (.int .i64 0)) 3 (.int .i64 0)) 4 (.slice none 0 0)
  have ot : Only (fun k => k = t) W (((((W.setCell ⟨t, 0, none⟩ (.int .i64 0)).setCell ⟨t, 1, none⟩ (.int .i64 0)).setCell ⟨t, 2, none⟩ (.int .i64 0)).setCell ⟨t, 3, none⟩ (.int .i64 0)).setCell ⟨t, 4, none⟩ (.slice none 0 0)) := (((((Only.refl (fun k => k = t) W).put t 0 rfl _).put t 1 rfl _).put t 2 rfl _).put t 3 rfl _).put t 4 rfl _
  exact ⟨bt, (Only.trans (ho.mono (T := fun k => k = t) (fun _ _ (q : False) => q.elim)) ot (fun _ _ q => q)).mono (fun i hi q => by have q : i = t := q; omega)⟩
theorem readEntryQ_short {b : Bytes} (h : b.length < 8) : readEntryQ b = (noEnt, 5) := by
  have key : (lowG (lowG ⟨b, 0⟩ 4).2 4).2.e = 5 := by
    by_cases h4 : b.length < 4
    · have k : lowG ⟨b, 0⟩ 4 = (0, ⟨b, 5⟩) := by
        have k2 : rawG ⟨b, 0⟩ ((4 : Nat) : Int) = ([], ⟨b, 5⟩) := by
          unfold rawG
          rw [if_neg (fun q => q rfl), if_neg (by omega), if_pos (by show (b.length : Int) < _; omega)]
        unfold lowG
        rw [k2]
        rfl
      rw [k]
      dsimp only
      rw [lowG_err (s := ⟨b, 5⟩) (fun q => by cases q)]
    · have k : (lowG ⟨b, 0⟩ 4).2 = ⟨b.drop 4, 0⟩ := by
        have k2 : rawG ⟨b, 0⟩ ((4 : Nat) : Int) = (b.take 4, ⟨b.drop 4, 0⟩) := by
          unfold rawG
          rw [if_neg (fun q => q rfl), if_neg (by omega), if_neg (by show ¬ (b.length : Int) < _; omega)]
          rfl
        unfold lowG
        rw [k2]
      rw [k]
      have k3 : rawG ⟨b.drop 4, 0⟩ ((4 : Nat) : Int) = ([], ⟨b.drop 4, 5⟩) := by
        unfold rawG
        rw [if_neg (fun q => q rfl), if_neg (by omega), if_pos (by show ((b.drop 4).length : Int) < _; rw [List.length_drop]; omega)]
      unfold lowG
      rw [k3]
  unfold readEntryQ readE
  rw [if_pos (by rw [key]; decide), key]
theorem readEntryQ_long {b : Bytes} (h : ¬ b.length < 8) : readEntryQ b =
    if (readQ (b.drop 8)).2 ≠ 0 then (noEnt, (readQ (b.drop 8)).2)
    else if entryQ (numB (b.take 4) : Nat) (numB ((b.take 8).drop 4) : Nat) (readQ (b.drop 8)).1 ≠ (b, 0) then (noEnt, 6) else (⟨(numB (b.take 4) : Nat), (numB ((b.take 8).drop 4) : Nat), (readQ (b.drop 8)).1⟩, 0) := by
  have k1 : lowG ⟨b, 0⟩ 4 = (numB (b.take 4), ⟨b.drop 4, 0⟩) := by
    unfold lowG rawG
    dsimp only
    rw [if_neg (fun q => q rfl), if_neg (by omega), if_neg (by omega)]
    rfl
  have k2 : lowG ⟨b.drop 4, 0⟩ 4 = (numB ((b.take 8).drop 4), ⟨b.drop 8, 0⟩) := by
    unfold lowG rawG
    dsimp only
    rw [if_neg (fun q => q rfl), if_neg (by omega), if_neg (by simp only [List.length_drop]; omega)]
    have e1 : (b.drop 4).take 4 = (b.take 8).drop 4 := by rw [List.drop_take]
    have e2 : (b.drop 4).drop 4 = b.drop 8 := by rw [List.drop_drop]
    show (numB ((b.drop 4).take 4), (⟨(b.drop 4).drop 4, 0⟩ : GetS)) = _
    rw [e1, e2]
  unfold readEntryQ readE
  rw [k1]
  dsimp only
  rw [k2]
  dsimp only
  rw [if_neg (fun q => q rfl)]
theorem readQ_len (b : Bytes) : (readQ b).1.cmds.length ≤ 9223372036854775807 := by
  have h1 := cmdsG_len (lowG (intG (intG ⟨b, 0⟩).2).2 1).1 (lowG (intG (intG ⟨b, 0⟩).2).2 1).2
  have h2 := lowG_lt (intG (intG ⟨b, 0⟩).2).2 1
  unfold readQ
  split
  · simp [noReq]
  · split
    · simp [noReq]
    · unfold reqG
      dsimp only
      omega
set_option maxRecDepth 100000 in
set_option maxHeartbeats 8000000 in
theorem RReadEntry_is (w : World) (b : Bytes) (hb : b.length ≤ 1073741824) : Calls Tryz.prog 32 #[str b] w (ReadEEnds w (readEntryQ b)) := by
  have o1 := (Only.refl (fun _ => False) w).alloc (.cells #[.int .i64 0, .int .i64 0, .int .i64 0, .int .i64 0, .slice none 0 0] 57)
  have t1 := blk_new w (.cells #[.int .i64 0, .int .i64 0, .int .i64 0, .int .i64 0, .slice none 0 0] 57)
  by_cases h8 : b.length < 8
  · rw [readEntryQ_short h8]
    have HO1 := Lib.hid o1
    have hd : decide ((b.length : Int) < 8) = true := decide_eq_true (by omega)
    clear t1 o1 h8
    go_enter Tryz.func32, Tryz.ntmps32
    go_wp2_with fail
    refine bodyPost_ret (v := .tuple #[.agg #[.int .i64 0, .int .i64 0, .int .i64 0, .int .i64 0, .slice none 0 0], .int .i64 5]) (by simp [results, Tryz.results32, go_sem]) rfl ?_
    exact ⟨_, rfl, ⟨rfl, .inl ⟨rfl, rfl⟩⟩, HO1.out, fun q hq => by simp [Value.ownBlock] at hq⟩
  · have hrq := readEntryQ_long h8
    generalize readEntryQ b = rq at *
    have hd : decide ((b.length : Int) < 8) = false := decide_eq_false (by omega)
    have hd2 : 8 ≤ b.length := by omega
    have hd4 : 4 ≤ b.length := by omega
    have hi4 : (4 : Int) ≤ (b.length : Int) := by omega
    have hi8 : (8 : Int) ≤ (b.length : Int) := by omega
    have HRd := Lib.hid (RRead_is (w.alloc (.cells #[.int .i64 0, .int .i64 0, .int .i64 0, .int .i64 0, .slice none 0 0] 57)) (b.drop 8) (by simp only [List.length_drop]; omega))
    have HN1 : Hid (∀ W, Calls Tryz.prog 11 #[.string ((⟨b.toArray⟩ : ByteArray).extract 0 4)] W fun e w' => e = .returned (.int .u64 (numB (b.take 4) : Int)) ∧ W = w') := Lib.hid (fun W => by
      rw [cut_front]
      exact RNum_is W (b.take 4) (by rw [List.length_take]; omega))
    have HN2 : Hid (∀ W, Calls Tryz.prog 11 #[.string ((⟨b.toArray⟩ : ByteArray).extract 4 8)] W fun e w' => e = .returned (.int .u64 (numB ((b.take 8).drop 4) : Int)) ∧ W = w') := Lib.hid (fun W => by
      rw [cut_bytes]
      exact RNum_is W _ (by rw [List.length_drop, List.length_take]; omega))
    have x1 : numB (b.take 4) < 4294967296 := Nat.lt_of_lt_of_le (numB_lt _) (Nat.le_trans (Nat.pow_le_pow_right (by omega) (show (b.take 4).length ≤ 4 by rw [List.length_take]; omega)) (by decide))
    have x2 : numB ((b.take 8).drop 4) < 4294967296 := Nat.lt_of_lt_of_le (numB_lt _) (Nat.le_trans (Nat.pow_le_pow_right (by omega) (show ((b.take 8).drop 4).length ≤ 4 by rw [List.length_drop, List.length_take]; omega)) (by decide))
    have hxl := readQ_len (b.drop 8)
    generalize numB (b.take 4) = ix at *
    generalize numB ((b.take 8).drop 4) = tm at *
    have y1 : IntKind.i64.wrap (ix : Int) = (ix : Int) := IntWalk.i64_in _ (by omega)
    have y2 : IntKind.i64.wrap (tm : Int) = (tm : Int) := IntWalk.i64_in _ (by omega)
    generalize readQ (b.drop 8) = rd at *
    obtain ⟨⟨cl, sq, xs⟩, re⟩ := rd
    dsimp only at hrq hxl
    have HRQ := Lib.hid hrq
    have HT1 := Lib.hid t1
    have HO1 := Lib.hid o1
    clear hrq t1 o1 h8 x1 x2
    go_enter Tryz.func32, Tryz.ntmps32
    go_wp2_with fail
    generalize w.alloc (.cells #[.int .i64 0, .int .i64 0, .int .i64 0, .int .i64 0, .slice none 0 0] 57) = W1 at *
    rw [cut_back]
    (with_reducible refine HRd.out.mono ?_)
    rintro e w6 ⟨sv, rfl, hown, o6, hnew⟩
    dsimp only at hown
    obtain ⟨aV, cV, rfl⟩ := ownsRow_form hown
    have oA := (Only.refl (fun _ => False) w6).alloc (.cells #[.int .i64 cl, .int .i64 sq, .slice aV xs.length cV] 52)
    have HOWN := Lib.hid (own_only hown oA (fun _ _ => id))
    have hw1 := blk_lt HT1.out
    have HNEW : Hid (∀ q, (Value.slice aV xs.length cV).ownBlock = some q → w.heap.size ≤ q ∧ q ≠ w.heap.size) := Lib.hid (fun q hq => by
      have h1 := hnew q hq
      exact ⟨by omega, by omega⟩)
    have HQB := Lib.hid (blk_new w6 (.cells #[.int .i64 cl, .int .i64 sq, .slice aV xs.length cV] 52))
    have HT6 := Lib.hid (blk_keep (blk_keep HT1.out o6 id) oA id)
    have HO6 := Lib.hid (HO1.out.trans (o6.trans oA (fun _ _ q => q)) (fun _ _ q => q))
    clear HRd hown o6 hnew oA HT1 HO1
    have t0 := blk_cell HT6.out 0
    have t1 := blk_cell HT6.out 1
    have t2 := blk_cell HT6.out 2
    have t3 := blk_cell HT6.out 3
    have t4 := blk_cell HT6.out 4
    have f0 := blk_frozen HT6.out 0
    have f1 := blk_frozen HT6.out 1
    have f2 := blk_frozen HT6.out 2
    have f3 := blk_frozen HT6.out 3
    have f4 := blk_frozen HT6.out 4
    simp only [List.getElem?_toArray, List.getElem?_cons_zero, List.getElem?_cons_succ] at t0 t1 t2 t3 t4
    by_cases hre : re = 0
    · subst hre
      rw [if_neg (fun q => q rfl)] at HRQ
      go_wp2_with fail
      generalize w6.alloc (.cells #[.int .i64 cl, .int .i64 sq, .slice aV xs.length cV] 52) = W6 at *
      have HS : Hid (∀ W, Only (fun _ => False) W6 W → W.cell? ⟨w6.heap.size, 0, none⟩ = some (.int .i64 cl) ∧ W.cell? ⟨w6.heap.size, 1, none⟩ = some (.int .i64 sq) ∧ W.cell? ⟨w6.heap.size, 2, none⟩ = some (.slice aV xs.length cV)) := Lib.hid (fun W hW => by
        have y := blk_keep HQB.out hW id
        exact ⟨blk_cell y 0, blk_cell y 1, blk_cell y 2⟩)
      have k0 : Only (fun _ => False) W6 W6 := Only.refl _ _
      have k1 : Only (fun _ => False) W6 W6.drew := (Only.refl _ _).drew
      clear t0 t1 t2 t3 t4 f0 f1 f2 f3 f4
      go_region_held3 (fun w' => w'.cell? ⟨w6.heap.size, 0, none⟩ = some (.int .i64 cl) ∧ w'.cell? ⟨w6.heap.size, 1, none⟩ = some (.int .i64 sq) ∧ w'.cell? ⟨w6.heap.size, 2, none⟩ = some (.slice aV xs.length cV)) (first | exact HS.out _ (by first | assumption | exact (Only.refl _ _).alloc _ | exact ((Only.refl _ _).alloc _).drew)) (first | ((with_reducible refine (HN1.out _).mono ?_); rintro _ _ ⟨rfl, rfl⟩) | ((with_reducible refine (HN2.out _).mono ?_); rintro _ _ ⟨rfl, rfl⟩))
      all_goals (
        have eb : (W6.alloc (.cells #[.int .i64 (ix : Int), .int .i64 (tm : Int), .int .i64 cl, .int .i64 sq, .slice aV xs.length cV] 57)).drew.heap[W6.heap.size]? = some (.cells #[.int .i64 (ix : Int), .int .i64 (tm : Int), .int .i64 cl, .int .i64 sq, .slice aV xs.length cV] 57) := blk_new W6 (.cells #[.int .i64 (ix : Int), .int .i64 (tm : Int), .int .i64 cl, .int .i64 sq, .slice aV xs.length cV] 57)
        have oE := ((Only.refl (fun _ => False) W6).alloc (.cells #[.int .i64 (ix : Int), .int .i64 (tm : Int), .int .i64 cl, .int .i64 sq, .slice aV xs.length cV] 57)).drew
        have HOWN7 := Lib.hid (own_only HOWN.out oE (fun _ _ => id))
        have HO7 := Lib.hid (HO6.out.trans oE (fun _ _ q => q))
        have HT7 := Lib.hid (blk_keep HT6.out oE id)
        generalize (W6.alloc (.cells #[.int .i64 (ix : Int), .int .i64 (tm : Int), .int .i64 cl, .int .i64 sq, .slice aV xs.length cV] 57)).drew = W7 at *
        have HEB := Lib.hid eb
        have e0 := blk_cell eb 0
        have e1 := blk_cell eb 1
        have e2 := blk_cell eb 2
        have e3 := blk_cell eb 3
        have e4 := blk_cell eb 4
        simp only [List.getElem?_toArray, List.getElem?_cons_zero, List.getElem?_cons_succ] at e0 e1 e2 e3 e4
        clear eb oE k0 k1 HS HN1 HN2 HOWN HO6 HT6 HQB
        have HEn := Lib.hid (REntry_is W7 ix tm ⟨cl, sq, xs⟩ (.slice aV xs.length cV) (row_ownQ (enc := cmdC) (k := 5) (fun _ => rfl) HOWN7.out) hxl)
        generalize hly : entryQ ix tm ⟨cl, sq, xs⟩ = ly at *
        obtain ⟨L1, L2⟩ := ly
        dsimp only at HEn
        go_wp2_with fail
        (with_reducible refine HEn.out.mono ?_)
        rintro e w8 ⟨rfl, o8⟩
        have HT8 := Lib.hid (blk_keep HT7.out o8 id)
        have HE8 := Lib.hid (blk_keep HEB.out o8 id)
        have HO8 := Lib.hid (HO7.out.trans o8 (fun _ _ q => q))
        have HOWN8 := Lib.hid (own_only HOWN7.out o8 (fun _ _ => id))
        clear HEn o8 HOWN7 HT7 HEB HO7 e0 e1 e2 e3 e4
        have t0 := blk_cell HT8.out 0
        have t1 := blk_cell HT8.out 1
        have t2 := blk_cell HT8.out 2
        have t3 := blk_cell HT8.out 3
        have t4 := blk_cell HT8.out 4
        have f0 := blk_frozen HT8.out 0
        have f1 := blk_frozen HT8.out 1
        have f2 := blk_frozen HT8.out 2
        have f3 := blk_frozen HT8.out 3
        have f4 := blk_frozen HT8.out 4
        have r0 := blk_cell HE8.out 0
        have r1 := blk_cell HE8.out 1
        have r2 := blk_cell HE8.out 2
        have r3 := blk_cell HE8.out 3
        have r4 := blk_cell HE8.out 4
        simp only [List.getElem?_toArray, List.getElem?_cons_zero, List.getElem?_cons_succ] at t0 t1 t2 t3 t4 r0 r1 r2 r3 r4
        generalize hT : w.heap.size = t at *
        by_cases hok : L2 = 0 ∧ L1 = b
        · obtain ⟨rfl, rfl⟩ := hok
          rw [if_neg (fun q => q rfl)] at HRQ
          have e1 : (L1 == L1) = true := by simp
          have e2 : (L1 != L1) = false := by simp
          go_wp2_with fail
          have bt := blk_set (blk_set (blk_set (blk_set (blk_set HT8.out 0 (.int .i64 (ix : Int))) 1 (.int .i64 (tm : Int))) 2 (.int .i64 cl)) 3 (.int .i64 sq)) 4 (.slice aV xs.length cV)
          have ot : Only (fun k => k = t) w8 (((((w8.setCell ⟨t, 0, none⟩ (.int .i64 (ix : Int))).setCell ⟨t, 1, none⟩ (.int .i64 (tm : Int))).setCell ⟨t, 2, none⟩ (.int .i64 cl)).setCell ⟨t, 3, none⟩ (.int .i64 sq)).setCell ⟨t, 4, none⟩ (.slice aV xs.length cV)) := (((((Only.refl (fun k => k = t) w8).put t 0 rfl _).put t 1 rfl _).put t 2 rfl _).put t 3 rfl _).put t 4 rfl _
          have g0 := blk_cell bt 0
          have g1 := blk_cell bt 1
          have g2 := blk_cell bt 2
          have g3 := blk_cell bt 3
          have g4 := blk_cell bt 4
          refine bodyPost_ret (v := .tuple #[.agg #[.int .i64 (ix : Int), .int .i64 (tm : Int), .int .i64 cl, .int .i64 sq, .slice aV xs.length cV], .int .i64 0]) (by simp [results, Tryz.results32, go_sem, g0, g1, g2, g3, g4]) rfl ?_
          rw [HRQ.out]
          refine ⟨.slice aV xs.length cV, rfl, own_only HOWN8.out ot (fun q hq e => (HNEW.out q hq).2 e), ?_, fun q hq => by rw [hT]; exact (HNEW.out q hq).1⟩
          exact (Only.trans (HO8.out.mono (T := fun k => k = t) (fun _ _ (q : False) => q.elim)) ot (fun _ _ q => q)).mono (fun i hi q => by have q : i = t := q; omega)
        · have hne : ¬ ((L1, L2) = (b, 0)) := fun q => hok ⟨congrArg Prod.snd q, congrArg Prod.fst q⟩
          rw [if_pos hne] at HRQ
          have HOK := Lib.hid hok
          have HFIN := Lib.hid (fun W2 => blankE (W2 := W2) HT8.out HO8.out (by omega))
          clear hne hok HT8 HE8 HO8 HOWN8 HNEW r0 r1 r2 r3 r4
          by_cases h2 : L2 = 0
          · subst h2
            have h1 : L1 ≠ b := fun q => HOK.out ⟨rfl, q⟩
            have e1 : (L1 == b) = false := by simpa using h1
            have e2 : (L1 != b) = true := by simpa using h1
            clear h1
            go_wp2_with fail
            obtain ⟨bt, ot⟩ := HFIN.out _ rfl
            have g0 := blk_cell bt 0
            have g1 := blk_cell bt 1
            have g2 := blk_cell bt 2
            have g3 := blk_cell bt 3
            have g4 := blk_cell bt 4
            refine bodyPost_ret (v := .tuple #[.agg #[.int .i64 0, .int .i64 0, .int .i64 0, .int .i64 0, .slice none 0 0], .int .i64 6]) (by simp [results, Tryz.results32, go_sem, g0, g1, g2, g3, g4]) rfl ?_
            rw [HRQ.out]
            exact ⟨_, rfl, ⟨rfl, .inl ⟨rfl, rfl⟩⟩, ot, fun q hq => by simp [Value.ownBlock] at hq⟩
          · have e1 : (L2 == 0) = false := by simpa using h2
            have e2 : (L2 != 0) = true := by simpa using h2
            go_wp2_with fail
            obtain ⟨bt, ot⟩ := HFIN.out _ rfl
            have g0 := blk_cell bt 0
            have g1 := blk_cell bt 1
            have g2 := blk_cell bt 2
            have g3 := blk_cell bt 3
            have g4 := blk_cell bt 4
            refine bodyPost_ret (v := .tuple #[.agg #[.int .i64 0, .int .i64 0, .int .i64 0, .int .i64 0, .slice none 0 0], .int .i64 6]) (by simp [results, Tryz.results32, go_sem, g0, g1, g2, g3, g4]) rfl ?_
            rw [HRQ.out]
            exact ⟨_, rfl, ⟨rfl, .inl ⟨rfl, rfl⟩⟩, ot, fun q hq => by simp [Value.ownBlock] at hq⟩)
    · rw [if_pos hre] at HRQ
      have he1 : (re == 0) = false := by simpa using hre
      have he2 : (re != 0) = true := by simpa using hre
      have HFIN := Lib.hid (fun W2 => blankE (W2 := W2) HT6.out HO6.out (Nat.le_refl _))
      clear HOWN HNEW HQB HT6 HO6
      go_wp2_with fail
      obtain ⟨bt, ot⟩ := HFIN.out _ rfl
      have g0 := blk_cell bt 0
      have g1 := blk_cell bt 1
      have g2 := blk_cell bt 2
      have g3 := blk_cell bt 3
      have g4 := blk_cell bt 4
      refine bodyPost_ret (v := .tuple #[.agg #[.int .i64 0, .int .i64 0, .int .i64 0, .int .i64 0, .slice none 0 0], .int .i64 re]) (by simp [results, Tryz.results32, go_sem, g0, g1, g2, g3, g4]) rfl ?_
      rw [HRQ.out]
      exact ⟨_, rfl, ⟨rfl, .inl ⟨rfl, rfl⟩⟩, ot, fun q hq => by simp [Value.ownBlock] at hq⟩
end Go.Proofs.YtlkknekflgclgaaGreatDoor
