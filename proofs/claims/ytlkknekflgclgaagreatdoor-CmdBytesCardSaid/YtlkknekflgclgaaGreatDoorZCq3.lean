/- Package cmd: why a request can't be; a request, an entry as bytes. Conditions: one goroutine. -/
import Derived.Test.YtlkknekflgclgaaGreatDoorZCq2
namespace Go.Proofs.YtlkknekflgclgaaGreatDoor
open Go.RowKit Go.MuLone

theorem blk_keep {w w' : World} {b : Nat} {o : Obj} (h : w.heap[b]? = some o) {F : Nat → Prop} (ho : Only F w w') (hF : ¬ F b) : w'.heap[b]? = some o := (ho.block b (blk_lt h) hF).trans h
theorem checkQ_bad {r : ReqQ} (h : r.client < 0 ∨ 1099511627776 < r.client ∨ r.seq < 0 ∨ 1099511627776 < r.seq ∨ r.cmds = []) : checkQ r = 1 := if_pos h
theorem checkQ_many {r : ReqQ} (h : ¬ (r.client < 0 ∨ 1099511627776 < r.client ∨ r.seq < 0 ∨ 1099511627776 < r.seq ∨ r.cmds = [])) (h2 : 6 < r.cmds.length) : checkQ r = 2 := by
  unfold checkQ
  rw [if_neg h, if_pos h2]
theorem checkQ_few {r : ReqQ} (h : ¬ (r.client < 0 ∨ 1099511627776 < r.client ∨ r.seq < 0 ∨ 1099511627776 < r.seq ∨ r.cmds = [])) (h2 : ¬ 6 < r.cmds.length) : checkQ r = if r.cmds.any (fun c => !okC c) then 1 else if 8000 < (reqB r).length then 2 else 0 := by
  unfold checkQ
  rw [if_neg h, if_neg h2]
set_option maxRecDepth 100000 in
set_option maxHeartbeats 4000000 in
theorem Check_is (w : World) (r : ReqQ) (v : Value) (hv : RowAt cmdC 5 w v r.cmds) (hn : r.cmds.length ≤ 9223372036854775807) :
    Calls Tryz.prog 19 #[.agg #[.int .i64 r.client, .int .i64 r.seq, v]] w fun e w' => e = .returned (.int .i64 (checkQ r)) ∧ Only (fun _ => False) w w' := by
  obtain ⟨cl, sq, l⟩ := r
  dsimp only at *
  obtain ⟨a, cap, rfl, ha⟩ := row_len hv
  have o1 := (Only.refl (fun _ => False) w).alloc (.cells #[.int .i64 cl, .int .i64 sq, .slice a l.length cap] 52)
  by_cases hbad : cl < 0 ∨ 1099511627776 < cl ∨ sq < 0 ∨ 1099511627776 < sq ∨ l = []
  · rw [checkQ_bad hbad]
    have HO1 := Lib.hid o1
    have hl : l = [] ↔ l.length = 0 := List.length_eq_zero_iff.symm
    rw [hl] at hbad
    have h5 : cl < 0 ∨ (0 ≤ cl ∧ 1099511627776 < cl) ∨ (0 ≤ cl ∧ cl ≤ 1099511627776 ∧ sq < 0) ∨ (0 ≤ cl ∧ cl ≤ 1099511627776 ∧ 0 ≤ sq ∧ 1099511627776 < sq) ∨ (0 ≤ cl ∧ cl ≤ 1099511627776 ∧ 0 ≤ sq ∧ sq ≤ 1099511627776 ∧ (l.length : Int) = 0) := by omega
    clear hbad hl o1 hv ha
    rcases h5 with g1 | ⟨g1, g2⟩ | ⟨g1, g2, g3⟩ | ⟨g1, g2, g3, g4⟩ | ⟨g1, g2, g3, g4, g5⟩
    case' inr.inr.inr.inr =>
      have g6 : ((l.length : Int) == 0) = true := by rw [g5]; rfl
      have g7 : decide (cl < 0) = false := decide_eq_false (by omega)
      have g8 : decide (1099511627776 < cl) = false := decide_eq_false (by omega)
      have g9 : decide (sq < 0) = false := decide_eq_false (by omega)
      have g10 : decide (1099511627776 < sq) = false := decide_eq_false (by omega)
      clear g5
    all_goals
      go_enter Tryz.func19, Tryz.ntmps19
      go_wp2_with fail
      go_ret
      exact ⟨rfl, HO1.out⟩
  · have hl : l = [] ↔ l.length = 0 := List.length_eq_zero_iff.symm
    have hgood : ¬ cl < 0 ∧ ¬ 1099511627776 < cl ∧ ¬ sq < 0 ∧ ¬ 1099511627776 < sq ∧ l.length ≠ 0 := by
      rw [hl] at hbad
      omega
    obtain ⟨y1, y2, y3, y4, y5⟩ := hgood
    have e1 : decide (cl < 0) = false := decide_eq_false y1
    have e2 : decide (1099511627776 < cl) = false := decide_eq_false y2
    have e3 : decide (sq < 0) = false := decide_eq_false y3
    have e4 : decide (1099511627776 < sq) = false := decide_eq_false y4
    have e5 : ((l.length : Int) == 0) = false := by rw [beq_eq_false_iff_ne]; omega
    by_cases hm : 6 < l.length
    · rw [checkQ_many hbad hm]
      have HO1 := Lib.hid o1
      have e6 : decide (6 < (l.length : Int)) = true := decide_eq_true (by omega)
      clear hbad hl o1 hv ha y1 y2 y3 y4 y5
      go_enter Tryz.func19, Tryz.ntmps19
      go_wp2_with fail
      go_ret
      exact ⟨rfl, HO1.out⟩
    · rw [checkQ_few hbad hm]
      have HO1 := Lib.hid o1
      have e6 : decide (6 < (l.length : Int)) = false := decide_eq_false (by omega)
      have HC := Lib.hid (CContains_is _ (.slice a l.length cap) l (row_still hv o1) hn)
      have HL : Hid ((∀ c ∈ l, okC c = true) → ∀ W, Only (fun _ => False) w W → Calls Tryz.prog 100 #[.agg #[.int .i64 cl, .int .i64 sq, .slice a l.length cap]] W fun e w' => e = .returned (.tuple #[str (reqB ⟨cl, sq, l⟩), .int .i64 0]) ∧ Only (fun _ => False) W w') := Lib.hid (fun hok W hW => lay_is W ⟨cl, sq, l⟩ _ (row_still hv hW) (by simp only; omega) hok)
      have b1 := blk_new w (.cells #[.int .i64 cl, .int .i64 sq, .slice a l.length cap] 52)
      have HC2 : Hid (∀ W, Only (fun _ => False) (w.alloc (.cells #[.int .i64 cl, .int .i64 sq, .slice a l.length cap] 52)) W → W.cell? ⟨w.heap.size, 0, none⟩ = some (.int .i64 cl) ∧ W.cell? ⟨w.heap.size, 1, none⟩ = some (.int .i64 sq) ∧ W.cell? ⟨w.heap.size, 2, none⟩ = some (.slice a l.length cap)) := Lib.hid (fun W hW => by
        have n2 := blk_keep b1 hW id
        exact ⟨blk_cell n2 0, blk_cell n2 1, blk_cell n2 2⟩)
      have hany : (l.any (fun c => !okC c) = false) → ∀ c ∈ l, okC c = true := fun h c hc => by
        rw [List.any_eq_false] at h
        have := h c hc
        simpa using this
      have HAny := Lib.hid hany
      generalize hreq : reqB ⟨cl, sq, l⟩ = rb at *
      generalize hb : l.any (fun c => !okC c) = b at *
      clear hbad hl o1 hv ha y1 y2 y3 y4 y5 b1 hany
      cases b with
      | true =>
        rw [if_pos rfl]
        go_enter Tryz.func19, Tryz.ntmps19
        go_wp2_with fail
        (with_reducible refine HC.out.mono ?_)
        rintro e w2 ⟨rfl, o2⟩
        have HF := Lib.hid (HO1.out.trans o2 (fun _ _ q => q))
        clear o2
        go_wp2_with fail
        go_ret
        exact ⟨rfl, HF.out⟩
      | false =>
        have HL2 := Lib.hid (HL.out (HAny.out rfl))
        rw [if_neg (by decide)]
        clear HL HAny
        generalize hfin : (if 8000 < rb.length then (2 : Int) else 0) = z at *
        go_enter Tryz.func19, Tryz.ntmps19
        go_wp2_with fail
        (with_reducible refine HC.out.mono ?_)
        rintro e w2 ⟨rfl, o2⟩
        have HF := Lib.hid (HO1.out.trans o2 (fun _ _ q => q))
        obtain ⟨c0, c1, c2⟩ := HC2.out w2 o2
        have HL3 := Lib.hid (HL2.out w2 HF.out)
        clear o2 HL2
        go_wp2_with fail
        (with_reducible refine HL3.out.mono ?_)
        rintro e w3 ⟨rfl, o3⟩
        have HF3 := Lib.hid (HF.out.trans o3 (fun _ _ q => q))
        clear o3 HF
        by_cases hlen : 8000 < rb.length
        · obtain rfl : 2 = z := by rw [← hfin, if_pos hlen]
          have e7 : (8000 : Int) < (rb.length : Int) := by omega
          go_wp2_with fail
          go_ret
          exact ⟨rfl, HF3.out⟩
        · obtain rfl : 0 = z := by rw [← hfin, if_neg hlen]
          have e7 : ¬ (8000 : Int) < (rb.length : Int) := by omega
          go_wp2_with fail
          go_ret
          exact ⟨rfl, HF3.out⟩
theorem okall_of {r : ReqQ} (h : checkQ r = 0) : r.cmds.length ≤ 6 ∧ ∀ c ∈ r.cmds, okC c = true := ⟨(good_of h).few, (good_of h).ok⟩
set_option maxRecDepth 100000 in
theorem Lay_is (w : World) (r : ReqQ) (v : Value) (hv : RowAt cmdC 5 w v r.cmds) (hn : r.cmds.length ≤ 9223372036854775807) :
    Calls Tryz.prog 26 #[.agg #[.int .i64 r.client, .int .i64 r.seq, v]] w fun e w' => e = .returned (.tuple #[str (layQ r).1, .int .i64 (layQ r).2]) ∧ Only (fun _ => False) w w' := by
  obtain ⟨cl, sq, l⟩ := r
  obtain ⟨a, cap, rfl, ha⟩ := row_len hv
  have o1 := (Only.refl (fun _ => False) w).alloc (.cells #[.int .i64 cl, .int .i64 sq, .slice a l.length cap] 52)
  have HK := Lib.hid (Check_is _ ⟨cl, sq, l⟩ (.slice a l.length cap) (row_still hv o1) hn)
  have HO1 := Lib.hid o1
  have HL : Hid (checkQ ⟨cl, sq, l⟩ = 0 → ∀ W, Only (fun _ => False) w W → Calls Tryz.prog 100 #[.agg #[.int .i64 cl, .int .i64 sq, .slice a l.length cap]] W fun e w' => e = .returned (.tuple #[str (reqB ⟨cl, sq, l⟩), .int .i64 0]) ∧ Only (fun _ => False) W w') := Lib.hid (fun hz W hW => lay_is W ⟨cl, sq, l⟩ _ (row_still hv hW) (okall_of hz).1 (okall_of hz).2)
  have b1 := blk_new w (.cells #[.int .i64 cl, .int .i64 sq, .slice a l.length cap] 52)
  have HC2 : Hid (∀ W, Only (fun _ => False) (w.alloc (.cells #[.int .i64 cl, .int .i64 sq, .slice a l.length cap] 52)) W → W.cell? ⟨w.heap.size, 0, none⟩ = some (.int .i64 cl) ∧ W.cell? ⟨w.heap.size, 1, none⟩ = some (.int .i64 sq) ∧ W.cell? ⟨w.heap.size, 2, none⟩ = some (.slice a l.length cap)) := Lib.hid (fun W hW => by
    have n2 := blk_keep b1 hW id
    exact ⟨blk_cell n2 0, blk_cell n2 1, blk_cell n2 2⟩)
  dsimp only at *
  clear hv ha o1 b1
  unfold layQ
  generalize hreq : reqB ⟨cl, sq, l⟩ = rb at *
  generalize hz : checkQ ⟨cl, sq, l⟩ = z at *
  by_cases hz0 : z = 0
  · subst hz0
    have HL2 := Lib.hid (HL.out rfl)
    rw [if_neg (fun q => q rfl)]
    dsimp only
    clear HL
    go_enter Tryz.func26, Tryz.ntmps26
    go_wp2_with fail
    (with_reducible refine HK.out.mono ?_)
    rintro e w2 ⟨rfl, o2⟩
    have HF := Lib.hid (HO1.out.trans o2 (fun _ _ q => q))
    obtain ⟨c0, c1, c2⟩ := HC2.out w2 o2
    have HL3 := Lib.hid (HL2.out w2 HF.out)
    clear o2 HL2
    go_wp2_with fail
    (with_reducible refine HL3.out.mono ?_)
    rintro e w3 ⟨rfl, o3⟩
    have HF3 := Lib.hid (HF.out.trans o3 (fun _ _ q => q))
    clear o3 HF
    go_wp2_with fail
    go_ret2
    exact ⟨rfl, HF3.out⟩
  · rw [if_pos hz0]
    dsimp only
    have hz1 : (z == 0) = false := by simpa using hz0
    have hz2 : (z != 0) = true := by simpa using hz0
    clear HL
    go_enter Tryz.func26, Tryz.ntmps26
    go_wp2_with fail
    (with_reducible refine HK.out.mono ?_)
    rintro e w2 ⟨rfl, o2⟩
    have HF := Lib.hid (HO1.out.trans o2 (fun _ _ q => q))
    clear o2
    go_wp2_with fail
    go_ret2
    exact ⟨rfl, HF.out⟩
set_option maxRecDepth 100000 in
set_option maxHeartbeats 4000000 in
theorem Entry_is (w : World) (i t : Int) (r : ReqQ) (v : Value) (hv : RowAt cmdC 5 w v r.cmds) (hn : r.cmds.length ≤ 9223372036854775807) :
    Calls Tryz.prog 18 #[.agg #[.int .i64 i, .int .i64 t, .int .i64 r.client, .int .i64 r.seq, v]] w fun e w' => e = .returned (.tuple #[str (entryQ i t r).1, .int .i64 (entryQ i t r).2]) ∧ Only (fun _ => False) w w' := by
  obtain ⟨cl, sq, l⟩ := r
  obtain ⟨a, cap, rfl, ha⟩ := row_len hv
  dsimp only at *
  have o1 := (Only.refl (fun _ => False) w).alloc (.cells #[.int .i64 i, .int .i64 t, .int .i64 cl, .int .i64 sq, .slice a l.length cap] 57)
  have HO1 := Lib.hid o1
  have HK := Lib.hid (Lay_is _ ⟨cl, sq, l⟩ (.slice a l.length cap) (row_still hv o1) hn)
  have b1 := blk_new w (.cells #[.int .i64 i, .int .i64 t, .int .i64 cl, .int .i64 sq, .slice a l.length cap] 57)
  have HC2 : Hid (∀ W, Only (fun _ => False) (w.alloc (.cells #[.int .i64 i, .int .i64 t, .int .i64 cl, .int .i64 sq, .slice a l.length cap] 57)) W → W.cell? ⟨w.heap.size, 0, none⟩ = some (.int .i64 i) ∧ W.cell? ⟨w.heap.size, 1, none⟩ = some (.int .i64 t)) := Lib.hid (fun W hW => by
    have n2 := blk_keep b1 hW id
    exact ⟨blk_cell n2 0, blk_cell n2 1⟩)
  have hlq : layQ ⟨cl, sq, l⟩ = if checkQ ⟨cl, sq, l⟩ ≠ 0 then ([], checkQ ⟨cl, sq, l⟩) else (reqB ⟨cl, sq, l⟩, 0) := rfl
  have hshort : checkQ ⟨cl, sq, l⟩ = 0 → (reqB ⟨cl, sq, l⟩).length ≤ 8000 := fun h => (good_of h).short
  rw [hlq] at HK
  clear hv ha o1 b1 hlq hn
  unfold entryQ
  generalize hreq : reqB ⟨cl, sq, l⟩ = rb at *
  generalize hz : checkQ ⟨cl, sq, l⟩ = z at *
  dsimp only at *
  by_cases hbad : i < 0 ∨ 2147483647 < i ∨ t < 0 ∨ 2147483647 < t
  · rw [if_pos hbad]
    have h5 : i < 0 ∨ (0 ≤ i ∧ 2147483647 < i) ∨ (0 ≤ i ∧ i ≤ 2147483647 ∧ t < 0) ∨ (0 ≤ i ∧ i ≤ 2147483647 ∧ 0 ≤ t ∧ 2147483647 < t) := by omega
    clear hbad HK HC2
    dsimp only
    rcases h5 with g1 | ⟨g1, g2⟩ | ⟨g1, g2, g3⟩ | ⟨g1, g2, g3, g4⟩
    all_goals
      go_enter Tryz.func18, Tryz.ntmps18
      go_wp2_with fail
      go_ret2
      exact ⟨rfl, HO1.out⟩
  · rw [if_neg hbad]
    have hgood : ¬ i < 0 ∧ ¬ 2147483647 < i ∧ ¬ t < 0 ∧ ¬ 2147483647 < t := by omega
    obtain ⟨y1, y2, y3, y4⟩ := hgood
    have e1 : decide (i < 0) = false := decide_eq_false y1
    have e2 : decide (2147483647 < i) = false := decide_eq_false y2
    have e3 : decide (t < 0) = false := decide_eq_false y3
    have e4 : decide (2147483647 < t) = false := decide_eq_false y4
    clear hbad
    by_cases hz0 : z = 0
    · subst hz0
      have hsh := hshort rfl
      rw [if_neg (fun q => q rfl)] at HK ⊢
      dsimp only at HK ⊢
      clear hshort
      generalize hfin : lowB i.toNat 4 ++ (lowB t.toNat 4 ++ rb) = fin at *
      have HFin := Lib.hid hfin
      clear hfin
      go_enter Tryz.func18, Tryz.ntmps18
      go_wp2_with fail
      (with_reducible refine HK.out.mono ?_)
      rintro e W0 ⟨rfl, o2⟩
      have HF := Lib.hid (HO1.out.trans o2 (fun _ _ q => q))
      obtain ⟨c0, c1⟩ := HC2.out W0 o2
      clear o2 HC2
      go_wp2_with fail
      generalize hBB : w.heap.size = B at *
      have hB : ∀ w', Only (fun _ => False) W0 w' → w'.cell? ⟨B, 0, none⟩ = some (.int .i64 i) ∧ w'.cell? ⟨B, 1, none⟩ = some (.int .i64 t) := fun w' hw => ⟨(hw.cell (p := ⟨B, 0, none⟩) (lt_of_cell c0) id).trans c0, (hw.cell (p := ⟨B, 1, none⟩) (lt_of_cell c1) id).trans c1⟩
      have HBB := Lib.hid hB
      have hS0 := put_fresh W0 97
      have hS1 : PutNew (fun _ => False) W0 (W0.alloc (.cells #[.slice none 0 0, .int .i64 0] 97)).drew W0.heap.size ⟨[], 0⟩ := by
        obtain ⟨sv, h⟩ := hS0
        exact ⟨sv, h.drew⟩
      have k0 : Only (fun _ => False) W0 W0 := Only.refl _ _
      have k1 : Only (fun _ => False) W0 W0.drew := (Only.refl _ _).drew
      have k2 : Only (fun _ => False) W0 (W0.alloc (.cells #[.slice none 0 0, .int .i64 0] 97)) := (Only.refl _ _).alloc _
      have k3 : Only (fun _ => False) W0 (W0.alloc (.cells #[.slice none 0 0, .int .i64 0] 97)).drew := ((Only.refl _ _).alloc _).drew
      generalize hP : W0.heap.size = p at *
      have HC1 : Hid (∀ w', PutNew (fun _ => False) W0 w' p ⟨[], 0⟩ → Calls Tryz.prog 95 #[.pointer (some ⟨p, 0, none⟩), .int .i64 i] w' fun e w'' => e = .returned (.pointer (some ⟨p, 0, none⟩)) ∧ PutNew (fun _ => False) W0 w'' p ⟨lowB i.toNat 4, 0⟩) := Lib.hid (fun w' h => by
        have := Word_new _ W0 w' _ ⟨[], 0⟩ i ⟨by omega, by omega⟩ h (by simp)
        have e : smallS ⟨[], 0⟩ i 4 = ⟨lowB i.toNat 4, 0⟩ := by unfold smallS; rw [if_neg (by simp), if_neg (by omega)]; simp
        rwa [e] at this)
      have HC2 : Hid (∀ w', PutNew (fun _ => False) W0 w' p ⟨lowB i.toNat 4, 0⟩ → Calls Tryz.prog 95 #[.pointer (some ⟨p, 0, none⟩), .int .i64 t] w' fun e w'' => e = .returned (.pointer (some ⟨p, 0, none⟩)) ∧ PutNew (fun _ => False) W0 w'' p ⟨lowB i.toNat 4 ++ lowB t.toNat 4, 0⟩) := Lib.hid (fun w' h => by
        have := Word_new _ W0 w' _ ⟨lowB i.toNat 4, 0⟩ t ⟨by omega, by omega⟩ h (by simp only [lowB_length]; omega)
        have e : smallS ⟨lowB i.toNat 4, 0⟩ t 4 = ⟨lowB i.toNat 4 ++ lowB t.toNat 4, 0⟩ := by unfold smallS; rw [if_neg (by simp), if_neg (by omega)]
        rwa [e] at this)
      have HC3 : Hid (∀ w', PutNew (fun _ => False) W0 w' p ⟨lowB i.toNat 4 ++ lowB t.toNat 4, 0⟩ → Calls Tryz.prog 96 #[.pointer (some ⟨p, 0, none⟩), str rb] w' fun e w'' => e = .returned (.pointer (some ⟨p, 0, none⟩)) ∧ PutNew (fun _ => False) W0 w'' p ⟨fin, 0⟩) := Lib.hid (fun w' h => by
        have := Raw_new _ W0 w' _ ⟨lowB i.toNat 4 ++ lowB t.toNat 4, 0⟩ rb h (by simp only [List.length_append, lowB_length]; omega) (by omega)
        have e : rawS ⟨lowB i.toNat 4 ++ lowB t.toNat 4, 0⟩ rb = ⟨fin, 0⟩ := by unfold rawS; rw [if_neg (by simp), ← HFin.out, List.append_assoc]
        rwa [e] at this)
      have HC4 : Hid (∀ w', PutNew (fun _ => False) W0 w' p ⟨fin, 0⟩ → Calls Tryz.prog 54 #[.pointer (some ⟨p, 0, none⟩)] w' fun e w'' => e = .returned (.tuple #[str fin, .int .i64 0]) ∧ Only (fun _ => False) w' w'') := Lib.hid (fun w' h => by
        have := End_new _ W0 w' _ _ h
        have e : endS ⟨fin, 0⟩ = (fin, 0) := by unfold endS; rw [if_neg (fun q => q rfl)]
        rwa [e] at this)
      generalize lowB i.toNat 4 ++ lowB t.toNat 4 = t2 at *
      generalize lowB i.toNat 4 = t1 at *
      clear hB
      go_region_held3 (fun w' => w'.cell? ⟨B, 0, none⟩ = some (.int .i64 i) ∧ w'.cell? ⟨B, 1, none⟩ = some (.int .i64 t)) (first | exact HBB.out _ (by assumption)) (first | ((with_reducible refine (HC1.out _ (by assumption)).mono ?_); rintro _ w4 ⟨rfl, hq1⟩; have k4 := hq1.choose_spec.since) | ((with_reducible refine (HC2.out _ (by assumption)).mono ?_); rintro _ w5 ⟨rfl, hq2⟩; have k5 := hq2.choose_spec.since) | ((with_reducible refine (HC3.out _ (by assumption)).mono ?_); rintro _ w6 ⟨rfl, hq3⟩; have k6 := hq3.choose_spec.since) | ((with_reducible refine (HC4.out _ (by assumption)).mono ?_); rintro _ w7 ⟨rfl, o7⟩; have k7 := Only.trans k6 o7 (fun _ _ q => q)))
      all_goals (
        have HF7 := Lib.hid (HF.out.trans k7 (fun _ _ q => q))
        clear hq1 hq2 hq3 k0 k1 k2 k3 k4 k5 k6 k7 o7 hS0 hS1 HC1 HC2 HC3 HC4
        go_wp2_with fail
        go_ret2
        exact ⟨rfl, HF7.out⟩)
    · rw [if_pos hz0] at HK ⊢
      dsimp only at HK ⊢
      have hz1 : (z == 0) = false := by simpa using hz0
      have hz2 : (z != 0) = true := by simpa using hz0
      clear hshort y1 y2 y3 y4
      go_enter Tryz.func18, Tryz.ntmps18
      go_wp2_with fail
      (with_reducible refine HK.out.mono ?_)
      rintro e w2 ⟨rfl, o2⟩
      have HF := Lib.hid (HO1.out.trans o2 (fun _ _ q => q))
      clear o2
      go_wp2_with fail
      go_ret2
      exact ⟨rfl, HF.out⟩
end Go.Proofs.YtlkknekflgclgaaGreatDoor
