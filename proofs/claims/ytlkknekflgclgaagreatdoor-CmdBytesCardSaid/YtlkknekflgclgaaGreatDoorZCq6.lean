/- Package cmd: an entry is read. Conditions: one goroutine; the bytes are fewer than 2^30. -/
import Derived.Test.YtlkknekflgclgaaGreatDoorZCq5
namespace Go.Proofs.YtlkknekflgclgaaGreatDoor
open Go.RowKit Go.MuLone

def zero5 : Array Value := #[.int .i64 0, .int .i64 0, .int .i64 0, .int .i64 0, .slice none 0 0]
/-- The reading of an entry: the reader at g, the answer at t, what is read so far at b. -/
structure EnAt (w W : World) (t g b : Nat) (s : GetS) (cs : Array Value) : Prop where
  get : GetAt W g s
  ans : W.heap[t]? = some (.cells #[.int .i64 0, .int .i64 0, .int .i64 0, .int .i64 0, .slice none 0 0] 57 (0, 0))
  ent : W.heap[b]? = some (.cells cs 57 (0, 0))
  only : Only (fun _ => False) w W
  d1 : t ≠ g ∧ t ≠ b ∧ g ≠ b
  d2 : w.heap.size ≤ t ∧ w.heap.size ≤ g ∧ w.heap.size ≤ b
section
variable {w W W' : World} {t g b : Nat} {s : GetS} {cs : Array Value} (h : EnAt w W t g b s cs)
include h
theorem EnAt.still (ho : Only (fun _ => False) W W') : EnAt w W' t g b s cs :=
  ⟨h.get.only ho id, blk_keep h.ans ho id, blk_keep h.ent ho id, h.only.trans ho (fun _ _ q => q.elim), h.d1, h.d2⟩
theorem EnAt.got {s' : GetS} (hg : GetTo W g s' W') : EnAt w W' t g b s' cs := by
  obtain ⟨ha, ho⟩ := hg
  obtain ⟨e1, e2, e3⟩ := h.d1
  obtain ⟨f1, f2, f3⟩ := h.d2
  refine ⟨ha, blk_keep h.ans ho e1, blk_keep h.ent ho (fun q => e3 q.symm), ?_, h.d1, h.d2⟩
  exact (Only.trans (h.only.mono (T := fun k => k = g) (fun _ _ (q : False) => q.elim)) ho (fun _ _ q => q)).mono (fun i hi q => by have q : i = g := q; omega)
theorem EnAt.put (j : Nat) (x : Value) : EnAt w (W.setCell ⟨b, j, none⟩ x) t g b s (cs.setIfInBounds j x) := by
  obtain ⟨e1, e2, e3⟩ := h.d1
  obtain ⟨f1, f2, f3⟩ := h.d2
  have ho : Only (fun k => k = b) W (W.setCell ⟨b, j, none⟩ x) := (Only.refl (fun k => k = b) W).put b j rfl _
  refine ⟨h.get.only ho e3, blk_keep h.ans ho e2, blk_set h.ent j _, ?_, h.d1, h.d2⟩
  exact (Only.trans (h.only.mono (T := fun k => k = b) (fun _ _ (q : False) => q.elim)) ho (fun _ _ q => q)).mono (fun i hi q => by have q : i = b := q; omega)
/-- The answer: none. -/
theorem EnAt.blank {W2 : World} (hW : W2 = (((((W.setCell ⟨t, 0, none⟩ (.int .i64 0)).setCell ⟨t, 1, none⟩ (.int .i64 0)).setCell ⟨t, 2, none⟩ (.int .i64 0)).setCell ⟨t, 3, none⟩ (.int .i64 0)).setCell ⟨t, 4, none⟩ (.slice none 0 0))) :
    W2.heap[t]? = some (.cells #[.int .i64 0, .int .i64 0, .int .i64 0, .int .i64 0, .slice none 0 0] 57 (0, 0)) ∧ Only (fun _ => False) w W2 := by
  subst hW
  have bt := blk_set (blk_set (blk_set (blk_set (blk_set h.ans 0 (.int .i64 0)) 1 (.int .i64 0)) 2 (.int .i64 0)) 3 (.int .i64 0)) 4 (.slice none 0 0)
  have ot : Only (fun k => k = t) W (((((W.setCell ⟨t, 0, none⟩ (.int .i64 0)).setCell ⟨t, 1, none⟩ (.int .i64 0)).setCell ⟨t, 2, none⟩ (.int .i64 0)).setCell ⟨t, 3, none⟩ (.int .i64 0)).setCell ⟨t, 4, none⟩ (.slice none 0 0)) := (((((Only.refl (fun k => k = t) W).put t 0 rfl _).put t 1 rfl _).put t 2 rfl _).put t 3 rfl _).put t 4 rfl _
  have := h.d2
  exact ⟨bt, (Only.trans (h.only.mono (T := fun k => k = t) (fun _ _ (q : False) => q.elim)) ot (fun _ _ q => q)).mono (fun i hi q => by have q : i = t := q; omega)⟩
end
/-- What ReadEntry tells. -/
def ReadEEnds (w : World) (x : EntQ × Int) : Ending → World → Prop := fun e w' => ∃ v, e = .returned (.tuple #[.agg #[.int .i64 x.1.index, .int .i64 x.1.term, .int .i64 x.1.req.client, .int .i64 x.1.req.seq, v], .int .i64 x.2]) ∧ w'.ownsRow 0 119 5 v x.1.req.cmds.length (x.1.req.cmds.flatMap cmdC) ∧ Only (fun _ => False) w w' ∧ ∀ q, v.ownBlock = some q → w.heap.size ≤ q
set_option maxRecDepth 100000 in
set_option maxHeartbeats 8000000 in
theorem ReadEntry_is (w : World) (b : Bytes) (hb : b.length ≤ 1073741824) : Calls Tryz.prog 20 #[str b] w (ReadEEnds w (readEntryQ b)) := by
  have o1 := (Only.refl (fun _ => False) w).alloc (.cells #[.int .i64 0, .int .i64 0, .int .i64 0, .int .i64 0, .slice none 0 0] 57)
  have t1 := blk_new w (.cells #[.int .i64 0, .int .i64 0, .int .i64 0, .int .i64 0, .slice none 0 0] 57)
  have HF := Lib.hid (From_get b (w.alloc (.cells #[.int .i64 0, .int .i64 0, .int .i64 0, .int .i64 0, .slice none 0 0] 57)))
  have HO1 := Lib.hid o1
  have HT1 := Lib.hid t1
  clear o1 t1
  have hrq : readE (lowG ⟨b, 0⟩ 4).1 (lowG ⟨b, 0⟩ 4).2 b = readEntryQ b := rfl
  generalize readEntryQ b = rq at *
  go_enter Tryz.func20, Tryz.ntmps20
  go_wp2_with fail
  generalize hW1 : w.alloc (.cells #[.int .i64 0, .int .i64 0, .int .i64 0, .int .i64 0, .slice none 0 0] 57) = W1 at *
  generalize hT : w.heap.size = t at *
  (with_reducible refine HF.out.mono ?_)
  rintro e w2 ⟨rfl, hg2, o2⟩
  have hsz1 : t < W1.heap.size := blk_lt HT1.out
  have HT2 := Lib.hid (blk_keep HT1.out o2 id)
  have HO2 := Lib.hid (HO1.out.trans o2 (fun _ _ q => q))
  have hg2l : W1.heap.size < w2.heap.size := lt_of_cell hg2.c0
  have HI := Lib.hid (Word_get _ _ w2 hg2 (by show b.length ≤ _; omega))
  clear hg2 o2 HF HO1 HT1
  generalize hG : W1.heap.size = g at *
  have hr1 : (lowG ⟨b, 0⟩ 4).2.rest.length ≤ 1073741824 := rest_le1 hb 4
  generalize hx1 : lowG ⟨b, 0⟩ 4 = x1 at *
  obtain ⟨ix, s1⟩ := x1
  unfold readE at hrq
  dsimp only at *
  go_wp2_with fail
  (with_reducible refine HI.out.mono ?_)
  rintro e w3 ⟨rfl, hg3⟩
  have oA := (Only.refl (fun _ => False) w3).alloc (.cells #[.int .i64 ix, .int .i64 0, .int .i64 0, .int .i64 0, .slice none 0 0] 57)
  have hsz3 := hg3.2.size
  have R0 : EnAt w (w3.alloc (.cells #[.int .i64 ix, .int .i64 0, .int .i64 0, .int .i64 0, .slice none 0 0] 57)) t g w3.heap.size s1 #[.int .i64 ix, .int .i64 0, .int .i64 0, .int .i64 0, .slice none 0 0] := by
    have q3 := blk_keep HT2.out hg3.2 (by omega)
    refine ⟨hg3.1.only oA id, blk_keep q3 oA id, blk_new w3 _, ?_, ⟨by omega, by omega, by omega⟩, ⟨by omega, by omega, by omega⟩⟩
    exact ((Only.trans (HO2.out.mono (T := fun k => k = g) (fun _ _ (q : False) => q.elim)) hg3.2 (fun _ _ q => q)).mono (fun i hi q => by have q : i = g := q; omega)).trans oA (fun _ _ q => q)
  have HI2 := Lib.hid (Word_get _ _ _ R0.get (by show s1.rest.length ≤ _; omega))
  have HR0 := Lib.hid R0
  clear R0 oA HI HT2 HO2 hg3
  generalize hB : w3.heap.size = rb at *
  have hr2 : (lowG s1 4).2.rest.length ≤ 1073741824 := rest_le1 hr1 4
  generalize hx2 : lowG s1 4 = x2 at *
  obtain ⟨tm, s2⟩ := x2
  dsimp only at *
  go_wp2_with fail
  generalize w3.alloc (.cells #[.int .i64 ix, .int .i64 0, .int .i64 0, .int .i64 0, .slice none 0 0] 57) = W3 at *
  (with_reducible refine HI2.out.mono ?_)
  rintro e w4 ⟨rfl, hg4⟩
  have R1 := HR0.out.got hg4
  have c1 := blk_cell R1.ent 1
  have f1 := blk_frozen R1.ent 1
  have R2 := R1.put 1 (.int .i64 tm)
  simp only [List.setIfInBounds_toArray, List.set_cons_succ, List.set_cons_zero] at R2
  have HBd := Lib.hid (Bad_get _ _ _ R2.get)
  have HR2 := Lib.hid R2
  clear R1 R2 HR0 HI2 hg4
  go_wp2_with fail
  generalize w4.setCell ⟨rb, 1, none⟩ (.int .i64 tm) = W4 at *
  (with_reducible refine HBd.out.mono ?_)
  rintro e _ ⟨rfl, rfl⟩
  clear HBd c1 f1
  have HRQ := Lib.hid hrq
  clear hrq hx1 hx2
  by_cases he : s2.e = 0
  · rw [he, if_neg (fun q => q rfl)] at HRQ
    have HLf : Hid (Calls Tryz.prog 104 #[.pointer (some ⟨g, 0, none⟩)] W4 fun e w' => e = .returned (.int .i64 (s2.rest.length : Int)) ∧ W4 = w') := Lib.hid (by
      have := Left_get _ _ _ HR2.out.get
      have e : leftG s2 = s2.rest.length := by unfold leftG; rw [if_neg (fun q => q he)]
      rwa [e] at this)
    have HRw : Hid (Calls Tryz.prog 103 #[.pointer (some ⟨g, 0, none⟩), .int .i64 (s2.rest.length : Int)] W4 fun e w' => e = .returned (str s2.rest) ∧ GetTo W4 g ⟨[], s2.e⟩ w') := Lib.hid (by
      have := Raw_get g s2 (s2.rest.length : Int) W4 HR2.out.get (by omega)
      have e : rawG s2 (s2.rest.length : Int) = (s2.rest, ⟨[], s2.e⟩) := by
        unfold rawG
        rw [if_neg (fun q => q he), if_neg (by omega), if_neg (by omega)]
        simp
      rwa [e] at this)
    rw [he]
    go_wp2_with fail
    (with_reducible refine HLf.out.mono ?_)
    rintro e _ ⟨rfl, rfl⟩
    go_wp2_with fail
    (with_reducible refine HRw.out.mono ?_)
    rintro e w5 ⟨rfl, hg5⟩
    have HR5 := Lib.hid (HR2.out.got hg5)
    have HRd := Lib.hid (Read_is w5 s2.rest (by omega))
    clear HLf HRw HR2 hg5
    generalize hrd : readQ s2.rest = rd at *
    obtain ⟨⟨cl, sq, xs⟩, re⟩ := rd
    dsimp only at HRQ
    go_wp2_with fail
    (with_reducible refine HRd.out.mono ?_)
    rintro e w6 ⟨sv, rfl, hown, o6, hnew⟩
    dsimp only at hown
    obtain ⟨aV, cV, rfl⟩ := ownsRow_form hown
    have oA := (Only.refl (fun _ => False) w6).alloc (.cells #[.int .i64 cl, .int .i64 sq, .slice aV xs.length cV] 52)
    have HR6 := Lib.hid ((HR5.out.still o6).still oA)
    have HOWN := Lib.hid (own_only hown oA (fun _ _ => id))
    have hz5 := HR5.out
    have HNEW : Hid (∀ q, (Value.slice aV xs.length cV).ownBlock = some q → w.heap.size ≤ q ∧ q ≠ t ∧ q ≠ g ∧ q ≠ rb) := Lib.hid (fun q hq => by
      have h1 := hnew q hq
      have h2 := blk_lt HR5.out.ans
      have h3 := blk_lt HR5.out.ent
      have h4 : g < w5.heap.size := lt_of_cell HR5.out.get.c0
      have h5 := HR5.out.only.size
      exact ⟨by omega, by omega, by omega, by omega⟩)
    have HQB := Lib.hid (blk_new w6 (.cells #[.int .i64 cl, .int .i64 sq, .slice aV xs.length cV] 52))
    clear HRd HR5 hown o6 hnew oA hz5
    have t0 := blk_cell HR6.out.ans 0
    have t1 := blk_cell HR6.out.ans 1
    have t2 := blk_cell HR6.out.ans 2
    have t3 := blk_cell HR6.out.ans 3
    have t4 := blk_cell HR6.out.ans 4
    have f0 := blk_frozen HR6.out.ans 0
    have f1 := blk_frozen HR6.out.ans 1
    have f2 := blk_frozen HR6.out.ans 2
    have f3 := blk_frozen HR6.out.ans 3
    have f4 := blk_frozen HR6.out.ans 4
    simp only [List.getElem?_toArray, List.getElem?_cons_zero, List.getElem?_cons_succ] at t0 t1 t2 t3 t4
    by_cases hre : re = 0
    · subst hre
      rw [if_neg (fun q => q rfl)] at HRQ
      have q0 := blk_cell HQB.out 0
      have q1 := blk_cell HQB.out 1
      have q2 := blk_cell HQB.out 2
      have e0 := blk_cell HR6.out.ent 0
      have e1 := blk_cell HR6.out.ent 1
      have e2 := blk_cell HR6.out.ent 2
      have e3 := blk_cell HR6.out.ent 3
      have e4 := blk_cell HR6.out.ent 4
      have fe2 := blk_frozen HR6.out.ent 2
      have fe3 := blk_frozen HR6.out.ent 3
      have fe4 := blk_frozen HR6.out.ent 4
      simp only [List.getElem?_toArray, List.getElem?_cons_zero, List.getElem?_cons_succ] at q0 q1 q2 e0 e1 e2 e3 e4
      go_wp2_with fail
      generalize w6.alloc (.cells #[.int .i64 cl, .int .i64 sq, .slice aV xs.length cV] 52) = W6 at *
      have R7 := ((HR6.out.put 2 (.int .i64 cl)).put 3 (.int .i64 sq)).put 4 (.slice aV xs.length cV)
      simp only [List.setIfInBounds_toArray, List.set_cons_succ, List.set_cons_zero] at R7
      have hnb : (Value.slice aV xs.length cV).ownBlock ≠ some rb := fun q => (HNEW.out rb q).2.2.2 rfl
      have HOWN7 := Lib.hid (own_store (own_store (own_store HOWN.out hnb 2 (.int .i64 cl)) hnb 3 (.int .i64 sq)) hnb 4 (.slice aV xs.length cV))
      have HR7 := Lib.hid R7
      clear R7 hnb HR6 HOWN HQB t0 t1 t2 t3 t4 f0 f1 f2 f3 f4 q0 q1 q2 e0 e1 e2 e3 e4 fe2 fe3 fe4
      generalize (((W6.setCell ⟨rb, 2, none⟩ (.int .i64 cl)).setCell ⟨rb, 3, none⟩ (.int .i64 sq)).setCell ⟨rb, 4, none⟩ (.slice aV xs.length cV)) = W7 at *
      have hxl : xs.length ≤ 9223372036854775807 := by
        have h1 := cmdsG_len (lowG (intG (intG ⟨s2.rest, 0⟩).2).2 1).1 (lowG (intG (intG ⟨s2.rest, 0⟩).2).2 1).2
        have h2 := lowG_lt (intG (intG ⟨s2.rest, 0⟩).2).2 1
        unfold readQ at hrd
        split at hrd
        · injection hrd with q1 q2
          injection q1 with q3 q4 q5
          subst q5
          simp
        · split at hrd
          · injection hrd with q1 q2
            injection q1 with q3 q4 q5
            subst q5
            simp
          · injection hrd with q1 q2
            unfold reqG at q1
            injection q1 with q3 q4 q5
            subst q5
            omega
      have HEn := Lib.hid (Entry_is W7 ix tm ⟨cl, sq, xs⟩ (.slice aV xs.length cV) (row_ownQ (enc := cmdC) (k := 5) (fun _ => rfl) HOWN7.out) hxl)
      generalize hly : entryQ ix tm ⟨cl, sq, xs⟩ = ly at *
      obtain ⟨L1, L2⟩ := ly
      dsimp only at HEn
      (with_reducible refine HEn.out.mono ?_)
      rintro e w8 ⟨rfl, o8⟩
      have HR8 := Lib.hid (HR7.out.still o8)
      have HOWN8 := Lib.hid (own_only HOWN7.out o8 (fun _ _ => id))
      clear HEn o8 HR7 HOWN7 hrd
      have t0 := blk_cell HR8.out.ans 0
      have t1 := blk_cell HR8.out.ans 1
      have t2 := blk_cell HR8.out.ans 2
      have t3 := blk_cell HR8.out.ans 3
      have t4 := blk_cell HR8.out.ans 4
      have f0 := blk_frozen HR8.out.ans 0
      have f1 := blk_frozen HR8.out.ans 1
      have f2 := blk_frozen HR8.out.ans 2
      have f3 := blk_frozen HR8.out.ans 3
      have f4 := blk_frozen HR8.out.ans 4
      have r0 := blk_cell HR8.out.ent 0
      have r1 := blk_cell HR8.out.ent 1
      have r2 := blk_cell HR8.out.ent 2
      have r3 := blk_cell HR8.out.ent 3
      have r4 := blk_cell HR8.out.ent 4
      simp only [List.getElem?_toArray, List.getElem?_cons_zero, List.getElem?_cons_succ] at t0 t1 t2 t3 t4 r0 r1 r2 r3 r4
      by_cases hok : L2 = 0 ∧ L1 = b
      · obtain ⟨rfl, rfl⟩ := hok
        rw [if_neg (fun q => q rfl)] at HRQ
        have e1 : (L1 == L1) = true := by simp
        have e2 : (L1 != L1) = false := by simp
        go_wp2_with fail
        have bt := blk_set (blk_set (blk_set (blk_set (blk_set HR8.out.ans 0 (.int .i64 ix)) 1 (.int .i64 tm)) 2 (.int .i64 cl)) 3 (.int .i64 sq)) 4 (.slice aV xs.length cV)
        have ot : Only (fun k => k = t) w8 (((((w8.setCell ⟨t, 0, none⟩ (.int .i64 ix)).setCell ⟨t, 1, none⟩ (.int .i64 tm)).setCell ⟨t, 2, none⟩ (.int .i64 cl)).setCell ⟨t, 3, none⟩ (.int .i64 sq)).setCell ⟨t, 4, none⟩ (.slice aV xs.length cV)) := (((((Only.refl (fun k => k = t) w8).put t 0 rfl _).put t 1 rfl _).put t 2 rfl _).put t 3 rfl _).put t 4 rfl _
        have g0 := blk_cell bt 0
        have g1 := blk_cell bt 1
        have g2 := blk_cell bt 2
        have g3 := blk_cell bt 3
        have g4 := blk_cell bt 4
        refine bodyPost_ret (v := .tuple #[.agg #[.int .i64 ix, .int .i64 tm, .int .i64 cl, .int .i64 sq, .slice aV xs.length cV], .int .i64 0]) (by simp [results, Tryz.results20, go_sem, g0, g1, g2, g3, g4]) rfl ?_
        rw [← HRQ.out]
        refine ⟨.slice aV xs.length cV, rfl, own_only HOWN8.out ot (fun q hq e => (HNEW.out q hq).2.1 e), ?_, fun q hq => (HNEW.out q hq).1⟩
        have := HR8.out.d2
        exact (Only.trans (HR8.out.only.mono (T := fun k => k = t) (fun _ _ (q : False) => q.elim)) ot (fun _ _ q => q)).mono (fun i hi q => by have q : i = t := q; omega)
      · have hne : ¬ ((L1, L2) = (b, 0)) := fun q => hok ⟨congrArg Prod.snd q, congrArg Prod.fst q⟩
        rw [if_pos hne] at HRQ
        have HOK := Lib.hid hok
        have HFIN := Lib.hid (fun W2 => HR8.out.blank (W2 := W2))
        clear hne hok HR8 HOWN8 HNEW r0 r1 r2 r3 r4
        by_cases h2 : L2 = 0
        · subst h2
          have h1 : L1 ≠ b := fun q => HOK.out ⟨rfl, q⟩
          have e1 : (L1 == b) = false := by simpa using h1
          have e2 : (L1 != b) = true := by simpa using h1
          clear h1
          go_wp2_with fail
          obtain ⟨bt, ot⟩ := HFIN.out _ rfl
          have g0 := blk_cell bt 0
          have g1 := blk_cell bt 1
          have g2 := blk_cell bt 2
          have g3 := blk_cell bt 3
          have g4 := blk_cell bt 4
          refine bodyPost_ret (v := .tuple #[.agg #[.int .i64 0, .int .i64 0, .int .i64 0, .int .i64 0, .slice none 0 0], .int .i64 6]) (by simp [results, Tryz.results20, go_sem, g0, g1, g2, g3, g4]) rfl ?_
          rw [← HRQ.out]
          exact ⟨_, rfl, ⟨rfl, .inl ⟨rfl, rfl⟩⟩, ot, fun q hq => by simp [Value.ownBlock] at hq⟩
        · have e1 : (L2 == 0) = false := by simpa using h2
          have e2 : (L2 != 0) = true := by simpa using h2
          go_wp2_with fail
          obtain ⟨bt, ot⟩ := HFIN.out _ rfl
          have g0 := blk_cell bt 0
          have g1 := blk_cell bt 1
          have g2 := blk_cell bt 2
          have g3 := blk_cell bt 3
          have g4 := blk_cell bt 4
          refine bodyPost_ret (v := .tuple #[.agg #[.int .i64 0, .int .i64 0, .int .i64 0, .int .i64 0, .slice none 0 0], .int .i64 6]) (by simp [results, Tryz.results20, go_sem, g0, g1, g2, g3, g4]) rfl ?_
          rw [← HRQ.out]
          exact ⟨_, rfl, ⟨rfl, .inl ⟨rfl, rfl⟩⟩, ot, fun q hq => by simp [Value.ownBlock] at hq⟩
    · rw [if_pos hre] at HRQ
      have he1 : (re == 0) = false := by simpa using hre
      have he2 : (re != 0) = true := by simpa using hre
      have HFIN := Lib.hid (fun W2 => HR6.out.blank (W2 := W2))
      clear HR6 HOWN HNEW HQB
      go_wp2_with fail
      obtain ⟨bt, ot⟩ := HFIN.out _ rfl
      have g0 := blk_cell bt 0
      have g1 := blk_cell bt 1
      have g2 := blk_cell bt 2
      have g3 := blk_cell bt 3
      have g4 := blk_cell bt 4
      refine bodyPost_ret (v := .tuple #[.agg #[.int .i64 0, .int .i64 0, .int .i64 0, .int .i64 0, .slice none 0 0], .int .i64 re]) (by simp [results, Tryz.results20, go_sem, g0, g1, g2, g3, g4]) rfl ?_
      rw [← HRQ.out]
      exact ⟨_, rfl, ⟨rfl, .inl ⟨rfl, rfl⟩⟩, ot, fun q hq => by simp [Value.ownBlock] at hq⟩
  · rw [if_pos he] at HRQ
    have he1 : (s2.e == 0) = false := by simpa using he
    have he2 : (s2.e != 0) = true := by simpa using he
    have t0 := blk_cell HR2.out.ans 0
    have t1 := blk_cell HR2.out.ans 1
    have t2 := blk_cell HR2.out.ans 2
    have t3 := blk_cell HR2.out.ans 3
    have t4 := blk_cell HR2.out.ans 4
    have f0 := blk_frozen HR2.out.ans 0
    have f1 := blk_frozen HR2.out.ans 1
    have f2 := blk_frozen HR2.out.ans 2
    have f3 := blk_frozen HR2.out.ans 3
    have f4 := blk_frozen HR2.out.ans 4
    simp only [List.getElem?_toArray, List.getElem?_cons_zero, List.getElem?_cons_succ] at t0 t1 t2 t3 t4
    have HFIN := Lib.hid (fun W2 => HR2.out.blank (W2 := W2))
    clear HR2
    generalize s2.e = ee at *
    go_wp2_with fail
    obtain ⟨bt, ot⟩ := HFIN.out _ rfl
    have g0 := blk_cell bt 0
    have g1 := blk_cell bt 1
    have g2 := blk_cell bt 2
    have g3 := blk_cell bt 3
    have g4 := blk_cell bt 4
    refine bodyPost_ret (v := .tuple #[.agg #[.int .i64 0, .int .i64 0, .int .i64 0, .int .i64 0, .slice none 0 0], .int .i64 ee]) (by simp [results, Tryz.results20, go_sem, g0, g1, g2, g3, g4]) rfl ?_
    rw [← HRQ.out]
    exact ⟨_, rfl, ⟨rfl, .inl ⟨rfl, rfl⟩⟩, ot, fun q hq => by simp [Value.ownBlock] at hq⟩
end Go.Proofs.YtlkknekflgclgaaGreatDoor
