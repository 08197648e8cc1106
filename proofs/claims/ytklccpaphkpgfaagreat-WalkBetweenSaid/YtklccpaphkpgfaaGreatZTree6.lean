/- Package tree over the law's pages: an item is put below a twig. Conditions: one goroutine; below the page is a tree; there is room for the pages. -/
import Derived.Test.YtklccpaphkpgfaaGreatZTree5
import Derived.Test.YtklccpaphkpgfaaGreatZPlainB
namespace Go.Proofs.YtklccpaphkpgfaaGreat
open Go.RowKit

theorem run_min_str (x y : Bytes) (w : World) : (Builtin.min_ #[9, 9] 9 #[str x, str y]).run Tryz.prog w = .ok (str (minB x y)) w := by
  have hs : ∀ w, (Op.stringOp .leq ⟨x.toArray⟩ ⟨y.toArray⟩).run Tryz.prog w = .ok (.bool (!Op.bytesLess y x)) w := fun w => by
    simp only [Op.stringOp, go_sem]
    have h := less_or_eq x y
    simp [bytesLess_eq y x, ← h, go_sem]
  have e := bytesLess_eq y x
  unfold minB str
  by_cases h : y < x
  · rw [decide_eq_true h] at e
    rw [e] at hs
    simp [Builtin.min_, Builtin.min2, go_sem, hs, h]
  · rw [decide_eq_false h] at e
    rw [e] at hs
    simp [Builtin.min_, Builtin.min2, go_sem, hs, h]

set_option maxRecDepth 100000 in
set_option maxHeartbeats 4000000 in
theorem tput_twig (i : Item) (hi : okItem i = true) (f : Nat) (IH : PutDoes i f) (n : Nat) (S S2 : PSt) (id : Int) (b0 : Bytes) (l : List Item) (ids : List Int) (depth : Int) (ks : List Kid) (w : World) (b : Nat) (T : Tree S.L (n + 1) id b0 l ids) (hf : n < f) (hd0 : 1 ≤ depth) (hd : depth + (n + 1 : Nat) ≤ 12) (hs : S.stop < 0) (hL : S.L.length + 3 + 2 * (n + 1) ≤ 3998)
    (hg : S.given.length + (f + 1) < 1000000) (h : PagesAt w b S) (hk : putP (f + 1) S id i depth = (.ok ks, S2)) :
    Calls Tryz.prog 86 #[pagesV b, .int .i64 id, itemV i, .int .i64 depth] w fun e w' => ∃ V, e = .returned (.tuple #[V, .int .i64 0]) ∧ KidRow w w' b V ks ∧ PagesAt w' b S2 ∧ PStep b w w' := by
  obtain ⟨kids, k, wk, p1, hn, hne, ok, h2k, hkk, ⟨b', l', ids', hT⟩, hpp, hwne, hw3, hp1L, hp1s, hp1g, hp1v, hwr, htw⟩ := put_twig_parts i hi n f S S2 id b0 l ids depth ks T hf hd hs hL hk
  have hid := nodeAt_lt hn
  have hri := (rightL_iff _).1 ok.1
  have hkl : kids.length ≤ 255 := ok.2.2
  have hfl := (List.getElem?_eq_some_iff.1 hkk).1
  have hkok : okKid k = true := hri.1 k (List.mem_of_getElem? hkk)
  simp only [okKid, decide_eq_true_eq] at hkok
  have hrr := twigsP_right htw
  have hsl := swapL_length kids (lowerHead k.key wk) _ hfl
  rw [lowerHead_length] at hsl
  have hwpos := List.length_pos_iff.2 hwne
  have hcf := cutT_few hrr (by
    have e1 := swapL_size kids (lowerHead k.key wk) (findK kids i.key)
    have e2 : sizeL (swapL kids (findK kids i.key) (lowerHead k.key wk)) ≤ 392 := by
      have e3 : sizeL (lowerHead k.key wk) ≤ 1 + 36 * wk.length := by
        have := sizeL_most (lowerHead k.key wk) fun y hy => (cost_kid (((rightL_iff _).1 hrr).1 y (by unfold swapL; exact List.mem_append_left _ (List.mem_append_right _ hy)))).2
        rwa [lowerHead_length] at this
      have := ok.2.1
      omega
    exact e2)
  have hsz : sizeL (swapL kids (findK kids i.key) (lowerHead k.key wk)) ≤ 1000000 := by
    have := sizeL_most _ fun y hy => (cost_kid (((rightL_iff _).1 hrr).1 y hy)).2
    omega
  have oW := (Only.refl (fun _ => False) w).alloc (.cells #[str i.key, str i.val, .int .i64 i.kind] 29)
  have hLD := tload_twig (w.alloc (.cells #[str i.key, str i.val, .int .i64 i.kind] 29)) b S id depth kids (h.still oW) hs hn (by omega) (by omega)
  have HLD := Lib.hid hLD
  have hpw := h.lt
  have hWs : (w.alloc (.cells #[str i.key, str i.val, .int .i64 i.kind] 29)).heap.size = w.heap.size + 1 := by simp
  have hRn : ¬ pown (w.alloc (.cells #[str i.key, str i.val, .int .i64 i.kind] 29)) b w.heap.size := fun q => by
    have := pown_lt h ((pown_of_heap (oW.block b h.lt (fun q => q)) _).1 q); omega
  have hR0 := heap_alloc_new w (.cells #[str i.key, str i.val, .int .i64 i.kind] 29)
  have HW0 := Lib.hid (PStep.still h.lt oW)
  have HP := Lib.hid h
  have HIH := Lib.hid (fun W hW => IH n S p1 k.page b' l' ids' (depth + 1) wk W b hT hf (by omega) (by omega) hs (by omega) (by omega) hW hpp)
  have HTW := Lib.hid htw
  have HR := Lib.hid (And.intro hrr (And.intro hsz (And.intro hcf hsl)))
  clear hLD h hk IH hpp htw hrr hsz hcf hsl hT T
  unfold itemV itemC
  unfold pagesV at HLD ⊢
  go_enter Tryz.func86, Tryz.ntmps86
  go_wp2_with fail
  refine HLD.out.mono ?_
  rintro e w1 ⟨v1, rfl, hrow, hap, hp1, st1⟩
  obtain ⟨a1, n1, c1, rfl⟩ := capOk_form hrow.cap
  have hn1 : n1 = kids.length := by
    cases hrow.row with
    | none => rfl
    | some => rfl
  subst hn1
  have hR1 := (st1.only.block _ (by rw [hWs]; omega) hRn).trans hR0
  have hs1 := st1.only.size
  rw [hWs] at hs1
  have o2 := (Only.refl (fun _ => False) w1).alloc (.cells #[.int .i64 id, .bool false, .slice none 0 0, .slice a1 kids.length c1] 170)
  have hR2 := (o2.block _ (by omega) (fun q => q)).trans hR1
  have hrow2 := row_only hrow.row o2 (fun _ _ => fun q => q)
  have r0 := heap_cell hR2 0
  have HFD := Lib.hid (TFind_is _ kids i.key _ hrow2 hne hri.2 (by omega))
  have hN2 := heap_alloc_new w1 (.cells #[.int .i64 id, .bool false, .slice none 0 0, .slice a1 kids.length c1] 170)
  have HRW := Lib.hid hrow
  have HAP := Lib.hid hap
  have HP1 := Lib.hid hp1
  have HS1 := Lib.hid (HW0.out.trans st1)
  have HO2 := Lib.hid o2
  simp only [List.getElem?_toArray, List.getElem?_cons_zero] at r0
  clear hR1 hR0 hRn hWs oW hrow hap hp1 st1 o2 hrow2 HLD HW0
  go_wp2_with fail
  refine HFD.out.mono ?_
  rintro e w3 ⟨rfl, o3⟩
  have hw1s : (w1.alloc (.cells #[.int .i64 id, .bool false, .slice none 0 0, .slice a1 kids.length c1] 170)).heap.size = w1.heap.size + 1 := by simp
  have hR3 := (o3.block _ (by rw [hw1s]; omega) (fun q => q)).trans hR2
  have hN3 := (o3.block _ (by rw [hw1s]; omega) (fun q => q)).trans hN2
  have HO3 := Lib.hid (HO2.out.trans o3 (fun _ _ q => q))
  have r0 := heap_cell hR3 0
  have r1 := heap_cell hR3 1
  have r2 := heap_cell hR3 2
  have n3 := heap_cell hN3 3
  have hrow3 := row_only HRW.out.row HO3.out (fun _ _ => fun q => q)
  obtain ⟨g, off, rfl, k0, k1⟩ := row_kid hrow3 hkk
  simp only [List.getElem?_toArray, List.getElem?_cons_zero, List.getElem?_cons_succ] at r0 r1 r2 n3
  have HH3 := Lib.hid (And.intro hR3 hN3)
  clear hR2 hN2 o3 hR3 hN3 hrow3 HFD
  generalize hfk : findK kids i.key = at_ at *
  have hat1 : (at_ : Int) < (kids.length : Int) := by omega
  have hw9 : IntKind.i64.wrap (depth + 1) = depth + 1 := by exact IntWalk.i64_in _ (by omega)
  go_wp2_with fail
  have hB3 := HP1.out.still HO3.out
  have hB3d := hB3.still ((Only.refl (fun _ => False) w3).drew)
  go_region_with (go_at_call 86; refine (HIH.out _ hB3d).mono ?_; rintro e w4 ⟨V, rfl, hkr, hp4, st4⟩)
  all_goals
    have hNn : ¬ pown w3.drew b w1.heap.size := fun q => by
      have := pown_lt HP1.out ((pown_of_heap (HO3.out.block b HP1.out.lt (fun q => q)) _).1 q); omega
    have hN4 := (st4.only.block _ (by have := HO3.out.size; have := (Array.getElem?_eq_some_iff.1 HH3.out.2).1; exact this) hNn).trans HH3.out.2
    have hap3 : Apart w3.drew b (.slice (some ⟨g, off, none⟩) kids.length c1) := HAP.out.later HO3.out.size (HO3.out.block b HP1.out.lt (fun q => q))
    have hrow3 := row_only (HRW.out.row) HO3.out (fun _ _ => fun q => q)
    have hrow3d := row_only hrow3 ((Only.refl (fun _ => False) w3).drew) (fun _ _ => fun q => q)
    have hrow4 := row_only hrow3d st4.only (fun j hj => (hap3 j hj).1)
    have hap4 := hap3.step st4
    obtain ⟨_, _, he, kk0, _⟩ := row_kid hrow4 hkk
    cases he
    obtain ⟨k0w, wr, rfl⟩ := List.exists_cons_of_ne_nil hwne
    obtain ⟨gv, cv, rfl⟩ : ∃ gv cv, V = .slice (some ⟨gv, 0, none⟩) (k0w :: wr).length cv := by
      rcases hkr.own.2 with ⟨q, h0⟩ | ⟨gv, cv, cur, q, _⟩
      · simp at h0
      · exact ⟨gv, cv, q⟩
    have v0 := own_cell hkr.own 0 (str k0w.key) rfl
    have vz := own_frozen hkr.own 0
    have hset := own_set hkr.own 0 (str (minB k0w.key k.key))
    have n3 := heap_cell hN4 3
    simp only [List.getElem?_toArray, List.getElem?_cons_zero, List.getElem?_cons_succ] at n3
    have HS4 := Lib.hid ((HS1.out.trans (PStep.still HP1.out.lt (HO3.out.trans ((Only.refl (fun _ => False) w3).drew) (fun _ _ q => q)))).trans st4)
    have HP4 := Lib.hid hp4
    have HKR := Lib.hid hkr
    have HSET := Lib.hid hset
    have HR4 := Lib.hid (And.intro hrow4 (And.intro hap4 hN4))
    clear hNn hN4 hap3 hrow3 hrow3d hrow4 hap4 hkr hp4 st4 hset r0 r1 r2 k0 k1 hB3 hB3d
    have hmn := run_min_str k0w.key k.key
    go_wp2_with fail
    go_region
    all_goals
      have oS : Only (fun j => j = gv) w4 ((w4.setCell ⟨gv, 0, none⟩ (str (minB k0w.key k.key))).drew) := ((Only.refl (fun j => j = gv) w4).put gv 0 rfl _).drew
      obtain ⟨hgv1, hgv2⟩ := HKR.out.far gv rfl
      have hg3 : w3.heap.size ≤ gv := hgv1
      have hgv4 := (HKR.out.own.lt gv rfl).2
      have hs13 := HO3.out.size
      have hgl := (HAP.out g rfl).2
      have hN5 := (oS.block w1.heap.size (Array.getElem?_eq_some_iff.1 HR4.out.2.2).1 (fun e => by have e2 : w1.heap.size = gv := e; have := (Array.getElem?_eq_some_iff.1 HH3.out.2).1; omega)).trans HR4.out.2.2
      have hrow5 := row_only HR4.out.1 oS (fun j hj e => by have e2 : g = j := Option.some.inj hj; have e3 : j = gv := e; omega)
      have hown5 : ((w4.setCell ⟨gv, 0, none⟩ (str (minB k0w.key k.key))).drew).ownsRow 0 159 2 (.slice (some ⟨gv, 0, none⟩) (lowerHead k.key (k0w :: wr)).length cv) (lowerHead k.key (k0w :: wr)).length ((lowerHead k.key (k0w :: wr)).flatMap kidC) := HSET.out.drew
      have hP5 : PagesAt ((w4.setCell ⟨gv, 0, none⟩ (str (minB k0w.key k.key))).drew) b p1 := by
        obtain ⟨vL, vG, hI⟩ := HP4.out
        exact ⟨vL, vG, hI.beside oS (fun j q e => hgv2 (by have e3 : j = gv := e; exact e3 ▸ q))⟩
      have hS5 := HS4.out.fresh hpw oS (fun j e => by have e3 : j = gv := e; have := HS1.out.only.size; omega)
      have n5 := heap_cell hN5 3
      have HSWP := Lib.hid (TSwap_is _ _ kids (lowerHead k.key (k0w :: wr)) at_ _ hrow5 hfl (by simp [lowerHead]) hown5 (by omega) (by rw [lowerHead_length]; omega))
      have HP5 := Lib.hid hP5
      have HS5 := Lib.hid hS5
      simp only [List.getElem?_toArray, List.getElem?_cons_zero, List.getElem?_cons_succ] at n5
      clear oS hN5 hrow5 hown5 hP5 hS5
      generalize ((w4.setCell ⟨gv, 0, none⟩ (str (minB k0w.key k.key))).drew) = w5 at *
      go_wp2_with fail
      refine HSWP.out.mono ?_
      rintro e w6 ⟨v6, rfl, hrow6, o6, hnew6⟩
      have hTW := ttwigs_is w6 b p1 S2 id _ ks v6 (HP5.out.still o6) hrow6 HR.out.1 HR.out.2.1 (by have := HR.out.2.2.2; omega) (by have := HR.out.2.2.1; omega) (by omega) (by omega) (by omega) HTW.out
      have HTC := Lib.hid hTW
      have HS6 := Lib.hid (HS5.out.trans (PStep.still HP5.out.lt o6))
      clear hTW hrow6 o6 hnew6 HSWP
      unfold pagesV at HTC
      go_wp2_with fail
      refine HTC.out.mono ?_
      rintro e w7 ⟨V7, rfl, hkr, hp7, st7⟩
      have HKR7 := Lib.hid hkr
      have HP7 := Lib.hid hp7
      have HS7 := Lib.hid (HS6.out.trans st7)
      have hs6 := HS6.out.only.size
      clear hkr hp7 st7
      go_wp2_with fail
      go_ret2
      exact ⟨V7, rfl, ⟨HKR7.out.own, fun j hj => ⟨by have := (HKR7.out.far j hj).1; omega, (HKR7.out.far j hj).2⟩⟩, HP7.out, HS7.out⟩
end Go.Proofs.YtklccpaphkpgfaaGreat
