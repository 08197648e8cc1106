/- Package tree over the law's pages: an item is put below a twig. Conditions: one goroutine; below the page is a tree; there is room for the pages. -/
import Derived.Test.YtbhiamcmiopnoaaGreatDoorZTreeB
import Derived.Test.YtbhiamcmiopnoaaGreatDoorZPlainB
namespace Go.Proofs.YtbhiamcmiopnoaaGreatDoor
section
open Go.RowKit
theorem run_min_str (x y : Bytes) (w : World) : (Builtin.min_ #[9, 9] 9 #[str x, str y]).run Tryz.prog w = .ok (str (minB x y)) w := by
  have hs : ∀ w, (Op.stringOp .leq ⟨x.toArray⟩ ⟨y.toArray⟩).run Tryz.prog w = .ok (.bool (!Op.bytesLess y x)) w := fun w => by
    simp only [Op.stringOp, go_sem]
    have h := less_or_eq x y
    simp [bytesLess_eq y x, ← h, go_sem]
  have e := bytesLess_eq y x
  unfold minB str
  by_cases h : y < x
  · rw [decide_eq_true h] at e
    rw [e] at hs
    simp [Builtin.min_, Builtin.min2, go_sem, hs, h]
  · rw [decide_eq_false h] at e
    rw [e] at hs
    simp [Builtin.min_, Builtin.min2, go_sem, hs, h]
set_option maxRecDepth 100000 in
set_option maxHeartbeats 4000000 in
theorem tput_twig (i : Item) (hi : okItem i = true) (f : Nat) (IH : PutDoes i f) (n : Nat) (S S2 : PSt) (id : Int) (b0 : Bytes) (l : List Item) (ids : List Int) (depth : Int) (ks : List Kid) (w : World) (b : Nat) (T : Tree S.L (n + 1) id b0 l ids) (hf : n < f) (hd0 : 1 ≤ depth) (hd : depth + (n + 1 : Nat) ≤ 12) (hs : S.stop < 0) (hL : S.L.length + 3 + 2 * (n + 1) ≤ 3998)
    (hg : S.given.length + (f + 1) < 1000000) (h : PagesAt w b S) (hk : putP (f + 1) S id i depth = (.ok ks, S2)) :
    Calls Tryz.prog 174 #[pagesV b, .int .i64 id, itemV i, .int .i64 depth] w fun e w' => ∃ V, e = .returned (.tuple #[V, .int .i64 0]) ∧ KidRow w w' b V ks ∧ PagesAt w' b S2 ∧ PStep b w w' := by
  obtain ⟨kids, k, wk, p1, hn, hne, ok, h2k, hkk, ⟨b', l', ids', hT⟩, hpp, hwne, hw3, hp1L, hp1s, hp1g, hp1v, hwr, htw⟩ := put_twig_parts i hi n f S S2 id b0 l ids depth ks T hf hd hs hL hk
  have hid := nodeAt_lt hn
  have hri := (rightL_iff _).1 ok.1
  have hkl : kids.length ≤ 255 := ok.2.2
  have hfl := (List.getElem?_eq_some_iff.1 hkk).1
  have hkok : okKid k = true := hri.1 k (List.mem_of_getElem? hkk)
  simp only [okKid, decide_eq_true_eq] at hkok
  have hrr := twigsP_right htw
  have hsl := swapL_length kids (lowerHead k.key wk) _ hfl
  rw [lowerHead_length] at hsl
  have hwpos := List.length_pos_iff.2 hwne
  have hcf := cutT_few hrr (by
    have e1 := swapL_size kids (lowerHead k.key wk) (findK kids i.key)
    have e2 : sizeL (swapL kids (findK kids i.key) (lowerHead k.key wk)) ≤ 392 := by
      have e3 : sizeL (lowerHead k.key wk) ≤ 1 + 36 * wk.length := by
        have := sizeL_most (lowerHead k.key wk) fun y hy => (cost_kid (((rightL_iff _).1 hrr).1 y (by unfold swapL; exact List.mem_append_left _ (List.mem_append_right _ hy)))).2
        rwa [lowerHead_length] at this
      have := ok.2.1
      omega
    exact e2)
  have hsz : sizeL (swapL kids (findK kids i.key) (lowerHead k.key wk)) ≤ 1000000 := by
    have := sizeL_most _ fun y hy => (cost_kid (((rightL_iff _).1 hrr).1 y hy)).2
    omega
  have oW := (Only.refl (fun _ => False) w).alloc (.cells #[str i.key, str i.val, .int .i64 i.kind] 131)
  have hLD := tload_twig (w.alloc (.cells #[str i.key, str i.val, .int .i64 i.kind] 131)) b S id depth kids (h.still oW) hs hn (by omega) (by omega)
  have HLD := Lib.hid hLD
  have hpw := h.lt
  have hWs : (w.alloc (.cells #[str i.key, str i.val, .int .i64 i.kind] 131)).heap.size = w.heap.size + 1 := by simp
  have hRn : ¬ pown (w.alloc (.cells #[str i.key, str i.val, .int .i64 i.kind] 131)) b w.heap.size := fun q => by
    have := pown_lt h ((pown_of_heap (oW.block b h.lt (fun q => q)) _).1 q); omega
  have hR0 := heap_alloc_new w (.cells #[str i.key, str i.val, .int .i64 i.kind] 131)
  have HW0 := Lib.hid (PStep.still h.lt oW)
  have HP := Lib.hid h
  have HIH := Lib.hid (fun W hW => IH n S p1 k.page b' l' ids' (depth + 1) wk W b hT hf (by omega) (by omega) hs (by omega) (by omega) hW hpp)
  have HTW := Lib.hid htw
  have HR := Lib.hid (And.intro hrr (And.intro hsz (And.intro hcf hsl)))
  clear hLD h hk IH hpp htw hrr hsz hcf hsl hT T
  unfold itemV itemC
  unfold pagesV at HLD ⊢
  go_enter Tryz.func174, Tryz.ntmps174
  go_wp2_with fail
  refine HLD.out.mono ?_
  rintro e w1 ⟨v1, rfl, hrow, hap, hp1, st1⟩
  obtain ⟨a1, n1, c1, rfl⟩ := capOk_form hrow.cap
  have hn1 : n1 = kids.length := by
    cases hrow.row with
    | none => rfl
    | some => rfl
  subst hn1
  have hR1 := (st1.only.block _ (by rw [hWs]; omega) hRn).trans hR0
  have hs1 := st1.only.size
  rw [hWs] at hs1
  have o2 := (Only.refl (fun _ => False) w1).alloc (.cells #[.int .i64 id, .bool false, .slice none 0 0, .slice a1 kids.length c1] 207)
  have hR2 := (o2.block _ (by omega) (fun q => q)).trans hR1
  have hrow2 := row_only hrow.row o2 (fun _ _ => fun q => q)
  have r0 := heap_cell hR2 0
  have HFD := Lib.hid (TFind_is _ kids i.key _ hrow2 hne hri.2 (by omega))
  have hN2 := heap_alloc_new w1 (.cells #[.int .i64 id, .bool false, .slice none 0 0, .slice a1 kids.length c1] 207)
  have HRW := Lib.hid hrow
  have HAP := Lib.hid hap
  have HP1 := Lib.hid hp1
  have HS1 := Lib.hid (HW0.out.trans st1)
  have HO2 := Lib.hid o2
  simp only [List.getElem?_toArray, List.getElem?_cons_zero] at r0
  clear hR1 hR0 hRn hWs oW hrow hap hp1 st1 o2 hrow2 HLD HW0
  go_wp2_with fail
  refine HFD.out.mono ?_
  rintro e w3 ⟨rfl, o3⟩
  have hw1s : (w1.alloc (.cells #[.int .i64 id, .bool false, .slice none 0 0, .slice a1 kids.length c1] 207)).heap.size = w1.heap.size + 1 := by simp
  have hR3 := (o3.block _ (by rw [hw1s]; omega) (fun q => q)).trans hR2
  have hN3 := (o3.block _ (by rw [hw1s]; omega) (fun q => q)).trans hN2
  have HO3 := Lib.hid (HO2.out.trans o3 (fun _ _ q => q))
  have r0 := heap_cell hR3 0
  have r1 := heap_cell hR3 1
  have r2 := heap_cell hR3 2
  have n3 := heap_cell hN3 3
  have hrow3 := row_only HRW.out.row HO3.out (fun _ _ => fun q => q)
  obtain ⟨g, off, rfl, k0, k1⟩ := row_kid hrow3 hkk
  simp only [List.getElem?_toArray, List.getElem?_cons_zero, List.getElem?_cons_succ] at r0 r1 r2 n3
  have HH3 := Lib.hid (And.intro hR3 hN3)
  clear hR2 hN2 o3 hR3 hN3 hrow3 HFD
  generalize hfk : findK kids i.key = at_ at *
  have hat1 : (at_ : Int) < (kids.length : Int) := by omega
  have hw9 : IntKind.i64.wrap (depth + 1) = depth + 1 := by exact IntWalk.i64_in _ (by omega)
  go_wp2_with fail
  have hB3 := HP1.out.still HO3.out
  have hB3d := hB3.still ((Only.refl (fun _ => False) w3).drew)
  go_region_with (go_at_call 174; refine (HIH.out _ hB3d).mono ?_; rintro e w4 ⟨V, rfl, hkr, hp4, st4⟩)
  all_goals
    have hNn : ¬ pown w3.drew b w1.heap.size := fun q => by
      have := pown_lt HP1.out ((pown_of_heap (HO3.out.block b HP1.out.lt (fun q => q)) _).1 q); omega
    have hN4 := (st4.only.block _ (by have := HO3.out.size; have := (Array.getElem?_eq_some_iff.1 HH3.out.2).1; exact this) hNn).trans HH3.out.2
    have hap3 : Apart w3.drew b (.slice (some ⟨g, off, none⟩) kids.length c1) := HAP.out.later HO3.out.size (HO3.out.block b HP1.out.lt (fun q => q))
    have hrow3 := row_only (HRW.out.row) HO3.out (fun _ _ => fun q => q)
    have hrow3d := row_only hrow3 ((Only.refl (fun _ => False) w3).drew) (fun _ _ => fun q => q)
    have hrow4 := row_only hrow3d st4.only (fun j hj => (hap3 j hj).1)
    have hap4 := hap3.step st4
    obtain ⟨_, _, he, kk0, _⟩ := row_kid hrow4 hkk
    cases he
    obtain ⟨k0w, wr, rfl⟩ := List.exists_cons_of_ne_nil hwne
    obtain ⟨gv, cv, rfl⟩ : ∃ gv cv, V = .slice (some ⟨gv, 0, none⟩) (k0w :: wr).length cv := by
      rcases hkr.own.2 with ⟨q, h0⟩ | ⟨gv, cv, cur, q, _⟩
      · simp at h0
      · exact ⟨gv, cv, q⟩
    have v0 := own_cell hkr.own 0 (str k0w.key) rfl
    have vz := own_frozen hkr.own 0
    have hset := own_set hkr.own 0 (str (minB k0w.key k.key))
    have n3 := heap_cell hN4 3
    simp only [List.getElem?_toArray, List.getElem?_cons_zero, List.getElem?_cons_succ] at n3
    have HS4 := Lib.hid ((HS1.out.trans (PStep.still HP1.out.lt (HO3.out.trans ((Only.refl (fun _ => False) w3).drew) (fun _ _ q => q)))).trans st4)
    have HP4 := Lib.hid hp4
    have HKR := Lib.hid hkr
    have HSET := Lib.hid hset
    have HR4 := Lib.hid (And.intro hrow4 (And.intro hap4 hN4))
    clear hNn hN4 hap3 hrow3 hrow3d hrow4 hap4 hkr hp4 st4 hset r0 r1 r2 k0 k1 hB3 hB3d
    have hmn := run_min_str k0w.key k.key
    go_wp2_with fail
    go_region
    all_goals
      have oS : Only (fun j => j = gv) w4 ((w4.setCell ⟨gv, 0, none⟩ (str (minB k0w.key k.key))).drew) := ((Only.refl (fun j => j = gv) w4).put gv 0 rfl _).drew
      obtain ⟨hgv1, hgv2⟩ := HKR.out.far gv rfl
      have hg3 : w3.heap.size ≤ gv := hgv1
      have hgv4 := (HKR.out.own.lt gv rfl).2
      have hs13 := HO3.out.size
      have hgl := (HAP.out g rfl).2
      have hN5 := (oS.block w1.heap.size (Array.getElem?_eq_some_iff.1 HR4.out.2.2).1 (fun e => by have e2 : w1.heap.size = gv := e; have := (Array.getElem?_eq_some_iff.1 HH3.out.2).1; omega)).trans HR4.out.2.2
      have hrow5 := row_only HR4.out.1 oS (fun j hj e => by have e2 : g = j := Option.some.inj hj; have e3 : j = gv := e; omega)
      have hown5 : ((w4.setCell ⟨gv, 0, none⟩ (str (minB k0w.key k.key))).drew).ownsRow 0 185 2 (.slice (some ⟨gv, 0, none⟩) (lowerHead k.key (k0w :: wr)).length cv) (lowerHead k.key (k0w :: wr)).length ((lowerHead k.key (k0w :: wr)).flatMap kidC) := HSET.out.drew
      have hP5 : PagesAt ((w4.setCell ⟨gv, 0, none⟩ (str (minB k0w.key k.key))).drew) b p1 := by
        obtain ⟨vL, vG, hI⟩ := HP4.out
        exact ⟨vL, vG, hI.beside oS (fun j q e => hgv2 (by have e3 : j = gv := e; exact e3 ▸ q))⟩
      have hS5 := HS4.out.fresh hpw oS (fun j e => by have e3 : j = gv := e; have := HS1.out.only.size; omega)
      have n5 := heap_cell hN5 3
      have HSWP := Lib.hid (TSwap_is _ _ kids (lowerHead k.key (k0w :: wr)) at_ _ hrow5 hfl (by simp [lowerHead]) hown5 (by omega) (by rw [lowerHead_length]; omega))
      have HP5 := Lib.hid hP5
      have HS5 := Lib.hid hS5
      simp only [List.getElem?_toArray, List.getElem?_cons_zero, List.getElem?_cons_succ] at n5
      clear oS hN5 hrow5 hown5 hP5 hS5
      generalize ((w4.setCell ⟨gv, 0, none⟩ (str (minB k0w.key k.key))).drew) = w5 at *
      go_wp2_with fail
      refine HSWP.out.mono ?_
      rintro e w6 ⟨v6, rfl, hrow6, o6, hnew6⟩
      have hTW := ttwigs_is w6 b p1 S2 id _ ks v6 (HP5.out.still o6) hrow6 HR.out.1 HR.out.2.1 (by have := HR.out.2.2.2; omega) (by have := HR.out.2.2.1; omega) (by omega) (by omega) (by omega) HTW.out
      have HTC := Lib.hid hTW
      have HS6 := Lib.hid (HS5.out.trans (PStep.still HP5.out.lt o6))
      clear hTW hrow6 o6 hnew6 HSWP
      unfold pagesV at HTC
      go_wp2_with fail
      refine HTC.out.mono ?_
      rintro e w7 ⟨V7, rfl, hkr, hp7, st7⟩
      have HKR7 := Lib.hid hkr
      have HP7 := Lib.hid hp7
      have HS7 := Lib.hid (HS6.out.trans st7)
      have hs6 := HS6.out.only.size
      clear hkr hp7 st7
      go_wp2_with fail
      go_ret2
      exact ⟨V7, rfl, ⟨HKR7.out.own, fun j hj => ⟨by have := (HKR7.out.far j hj).1; omega, (HKR7.out.far j hj).2⟩⟩, HP7.out, HS7.out⟩
end
section
open Go.RowKit
theorem tput_is (i : Item) (hi : okItem i = true) (f : Nat) : PutDoes i f := by
  induction f with
  | zero => intro n S S2 id b0 l ids depth ks w b T hf; omega
  | succ f ih =>
    intro n S S2 id b0 l ids depth ks w b T hf hd0 hd hs hL hg h hk
    cases n with
    | zero =>
      cases T with
      | leaf _ _ hn ne ok => exact tput_leaf i hi f S S2 id l depth ks w b hn ok (by omega) hs (by omega) (by omega) h hk
    | succ n => exact tput_twig i hi f ih n S S2 id b0 l ids depth ks w b T (by omega) hd0 hd hs hL hg h hk
set_option maxRecDepth 100000 in
set_option maxHeartbeats 4000000 in
theorem ttop_is (w : World) (b : Nat) (S S2 : PSt) (l : List Kid) (v : Value) (r : Int) (h : PagesAt w b S) (hv : RowC kidC 2 w v l) (hr : rightL l = true) (h3 : l.length ≤ 3) (hL : S.L.length + 1 ≤ 3998) (hg : S.given.length < 1000000) (hk : topP 20 S l = (.ok r, S2)) :
    Calls Tryz.prog 175 #[pagesV b, v] w fun e w' => e = .returned (.tuple #[.int .i64 r, .int .i64 0]) ∧ PagesAt w' b S2 ∧ PStep b w w' := by
  obtain ⟨a, n, c, rfl⟩ := capOk_form hv.cap
  have hn : n = l.length := by
    cases hv.row with
    | none => rfl
    | some => rfl
  subst hn
  have HP := Lib.hid h
  match l, hr, h3, hv, hk with
  | [], _, _, _, hk =>
    cases hk
    go_enter Tryz.func175, Tryz.ntmps175
    go_wp2_with fail
    refine wp_loop_rounds 1 ?_
    rw [rounds_succ]
    go_wp2_with fail
    go_ret2
    exact ⟨rfl, h, PStep.refl b w⟩
  | [k], _, _, hv, hk =>
    cases hk
    obtain ⟨g, off, rfl, _, k1⟩ := row_kid hv.row (k := 0) (x := k) rfl
    simp only [Nat.zero_mul, Nat.add_zero] at k1
    go_enter Tryz.func175, Tryz.ntmps175
    go_wp2_with fail
    refine wp_loop_rounds 1 ?_
    rw [rounds_succ]
    go_wp2_with fail
    go_ret2
    exact ⟨rfl, h, PStep.refl b w⟩
  | x :: y :: z, hr, h3, hv, hk =>
    have hk' : (match twigsP S 0 (x :: y :: z) with | (.error e, p) => (.error e, p) | (.ok up, p) => topP 19 p up) = (.ok r, S2) := by
      rw [← hk, topP] <;> first | rfl | (intro k q; simp at q) | (intro q; simp at q)
    have hs := sizeL_most (x :: y :: z) fun u hu => (cost_kid (((rightL_iff _).1 hr).1 u hu)).2
    have hw : cutL (x :: y :: z) = [x :: y :: z] := cut_whole _ (by simp) (by omega) (by omega)
    have hc : cutT (x :: y :: z) = [x :: y :: z] := by unfold cutT; rw [hw]; rfl
    obtain ⟨u, p1, hu, hur⟩ : ∃ u p1, twigsP S 0 (x :: y :: z) = (.ok [u], p1) ∧ r = u.page ∧ S2 = p1 := by
      cases ht : twigsP S 0 (x :: y :: z) with
      | mk res p1 =>
        rw [ht] at hk'
        cases res with
        | error e => cases hk'
        | ok up =>
          have hl : up.length = 1 := by
            have ht2 := ht
            unfold twigsP at ht2
            rw [if_pos hr, hc] at ht2
            obtain ⟨ids', p', h1, K⟩ := keepP_is S 0 ([x :: y :: z].map Node.twig) (by simpa using hL) (by omega)
            rw [h1] at ht2
            simp only at ht2
            cases ht2
            rw [kidsOf_length _ _ (by rw [K.len]; rfl), K.len]; rfl
          obtain ⟨u, rfl⟩ := List.length_eq_one_iff.1 hl
          refine ⟨u, p1, rfl, ?_⟩
          cases hk'
          exact ⟨rfl, rfl⟩
    obtain ⟨rfl, rfl⟩ := hur
    have hT := ttwigs_is w b S S2 0 (x :: y :: z) [u] _ h hv hr (by omega) (by simp) (by rw [hc]; exact hL) (by omega) (by omega) hg hu
    have HT := Lib.hid hT
    have hl2 : (1 : Int) < ((x :: y :: z).length : Int) := by simp only [List.length_cons]; omega
    generalize x :: y :: z = l at *
    clear hT hk hk' hu hs hw hc hr h3 hv
    unfold pagesV at HT ⊢
    go_enter Tryz.func175, Tryz.ntmps175
    go_wp2_with fail
    refine wp_loop_rounds 2 ?_
    rw [rounds_succ]
    go_wp2_with fail
    refine HT.out.mono ?_
    rintro e w1 ⟨V, rfl, hkr, hp1, st1⟩
    obtain ⟨gv, cv, rfl⟩ : ∃ gv cv, V = .slice (some ⟨gv, 0, none⟩) [u].length cv := by
      rcases hkr.own.2 with ⟨q, h0⟩ | ⟨gv, cv, cur, q, _⟩
      · simp at h0
      · exact ⟨gv, cv, q⟩
    have v1 := own_cell hkr.own 1 (.int .i64 u.page) rfl
    have HX := Lib.hid (And.intro hp1 st1)
    clear hp1 st1 hkr
    go_wp2_with fail
    rw [rounds_succ]
    go_wp2_with fail
    go_ret2
    exact ⟨rfl, HX.out.1, HX.out.2⟩
end
section
open Go.RowKit
theorem pages_nil (b : Nat) (w : World) : (binOp .eql 205 (pagesV b) .nilIface).run Tryz.prog w = .ok (.bool false) w := by kernel_rfl
set_option maxRecDepth 100000 in
set_option maxHeartbeats 2000000 in
theorem tPut_bad (w : World) (b : Nat) (S : PSt) (root : Int) (i : Item) (h : PagesAt w b S) (hi : okItem i = false) :
    Calls Tryz.prog 143 #[pagesV b, .int .i64 root, itemV i] w fun e w' => e = .returned (.tuple #[.int .i64 0, .int .i64 1]) ∧ PagesAt w' b S ∧ PStep b w w' := by
  have hnil := pages_nil b
  have hV := Valid_is i (w.alloc (.cells #[str i.key, str i.val, .int .i64 i.kind] 131))
  rw [hi] at hV
  have oW := (Only.refl (fun _ => False) w).alloc (.cells #[str i.key, str i.val, .int .i64 i.kind] 131)
  have HV := Lib.hid hV
  clear hV
  unfold itemV itemC at HV ⊢
  unfold pagesV at hnil ⊢
  go_enter Tryz.func143, Tryz.ntmps143
  go_wp2_with fail
  refine HV.out.mono ?_
  rintro e w1 ⟨rfl, o1⟩
  go_wp2_with fail
  go_ret2
  have o2 := oW.trans o1 (fun _ _ q => q)
  exact ⟨rfl, h.still o2, PStep.still h.lt o2⟩
set_option maxRecDepth 100000 in
set_option maxHeartbeats 2000000 in
theorem tPut_is (w : World) (b : Nat) (S S2 : PSt) (root r : Int) (l : List Item) (ids : List Int) (i : Item) (m : Nat) (h : PagesAt w b S) (hi : okItem i = true) (R : Rooted S.L root l ids) (hs : S.stop < 0) (hm : l.length < 2 ^ m) (hm2 : m ≤ 11) (hL : S.L.length + 4 + 2 * m ≤ 3998) (hg : S.given.length + 40 < 1000000)
    (hk : putTree S root i = (.ok r, S2)) :
    Calls Tryz.prog 143 #[pagesV b, .int .i64 root, itemV i] w fun e w' => e = .returned (.tuple #[.int .i64 r, .int .i64 0]) ∧ PagesAt w' b S2 ∧ PStep b w w' := by
  have hnil := pages_nil b
  have hV := Valid_is i (w.alloc (.cells #[str i.key, str i.val, .int .i64 i.kind] 131))
  rw [hi] at hV
  have oW := (Only.refl (fun _ => False) w).alloc (.cells #[str i.key, str i.val, .int .i64 i.kind] 131)
  have hR0 := heap_alloc_new w (.cells #[str i.key, str i.val, .int .i64 i.kind] 131)
  have hWs : (w.alloc (.cells #[str i.key, str i.val, .int .i64 i.kind] 131)).heap.size = w.heap.size + 1 := by simp
  unfold putTree at hk
  rw [if_pos hi] at hk
  have HV := Lib.hid hV
  have HP := Lib.hid h
  have HO := Lib.hid oW
  by_cases h0 : root = 0
  · subst h0
    rw [if_pos rfl] at hk
    have hr : rightL [i] = true := by rw [rightL_cons]; exact ⟨hi, (fun y hy => by simp at hy), rightL_nil⟩
    have hc := (cost_item hi).2
    have hsz : sizeL [i] ≤ 232 := by rw [sizeL_cons]; simp only [sizeL, List.foldr_nil]; omega
    have hw : cutL [i] = [[i]] := cut_whole _ (by simp) hsz (by simp)
    obtain ⟨ts, p1, h1, h2, h3, h4, K, h6, h7⟩ := leavesP_is S 0 [i] hr (by omega) (by omega) (by omega)
    rw [h1] at hk
    simp only at hk
    have hgv := leavesP_given S 0 [i]
    rw [h1] at hgv
    simp only at hgv
    have hfew := K.few
    rw [List.length_map, hw] at hfew
    simp only [List.length_cons, List.length_nil] at hfew
    have hL1 := fun W v (hP : PagesAt W b S) hv => tleaves_is W b S p1 0 [i] (ts.map Sprout.kid) v hP hv hr (by omega) (by rw [hw]; simp; omega) (by omega) (by omega) (by omega) h1
    have hT1 := fun W v (hP : PagesAt W b p1) hv => ttop_is W b p1 S2 (ts.map Sprout.kid) v r hP hv h2.ok (by rw [List.length_map]; exact h4) (by omega) (by omega) hk
    have HL1 := Lib.hid hL1
    have HT1 := Lib.hid hT1
    clear hL1 hT1 hk h oW hV
    unfold itemV itemC at HV ⊢
    unfold pagesV at hnil HL1 HT1 ⊢
    go_enter Tryz.func143, Tryz.ntmps143
    go_wp2_with fail
    refine HV.out.mono ?_
    rintro e w1 ⟨rfl, o1⟩
    have hR1 := (o1.block _ (by rw [hWs]; omega) (fun q => q)).trans hR0
    have r0 := heap_cell hR1 0
    have r1 := heap_cell hR1 1
    have r2 := heap_cell hR1 2
    simp only [List.getElem?_toArray, List.getElem?_cons_zero, List.getElem?_cons_succ] at r0 r1 r2
    have HO1 := Lib.hid (HO.out.trans o1 (fun _ _ q => q))
    clear o1 hR1 hR0 hWs
    go_wp2_with fail
    have o2 := HO1.out.alloc (.cells #[str i.key, str i.val, .int .i64 i.kind] 131)
    have hrow : RowC itemC 3 (w1.alloc (.cells #[str i.key, str i.val, .int .i64 i.kind] 131)) (.slice (some ⟨w1.heap.size, 0, none⟩) 1 1) [i] := by
      have hq : (w1.alloc (.cells #[str i.key, str i.val, .int .i64 i.kind] 131)).ownsRow 0 131 3 (.slice (some ⟨w1.heap.size, 0, none⟩) 1 1) 1 ([i].flatMap itemC) :=
        own_of_heap (heap_alloc_new w1 _) (by omega) (by unfold maxLen; omega) rfl rfl
      exact ⟨row_own (enc := itemC) (k := 3) (fun _ => rfl) hq, cap_own hq⟩
    refine (HL1.out _ _ (HP.out.still o2) hrow).mono ?_
    rintro e w3 ⟨V, rfl, hkr, hp3, st3⟩
    have HS3 := Lib.hid ((PStep.still HP.out.lt o2).trans st3)
    have HP3 := Lib.hid hp3
    have HKR := Lib.hid hkr.row
    clear o2 hrow hkr hp3 st3
    go_wp2_with fail
    refine (HT1.out _ _ HP3.out HKR.out).mono ?_
    rintro e w4 ⟨rfl, hp4, st4⟩
    have HX := Lib.hid (And.intro hp4 (HS3.out.trans st4))
    clear hp4 st4
    go_wp2_with fail
    go_ret2
    exact ⟨rfl, HX.out.1, HX.out.2⟩
  · rw [if_neg h0] at hk
    obtain ⟨n, b0, T⟩ : ∃ n b0, Tree S.L n root b0 l ids := by
      cases R with
      | none => exact absurd rfl h0
      | some n _ b0 _ _ T => exact ⟨n, b0, T⟩
    have hself := T.there _ T.self
    have hmany := T.many
    have hn : n < m := by
      apply Classical.byContradiction
      intro q
      have := Nat.pow_le_pow_right (n := 2) (by omega) (Nat.le_of_not_lt q)
      omega
    obtain ⟨ts, p1, h1, h2, h3, h4, h5, M, _⟩ := putP_is i hi n S root b0 l ids 1 13 T (by omega) (by omega) hs (by omega)
    rw [h1] at hk
    simp only at hk
    have hgv := putP_given i 13 S root 1
    rw [h1] at hgv
    simp only at hgv
    have hfew := M.few
    have hL1 := fun W (hP : PagesAt W b S) => tput_is i hi 13 n S p1 root b0 l ids 1 (ts.map Sprout.kid) W b T (by omega) (by omega) (by omega) hs (by omega) (by omega) hP h1
    have hT1 := fun W v (hP : PagesAt W b p1) hv => ttop_is W b p1 S2 (ts.map Sprout.kid) v r hP hv h2.ok (by rw [List.length_map]; exact h5) (by omega) (by omega) hk
    have HL1 := Lib.hid hL1
    have HT1 := Lib.hid hT1
    clear hL1 hT1 hk h oW hV T R
    unfold itemV itemC at HV HL1 ⊢
    unfold pagesV at hnil HL1 HT1 ⊢
    go_enter Tryz.func143, Tryz.ntmps143
    go_wp2_with fail
    refine HV.out.mono ?_
    rintro e w1 ⟨rfl, o1⟩
    have hR1 := (o1.block _ (by rw [hWs]; omega) (fun q => q)).trans hR0
    have r0 := heap_cell hR1 0
    have r1 := heap_cell hR1 1
    have r2 := heap_cell hR1 2
    simp only [List.getElem?_toArray, List.getElem?_cons_zero, List.getElem?_cons_succ] at r0 r1 r2
    have HO1 := Lib.hid (HO.out.trans o1 (fun _ _ q => q))
    clear o1 hR1 hR0 hWs
    go_wp2_with fail
    refine (HL1.out _ (HP.out.still HO1.out)).mono ?_
    rintro e w3 ⟨V, rfl, hkr, hp3, st3⟩
    have HS3 := Lib.hid ((PStep.still HP.out.lt HO1.out).trans st3)
    have HP3 := Lib.hid hp3
    have HKR := Lib.hid hkr.row
    clear hkr hp3 st3
    go_wp2_with fail
    refine (HT1.out _ _ HP3.out HKR.out).mono ?_
    rintro e w4 ⟨rfl, hp4, st4⟩
    have HX := Lib.hid (And.intro hp4 (HS3.out.trans st4))
    clear hp4 st4
    go_wp2_with fail
    go_ret2
    exact ⟨rfl, HX.out.1, HX.out.2⟩
end
section
open Go.RowKit
def DepthEnds (w : World) (b : Nat) (S : PSt) (l : List Item) : Ending → World → Prop := fun e w' => ∃ D : Nat, e = .returned (.tuple #[.int .i64 D, .int .i64 0]) ∧ (l = [] → D = 0) ∧ (l ≠ [] → ∃ n, D = n + 1 ∧ 2 ^ n ≤ l.length) ∧ PagesAt w' b S ∧ PStep b w w'
end
end Go.Proofs.YtbhiamcmiopnoaaGreatDoor
