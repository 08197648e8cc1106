/- Package tree over the law's pages: a key is deleted in a leaf. Conditions: one goroutine; the page is there; there is room for the pages. -/
import Derived.Test.YtbhiamcmiopnoaaGreatDoorZTreeC
import Derived.Test.YtbhiamcmiopnoaaGreatDoorZPlainC
import Derived.Test.YtbhiamcmiopnoaaGreatDoorZLeaf7
import Derived.Test.YtbhiamcmiopnoaaGreatDoorZRepS
namespace Go.Proofs.YtbhiamcmiopnoaaGreatDoor
section
open Go.RowKit
def DelEnds (w : World) (b : Nat) (r : Rest) (S2 : PSt) : Ending → World → Prop := fun e w' => ∃ V, e = .returned (.tuple #[.agg #[V, .bool r.thin, .bool r.found], .int .i64 0]) ∧ KidRow w w' b V r.kids ∧ PagesAt w' b S2 ∧ PStep b w w'
def DelDoes (key : Bytes) (f : Nat) : Prop := ∀ (n : Nat) (S S2 : PSt) (id : Int) (b0 : Bytes) (l : List Item) (ids : List Int) (depth : Int) (r : Rest) (w : World) (b : Nat), Tree S.L n id b0 l ids → n < f → 1 ≤ depth → depth + n ≤ 12 → S.stop < 0 → S.L.length + 3 + 2 * n ≤ 3998 → S.given.length + 2 * f < 1000000 → PagesAt w b S → delP f S id key depth = (.ok r, S2) →
    Calls Tryz.prog 176 #[pagesV b, .int .i64 id, str key, .int .i64 depth] w (DelEnds w b r S2)
def three (w : World) (B : Nat) (a b c : Value) : World := ((w.setCell ⟨B, 0, none⟩ a).setCell ⟨B, 1, none⟩ b).setCell ⟨B, 2, none⟩ c
theorem three_only (w : World) (B : Nat) (a b c : Value) : Only (fun k => k = B) w (three w B a b c) := (((Only.refl (fun k => k = B) w).put B 0 rfl a).put B 1 rfl b).put B 2 rfl c
theorem three_heap {w : World} {B : Nat} {x0 x1 x2 : Value} {t : TypeId} {f : Nat × Nat} (h : w.heap[B]? = some (.cells #[x0, x1, x2] t f)) (a b c : Value) : (three w B a b c).heap[B]? = some (.cells #[a, b, c] t f) := heap_setCell (heap_setCell (heap_setCell h 0 a) 1 b) 2 c
theorem del_end {w w4 : World} {b R : Nat} {r : Rest} {S2 : PSt} {V : Value} {x0 x1 x2 : Value} {t : TypeId} (hb : b < w.heap.size) (hR : w4.heap[R]? = some (.cells #[x0, x1, x2] t (0, 0))) (hw : w.heap.size ≤ R) (hn : ¬ pown w4 b R) (hk : KidRow w w4 b V r.kids) (hV : V.ownBlock ≠ some R) (hp : PagesAt w4 b S2) (st : PStep b w w4) :
    KidRow w (three w4 R V (.bool r.thin) (.bool r.found)) b V r.kids ∧ PagesAt (three w4 R V (.bool r.thin) (.bool r.found)) b S2 ∧ PStep b w (three w4 R V (.bool r.thin) (.bool r.found)) ∧
      (three w4 R V (.bool r.thin) (.bool r.found)).heap[R]? = some (.cells #[V, .bool r.thin, .bool r.found] t (0, 0)) := by
  have ho := three_only w4 R V (.bool r.thin) (.bool r.found)
  have hbR : ¬ b = R := fun e => hn (.inl e.symm)
  refine ⟨⟨own_only hk.own ho (fun k q e => hV (e ▸ q)), fun j hj => ⟨(hk.far j hj).1, fun q => (hk.far j hj).2 ((pown_of_heap (ho.block b hp.lt hbR) j).1 q)⟩⟩, ?_, st.fresh hb ho (fun k e => by have e2 : k = R := e; omega), three_heap hR _ _ _⟩
  obtain ⟨vL, vG, hI⟩ := hp
  exact ⟨vL, vG, hI.beside ho (fun j q e => hn (e ▸ q))⟩
set_option maxRecDepth 100000 in
set_option maxHeartbeats 4000000 in
theorem tdel_leaf (key : Bytes) (f : Nat) (S S2 : PSt) (id : Int) (l : List Item) (depth : Int) (r : Rest) (w : World) (b : Nat) (hn : nodeAt S.L id = some (.leaf l)) (ok : okNode (.leaf l)) (hd : depth ≤ 12) (hs : S.stop < 0) (hL : S.L.length + 3 ≤ 3998) (hg : S.given.length + 1 < 1000000) (h : PagesAt w b S) (hk : delP (f + 1) S id key depth = (.ok r, S2)) :
    Calls Tryz.prog 176 #[pagesV b, .int .i64 id, str key, .int .i64 depth] w (DelEnds w b r S2) := by
  have hid := nodeAt_lt hn
  rw [delP, loadP_is hn (by omega) hs] at hk
  simp only at hk
  have hri := (rightL_iff _).1 ok.1
  have hsub := dropL_sub l key
  have hsz := sizeL_sub hsub
  have hpr := rightL_sub ok.1 hsub
  have hok2 := ok.2
  have hcf : (cutL (dropL l key).1).length ≤ 1 := by
    by_cases hne : (dropL l key).1 = []
    · rw [hne, cutL_nil]; simp
    · rw [cut_whole _ hne (by omega) (by have := hsub.length_le; omega)]; simp
  have hlen := hsub.length_le
  have oW := (Only.refl (fun _ => False) w).alloc (.cells #[.slice none 0 0, .bool false, .bool false] 248)
  have hLD := tload_leaf (w.alloc (.cells #[.slice none 0 0, .bool false, .bool false] 248)) b S id depth l (h.still oW) hs hn hd (by omega)
  have HLD := Lib.hid hLD
  have hpw := h.lt
  have hWs : (w.alloc (.cells #[.slice none 0 0, .bool false, .bool false] 248)).heap.size = w.heap.size + 1 := by simp
  have hRn : ¬ pown (w.alloc (.cells #[.slice none 0 0, .bool false, .bool false] 248)) b w.heap.size := fun q => by
    have := pown_lt h ((pown_of_heap (oW.block b h.lt (fun q => q)) _).1 q); omega
  have hR0 := heap_alloc_new w (.cells #[.slice none 0 0, .bool false, .bool false] 248)
  have HW0 := Lib.hid (PStep.still h.lt oW)
  have HK := Lib.hid hk
  have HPR := Lib.hid hpr
  clear hLD h hk hpr hsub
  unfold pagesV at HLD ⊢
  go_enter Tryz.func176, Tryz.ntmps176
  go_wp2_with fail
  refine HLD.out.mono ?_
  rintro e w1 ⟨v1, rfl, hrow, hap, hp1, st1⟩
  obtain ⟨a1, n1, c1, rfl⟩ := capOk_form hrow.cap
  have hR1 := (st1.only.block _ (by rw [hWs]; omega) hRn).trans hR0
  have hRn1 : ¬ pown w1 b w.heap.size := fun q => (st1.own _ q).elim hRn (by rw [hWs]; omega)
  have hs1 := st1.only.size
  rw [hWs] at hs1
  have o2 := (Only.refl (fun _ => False) w1).alloc (.cells #[.int .i64 id, .bool true, .slice a1 n1 c1, .slice none 0 0] 207)
  have hrow2 := row_only hrow.row o2 (fun _ _ => fun q => q)
  have HDP := Lib.hid (Drop_is _ l key _ hrow2 hri.2 (by omega))
  have HP1 := Lib.hid hp1
  have HS1 := Lib.hid (HW0.out.trans st1)
  have HO2 := Lib.hid o2
  have HR1 := Lib.hid (And.intro hR1 hRn1)
  clear hR1 hRn1 hR0 hRn hWs oW hrow hap hp1 st1 o2 hrow2 HLD HW0
  go_wp2_with fail
  refine HDP.out.mono ?_
  rintro e w3 ⟨v3, rfl, hrow3, o3, hnew3⟩
  have HO3 := Lib.hid (HO2.out.trans o3 (fun _ _ q => q))
  have hR3 := (HO3.out.block w.heap.size (by omega) (fun q => q)).trans HR1.out.1
  have hRn3 : ¬ pown w3 b w.heap.size := fun q => HR1.out.2 ((pown_of_heap (HO3.out.block b HP1.out.lt (fun q => q)) _).1 q)
  have hs3 := HO3.out.size
  cases hfd : (dropL l key).2 with
  | false =>
    have hkk := HK.out
    rw [hfd] at hkk
    simp only [Bool.false_eq_true, if_false] at hkk
    cases hkk
    have HE := Lib.hid (del_end (r := ⟨[], false, false⟩) (V := .slice none 0 0) hpw hR3 (Nat.le_refl _) hRn3 ⟨⟨rfl, .inl ⟨rfl, rfl⟩⟩, fun j hj => by cases hj⟩ (fun q => by cases q) (HP1.out.still HO3.out) (HS1.out.trans (PStep.still HP1.out.lt HO3.out)))
    have c0 := heap_cell hR3 0
    have c1' := heap_cell hR3 1
    have c2 := heap_cell hR3 2
    have z0 := heap_frozen hR3 0
    have z1 := heap_frozen hR3 1
    have z2 := heap_frozen hR3 2
    simp only [List.getElem?_toArray, List.getElem?_cons_zero, List.getElem?_cons_succ] at c0 c1' c2
    have HR3 := Lib.hid hR3
    clear hR3 hRn3 HO3 hrow3 o3 hnew3 HDP
    go_wp2_with fail
    obtain ⟨hkr, hp, st, hh⟩ := HE.out
    unfold three at hkr hp st hh
    have q0 := heap_cell hh 0
    have q1 := heap_cell hh 1
    have q2 := heap_cell hh 2
    simp only [List.getElem?_toArray, List.getElem?_cons_zero, List.getElem?_cons_succ] at q0 q1 q2
    exact bodyPost_ret (v := .tuple #[.agg #[.slice none 0 0, .bool false, .bool false], .int .i64 0]) (by simp [results, Tryz.results176, go_sem, q0, q1, q2]) rfl ⟨.slice none 0 0, rfl, hkr, hp, st⟩
  | true =>
    have hkk := HK.out
    rw [hfd] at hkk
    simp only [if_true] at hkk
    obtain ⟨ks, hl, rfl⟩ : ∃ ks, leavesP S id (dropL l key).1 = (.ok ks, S2) ∧ r = ⟨ks, false, true⟩ := by
      cases hl : leavesP S id (dropL l key).1 with
      | mk q p' =>
        rw [hl] at hkk
        cases q with
        | error e => cases hkk
        | ok ks => cases hkk; exact ⟨ks, rfl, rfl⟩
    have HLV := Lib.hid (tleaves_is w3 b S S2 id (dropL l key).1 ks v3 (HP1.out.still HO3.out) hrow3 HPR.out (by omega) (by omega) (by omega) hid.2 (by omega) hl)
    have HR3 := Lib.hid (And.intro hR3 hRn3)
    have HS3 := Lib.hid (HS1.out.trans (PStep.still HP1.out.lt HO3.out))
    clear hR3 hRn3 HO3 hrow3 o3 hnew3 HDP hkk hl HK
    unfold pagesV at HLV
    go_wp2_with fail
    refine HLV.out.mono ?_
    rintro e w4 ⟨V, rfl, hkr, hp4, st4⟩
    obtain ⟨aV, cV, rfl⟩ := ownsRow_form hkr.own
    have hR4 := (st4.only.block w.heap.size (by omega) HR3.out.2).trans HR3.out.1
    have hRn4 : ¬ pown w4 b w.heap.size := fun q => (st4.own _ q).elim HR3.out.2 (by omega)
    have HE := Lib.hid (del_end (r := ⟨ks, false, true⟩) hpw hR4 (Nat.le_refl _) hRn4 ⟨hkr.own, fun j hj => ⟨by have := (hkr.far j hj).1; omega, (hkr.far j hj).2⟩⟩ (fun q => by have := (hkr.far _ q).1; omega) hp4 (HS3.out.trans st4))
    have c0 := heap_cell hR4 0
    have c1' := heap_cell hR4 1
    have c2 := heap_cell hR4 2
    have z0 := heap_frozen hR4 0
    have z1 := heap_frozen hR4 1
    have z2 := heap_frozen hR4 2
    simp only [List.getElem?_toArray, List.getElem?_cons_zero, List.getElem?_cons_succ] at c0 c1' c2
    clear hR4 hRn4 hkr hp4 st4 HLV
    go_wp2_with fail
    obtain ⟨hkr, hp, st, hh⟩ := HE.out
    unfold three at hkr hp st hh
    have q0 := heap_cell hh 0
    have q1 := heap_cell hh 1
    have q2 := heap_cell hh 2
    simp only [List.getElem?_toArray, List.getElem?_cons_zero, List.getElem?_cons_succ] at q0 q1 q2
    exact bodyPost_ret (v := .tuple #[.agg #[.slice aV ks.length cV, .bool false, .bool true], .int .i64 0]) (by simp [results, Tryz.results176, go_sem, q0, q1, q2]) rfl ⟨_, rfl, hkr, hp, st⟩
end
section
open Go.RowKit
theorem setHead_cells (k : Bytes) (x : Kid) (l : List Kid) : (setHead k (x :: l)).flatMap kidC = ((x :: l).flatMap kidC).set 0 (str k) := rfl
theorem setHead_length (k : Bytes) (l : List Kid) : (setHead k l).length = l.length := by cases l <;> rfl
theorem setHead_size {k : Bytes} (hk : k.length ≤ 32) (l : List Kid) : sizeL (setHead k l) ≤ sizeL l + 36 := by
  cases l with
  | nil => exact Nat.le_add_right _ _
  | cons x l =>
    show sizeL (⟨k, x.page⟩ :: l) ≤ _
    rw [sizeL_cons, sizeL_cons]
    show 4 + k.length + sizeL l ≤ 4 + x.key.length + sizeL l + 36
    omega
set_option maxRecDepth 100000 in
set_option maxHeartbeats 8000000 in
theorem tjoin_is (w : World) (b : Nat) (S S2 : PSt) (kids l2 : List Kid) (a : Nat) (one : Kid) (depth : Int) (v : Value) (h : PagesAt w b S) (hv : RowC kidC 2 w v kids) (hap : Apart w b v) (hr : rightL kids = true) (hkl : kids.length ≤ 255) (hone : okKid one = true) (ha : a < kids.length) (hd : depth ≤ 12) (hs : S.stop < 0)
    (hL : S.L.length + 2 ≤ 3998) (hg : S.given.length + 1 < 1000000) (hk : joinP S kids a one depth = (.ok l2, S2)) :
    Calls Tryz.prog 200 #[pagesV b, v, .int .i64 a, .agg #[str one.key, .int .i64 one.page], .int .i64 depth] w fun e w' => ∃ V, e = .returned (.tuple #[V, .int .i64 0]) ∧ KidRow w w' b V l2 ∧ PagesAt w' b S2 ∧ PStep b w w' := by
  obtain ⟨h2, kb, kl, ks, wk, hkb, hkl2, hn, htw, rfl⟩ := join_parts hs hd hk
  obtain ⟨aV, nV, cV, rfl⟩ := capOk_form hv.cap
  have hn1 : nV = kids.length := by
    cases hv.row with
    | none => rfl
    | some => rfl
  subst hn1
  have hid := nodeAt_lt hn
  have hri := (rightL_iff _).1 hr
  have hkbok : okKid kb = true := hri.1 kb (List.mem_of_getElem? hkb)
  simp only [okKid, decide_eq_true_eq] at hkbok
  have hsound : soundN (.twig ks) := by
    obtain ⟨vL, vG, hp⟩ := h
    exact hp.sound _ (nodeAt_mem hn)
  obtain ⟨hks, hkne⟩ := hsound
  have hk1 := hks.2.1
  have hk2 := hks.2.2
  have hkpos := List.length_pos_iff.2 hkne
  obtain ⟨i0, hi0, hz0, hz1, hz2⟩ := info_parts kidInfo
  have hrj := twigsP_right htw
  have hone2 := hone
  simp only [okKid, decide_eq_true_eq] at hone2
  have o0 := (Only.refl (fun _ => False) w).alloc (.cells #[str one.key, .int .i64 one.page] 185)
  have hb0 := heap_alloc_new w (.cells #[str one.key, .int .i64 one.page] 185)
  have hWs : (w.alloc (.cells #[str one.key, .int .i64 one.page] 185)).heap.size = w.heap.size + 1 := by simp
  have hbn : ¬ pown (w.alloc (.cells #[str one.key, .int .i64 one.page] 185)) b w.heap.size := fun q => by
    have := pown_lt h ((pown_of_heap (o0.block b h.lt (fun q => q)) _).1 q); omega
  have hpw := h.lt
  have HLD := Lib.hid (tload_twig (w.alloc (.cells #[str one.key, .int .i64 one.page] 185)) b S kb.page depth ks (h.still o0) hs hn hd (by omega))
  have hap0 : Apart (w.alloc (.cells #[str one.key, .int .i64 one.page] 185)) b (.slice aV kids.length cV) := hap.later o0.size (o0.block b h.lt (fun q => q))
  have hrow0 := hv.only o0 (fun _ _ => id)
  have HW0 := Lib.hid (PStep.still h.lt o0)
  have HTW := Lib.hid htw
  have HB := Lib.hid (And.intro hb0 hbn)
  have HV := Lib.hid (And.intro hrow0 hap0)
  have HR := Lib.hid (And.intro hrj hks)
  clear h hk htw hb0 hbn hv hap hrow0 hap0 o0 hone hrj hks
  unfold pagesV at HLD ⊢
  by_cases ha0 : a = 0
  · subst ha0
    have hml : 0 + 1 < kids.length := by omega
    have hml1 : (1 : Int) < (kids.length : Int) := by omega
    have hmx : max (-1 : Int) 0 = 0 := by decide
    have hml0 : (0 : Int) < (kids.length : Int) := by omega
    rw [if_pos rfl] at hkb HTW HR
    simp only [Nat.zero_sub, Nat.zero_add] at hkl2 ⊢
    have hrow0 := HV.out.1.row
    obtain ⟨gK, offK, rfl, k0, k1⟩ := row_kid hrow0 hkb
    simp only [Nat.one_mul] at k0 k1
    have k1' : (w.alloc (.cells #[str one.key, .int .i64 one.page] 185)).cell? ⟨gK, offK + 3, none⟩ = some (.int .i64 kb.page) := k1
    have HK := Lib.hid (And.intro hkb hkl2)
    clear hrow0 hkb hkl2
    go_enter Tryz.func200, Tryz.ntmps200
    go_wp2_with fail
    refine HLD.out.mono ?_
    rintro e w1 ⟨v1, rfl, hrow1, hap1, hp1, st1⟩
    obtain ⟨a1, n1, c1, rfl⟩ := capOk_form hrow1.cap
    obtain rfl : n1 = ks.length := by
      cases hrow1.row with
      | none => rfl
      | some => rfl
    have hs1 := st1.only.size
    rw [hWs] at hs1
    have hB1 := (st1.only.block _ (by rw [hWs]; omega) HB.out.2).trans HB.out.1
    have o2 := (Only.refl (fun _ => False) w1).alloc (.cells #[.int .i64 kb.page, .bool false, .slice none 0 0, .slice a1 ks.length c1] 207)
    have hrow2 := row_only hrow1.row o2 (fun _ _ => id)
    have HCL := Lib.hid (CloneK_is _ ks _ hrow2 (by omega))
    have HP1 := Lib.hid hp1
    have HS1 := Lib.hid (HW0.out.trans st1)
    have HO2 := Lib.hid o2
    have HV1 := Lib.hid (And.intro (HV.out.1.step HV.out.2 st1) (HV.out.2.step st1))
    have HB1 := Lib.hid hB1
    clear hB1 o2 hrow2 hp1 st1 hrow1 hap1 HLD HV HW0 HB k0 k1
    go_wp2_with fail
    (with_reducible refine HCL.out.mono ?_)
    rintro e w3 ⟨v3, rfl, own3, o3, new3⟩
    obtain ⟨a3, c3, rfl⟩ := ownsRow_form own3
    have hw1s : (w1.alloc (.cells #[.int .i64 kb.page, .bool false, .slice none 0 0, .slice a1 ks.length c1] 207)).heap.size = w1.heap.size + 1 := by simp
    rw [hw1s] at new3
    have HO3 := Lib.hid (HO2.out.trans o3 (fun _ _ q => q))
    have hB3 := (HO3.out.block w.heap.size (by omega) (fun q => q)).trans HB1.out
    obtain ⟨g3, rfl⟩ : ∃ g3, a3 = some ⟨g3, 0, none⟩ := by
      rcases own3.2 with ⟨q, h0⟩ | ⟨g3, cap, cur, q, _⟩
      · omega
      · injection q with q1 q2 q3; exact ⟨g3, q1⟩
    obtain ⟨x3, r3, rfl⟩ := List.exists_cons_of_ne_nil hkne
    have kx3 := HV1.out.1.only HO3.out (fun _ _ => id)
    obtain ⟨_, _, he, kk0, _⟩ := row_kid kx3.row HK.out.1
    cases he
    simp only [Nat.one_mul] at kk0
    have e0 := own_cell own3 0 (str x3.key) rfl
    have ez := own_frozen own3 0
    have hset3 := own_set own3 0 (str kb.key)
    rw [← setHead_cells] at hset3
    have hg3 := new3 g3 rfl
    have oS3 : Only (fun j => j = g3) w3 (w3.setCell ⟨g3, 0, none⟩ (str kb.key)) := (Only.refl (fun j => j = g3) w3).put g3 0 rfl _
    have hg3w := (own3.lt g3 rfl).2
    have hs3 := HO3.out.size
    have hB4 := (oS3.block w.heap.size (by omega) (fun e => by have e2 : w.heap.size = g3 := e; omega)).trans hB3
    have d0 := heap_cell hB4 0
    have d1 := heap_cell hB4 1
    simp only [List.getElem?_toArray, List.getElem?_cons_zero, List.getElem?_cons_succ] at d0 d1
    have hw3s : (w3.setCell ⟨g3, 0, none⟩ (str kb.key)).heap.size = w3.heap.size := by simp [World.setCell]
    have oA := (Only.refl (fun _ => False) (w3.setCell ⟨g3, 0, none⟩ (str kb.key))).alloc (.cells (kidC one).toArray 185)
    have hown4 := own_only hset3 oA (fun _ _ => id)
    have hins := InsertK_is (.slice (some ⟨g3, 0, none⟩) (x3 :: r3).length c3) (setHead kb.key (x3 :: r3)) one 0 w3.heap.size ((w3.setCell ⟨g3, 0, none⟩ (str kb.key)).alloc (.cells (kidC one).toArray 185)) (Nat.zero_le _) (by rw [setHead_length]; exact hown4) (fun q => by have := Option.some.inj (show some g3 = some w3.heap.size from q); omega) (by have := heap_alloc_new (w3.setCell ⟨g3, 0, none⟩ (str kb.key)) (.cells (kidC one).toArray 185); rw [hw3s] at this; exact this) (by rw [setHead_length]; omega)
    change Calls _ _ #[_, .int .i64 0, _] ((w3.setCell ⟨g3, 0, none⟩ (str kb.key)).alloc (.cells #[str one.key, .int .i64 one.page] 185)) _ at hins
    have hlc : (setHead kb.key (x3 :: r3)).length = r3.length + 1 := rfl
    simp only [List.length_cons] at hins
    have HIN := Lib.hid hins
    have HOS := Lib.hid (And.intro oS3 (And.intro new3 hg3w))
    clear hown4 hset3 oS3 oA hins kx3 own3 o3 new3 hB3 hB4 HCL
    go_wp2_with fail
    (with_reducible refine HIN.out.mono ?_)
    rintro e wx ⟨v4, rfl, hown2, ox, hmv⟩
    obtain ⟨aI, cI, rfl⟩ := ownsRow_form hown2
    obtain ⟨oS3, new3, hg3w⟩ := HOS.out
    have hlj : (one :: setHead kb.key (x3 :: r3)).length = r3.length + 1 + 1 := rfl
    simp only [List.take_zero, List.drop_zero, List.nil_append, hlc] at hown2
    have hO3 := HO3.out
    have oX : Only (fun j => j = g3) w1 wx := (((hO3.mono fun _ _ q => q.elim).trans oS3 (fun _ _ q => q)).alloc _).trans ox (fun j _ e => (Option.some.inj e).symm)
    have hbx : ¬ b = g3 := fun q => by have := new3 g3 rfl; have := HP1.out.lt; omega
    have kx := HV1.out.1.only oX (fun j hj q => by have := (HV1.out.2 j hj).2; have := new3 g3 rfl; have e : j = g3 := q; omega)
    have hapx := HV1.out.2.later oX.size (oX.block b HP1.out.lt hbx)
    obtain ⟨_, _, he, k0, k1⟩ := row_kid kx.row HK.out.1
    cases he
    simp only [Nat.one_mul] at k0 k1
    have k1' : wx.cell? ⟨gK, offK + 3, none⟩ = some (.int .i64 kb.page) := k1
    have hPx : PagesAt wx b S := by
      obtain ⟨vL, vG, hI⟩ := HP1.out
      refine ⟨vL, vG, hI.beside oX (fun j q e => ?_)⟩
      have := pown_lt HP1.out q
      have := new3 g3 rfl
      have e2 : j = g3 := e
      omega
    have hSx := HS1.out.fresh hpw oX (fun j e => by have := new3 g3 rfl; have := HS1.out.only.size; have e2 : j = g3 := e; omega)
    have hsz : sizeL (one :: setHead kb.key (x3 :: r3)) ≤ 392 := by
      have e1 := setHead_size (k := kb.key) (by omega) (x3 :: r3)
      rw [sizeL_cons]
      show 4 + one.key.length + _ ≤ 392
      omega
    have hcf := cutT_few HR.out.1 hsz
    have hwl := twigsP_ne HTW.out (by simp) (by omega) (by omega)
    have HTC := Lib.hid (ttwigs_is wx b S S2 kb.page (one :: setHead kb.key (x3 :: r3)) wk (.slice aI (r3.length + 1 + 1) cI) hPx ⟨row_own (enc := kidC) (k := 2) (fun _ => rfl) hown2, cap_own hown2⟩ HR.out.1 (by omega) (by rw [hlj]; omega) (by omega) (by omega) (by omega) (by omega) HTW.out)
    have HY := Lib.hid (And.intro hPx (And.intro hSx (And.intro hapx kx)))
    clear oX hbx kx hapx hown2 hmv hPx hSx hlj hsz HTW ox oS3 new3 hg3w hO3 hlc HIN
    unfold pagesV at HTC
    go_wp2_with fail
    refine HTC.out.mono ?_
    rintro e w7 ⟨V, rfl, hkr, hp7, st7⟩
    obtain ⟨hPx, hSx, hapx, kx⟩ := HY.out
    have kx7 := kx.step hapx st7
    have hap7 := hapx.step st7
    obtain ⟨k0w, wr, rfl⟩ := List.exists_cons_of_ne_nil hwl.1
    obtain ⟨gv, cv, rfl⟩ : ∃ gv cv, V = .slice (some ⟨gv, 0, none⟩) (k0w :: wr).length cv := by
      rcases hkr.own.2 with ⟨q, h0⟩ | ⟨gv, cv, cur, q, _⟩
      · simp at h0
      · exact ⟨gv, cv, q⟩
    obtain ⟨_, _, he, kl0, _⟩ := row_kid kx7.row HK.out.2
    cases he
    simp only [Nat.zero_mul, Nat.add_zero] at kl0
    have v0 := own_cell hkr.own 0 (str k0w.key) rfl
    have vz := own_frozen hkr.own 0
    have hset := own_set hkr.own 0 (str kl.key)
    rw [← setHead_cells] at hset
    obtain ⟨hgv1, hgv2⟩ := hkr.far gv rfl
    have hgK7 := (hap7 gK rfl).2
    have hgKx := (hapx gK rfl).2
    have oS : Only (fun j => j = gv) w7 (w7.setCell ⟨gv, 0, none⟩ (str kl.key)) := (Only.refl (fun j => j = gv) w7).put gv 0 rfl _
    have hbv : ¬ b = gv := fun e => hgv2 (.inl e.symm)
    have kx8 := kx7.only oS (fun j hj e => by have e2 : gK = j := Option.some.inj hj; have e3 : j = gv := e; omega)
    have hP8 : PagesAt (w7.setCell ⟨gv, 0, none⟩ (str kl.key)) b S2 := by
      obtain ⟨vL, vG, hI⟩ := hp7
      exact ⟨vL, vG, hI.beside oS (fun j q e => hgv2 (by have e3 : j = gv := e; exact e3 ▸ q))⟩
    have hsx := hSx.only.size
    have hS8 := (hSx.trans st7).fresh hpw oS (fun j e => by have e3 : j = gv := e; omega)
    have HC2 := Lib.hid (CloneK_is _ kids _ kx8.row (by omega))
    have hs7 := st7.only.size
    have hw8s : (w7.setCell ⟨gv, 0, none⟩ (str kl.key)).heap.size = w7.heap.size := by simp [World.setCell]
    have hgv7 := (hkr.own.lt gv rfl).2
    have HZ := Lib.hid (And.intro hset (And.intro hP8 hS8))
    have hwlen := hwl.2
    have HWL := Lib.hid (And.intro hwlen hcf)
    clear hPx hSx hapx kx kx7 hap7 hkr hset oS kx8 hP8 hS8 hp7 st7 hwl hwlen hcf k0 k1 k1' HTC
    go_wp2_with fail
    (with_reducible refine HC2.out.mono ?_)
    rintro e w9 ⟨v9, rfl, own9, o9, new9⟩
    rw [hw8s] at new9
    obtain ⟨hset, hP8, hS8⟩ := HZ.out
    have hrl := Replace_less v9 (.slice (some ⟨gv, 0, none⟩) (k0w :: wr).length cv) kids (setHead kl.key (k0w :: wr)) 0 2 w9 (by omega) (by omega) (by omega) (by have e1 := HWL.out; rw [setHead_length]; omega) (fun j hj e => by have e2 : gv = j := Option.some.inj e; have := new9 j hj; omega) own9 (by rw [setHead_length]; exact own_only hset o9 (fun _ _ => id)) (by omega)
    rw [List.length_cons] at hrl
    change Calls _ _ #[_, .int .i64 0, .int .i64 2, _] _ _ at hrl
    simp only [List.take_zero, List.nil_append] at hrl
    have HRL := Lib.hid hrl
    have HO9 := Lib.hid (And.intro o9 (And.intro new9 own9))
    clear hset hP8 hS8 hrl o9 new9 own9 HC2
    go_wp2_with fail
    (with_reducible refine HRL.out.mono ?_)
    rintro e wa ⟨va, rfl, owna, oa, ba⟩
    have HA := Lib.hid (And.intro owna (And.intro oa ba))
    clear owna oa ba HRL
    go_wp2_with fail
    go_ret2
    simp only [List.take_zero, List.nil_append]
    obtain ⟨owna, oa, ba⟩ := HA.out
    obtain ⟨o9, new9, own9⟩ := HO9.out
    obtain ⟨_, hP8, hS8⟩ := HZ.out
    have hb8 : b < (w7.setCell ⟨gv, 0, none⟩ (str kl.key)).heap.size := hP8.lt
    have hP9 := hP8.still o9
    have hp9 : ∀ j, pown w9 b j → j < w7.heap.size := fun j q => by
      have := pown_lt hP8 ((pown_of_heap (o9.block b hb8 id) j).1 q)
      omega
    have hbn : ¬ v9.ownBlock = some b := fun q => by have := new9 b q; omega
    have hPa : PagesAt wa b S2 := by
      obtain ⟨vL, vG, hI⟩ := hP9
      exact ⟨vL, vG, hI.beside oa (fun j q e => by have := new9 j e; have := hp9 j q; omega)⟩
    refine ⟨va, rfl, ⟨owna, fun j hj => ?_⟩, hPa, (hS8.trans (PStep.still hb8 o9)).fresh hpw oa (fun j e => by have := new9 j e; omega)⟩
    rw [ba] at hj
    have h9 := new9 j hj
    refine ⟨by omega, fun q => ?_⟩
    have := hp9 j ((pown_of_heap (oa.block b hP9.lt hbn) j).1 q)
    omega
  · obtain ⟨m, hm⟩ : ∃ m, a = m + 1 := ⟨a - 1, by omega⟩
    have hwA : IntKind.i64.wrap ((a : Int) - 1) = (m : Int) := by rw [IntWalk.i64_in _ (by omega)]; omega
    have hne : ¬ (a : Int) = 0 := by omega
    have hmx : max (m : Int) 0 = (m : Int) := by omega
    have hml : m + 1 < kids.length := by omega
    have hml1 : (m : Int) < (kids.length : Int) := by omega
    have hm0 : (0 : Int) ≤ (m : Int) := by omega
    rw [if_neg ha0, show a - 1 = m by omega] at hkb
    rw [show a - 1 = m by omega] at hkl2 ⊢
    rw [if_neg ha0] at HTW HR
    have hrow0 := HV.out.1.row
    obtain ⟨gK, offK, rfl, k0, k1⟩ := row_kid hrow0 hkb
    have HK := Lib.hid (And.intro hkb hkl2)
    clear hrow0 hkb hkl2 hm ha0
    go_enter Tryz.func200, Tryz.ntmps200
    go_wp2_with fail
    refine HLD.out.mono ?_
    rintro e w1 ⟨v1, rfl, hrow1, hap1, hp1, st1⟩
    obtain ⟨a1, n1, c1, rfl⟩ := capOk_form hrow1.cap
    obtain rfl : n1 = ks.length := by
      cases hrow1.row with
      | none => rfl
      | some => rfl
    have hs1 := st1.only.size
    rw [hWs] at hs1
    have hB1 := (st1.only.block _ (by rw [hWs]; omega) HB.out.2).trans HB.out.1
    have o2 := (Only.refl (fun _ => False) w1).alloc (.cells #[.int .i64 kb.page, .bool false, .slice none 0 0, .slice a1 ks.length c1] 207)
    have hrow2 := row_only hrow1.row o2 (fun _ _ => id)
    have HCL := Lib.hid (CloneK_is _ ks _ hrow2 (by omega))
    have HP1 := Lib.hid hp1
    have HS1 := Lib.hid (HW0.out.trans st1)
    have HO2 := Lib.hid o2
    have HV1 := Lib.hid (And.intro (HV.out.1.step HV.out.2 st1) (HV.out.2.step st1))
    have HB1 := Lib.hid hB1
    clear hB1 o2 hrow2 hp1 st1 hrow1 hap1 HLD HV HW0 HB k0 k1
    go_wp2_with fail
    (with_reducible refine HCL.out.mono ?_)
    rintro e w3 ⟨v3, rfl, own3, o3, new3⟩
    obtain ⟨a3, c3, rfl⟩ := ownsRow_form own3
    have hw1s : (w1.alloc (.cells #[.int .i64 kb.page, .bool false, .slice none 0 0, .slice a1 ks.length c1] 207)).heap.size = w1.heap.size + 1 := by simp
    rw [hw1s] at new3
    have HO3 := Lib.hid (HO2.out.trans o3 (fun _ _ q => q))
    have hB3 := (HO3.out.block w.heap.size (by omega) (fun q => q)).trans HB1.out
    have d0 := heap_cell hB3 0
    have d1 := heap_cell hB3 1
    simp only [List.getElem?_toArray, List.getElem?_cons_zero, List.getElem?_cons_succ] at d0 d1
    have HOWN := Lib.hid own3
    have HNEW := Lib.hid new3
    have hs3 := HO3.out.size
    have hh : ks.length + 1 ≤ maxLen := by unfold maxLen; omega
    clear own3 o3 new3 hB3 HCL
    go_wp2_with (at_builtin; refine wpList_append_moved _ rfl _ _ 163 rfl 185 i0 _ 2 24 Tryz.underlying163 hi0 hz0 hz1 hz2 rfl (by decide) (.slice a3 ks.length c3) ks.length (ks.flatMap kidC) rfl (own_only HOWN.out ((Only.refl (fun _ => False) w3).alloc _) (fun _ _ => id)) ⟨w3.heap.size, 0, none⟩ 1 1 [str one.key, .int .i64 one.page] rfl rfl (cells_new w3 [str one.key, .int .i64 one.page] 185 (0, 0)) (by simp [Value.oneCell', str]) hh (by omega) ?_; intro a' c' wx hown2 hgr hmv; have oX : Only (fun j => (Value.slice a3 ks.length c3).ownBlock = some j) w1 wx := ((HO3.out.mono fun _ _ q => q.elim).alloc _).grown hgr (fun k _ e => e); have hbx : ¬ (Value.slice a3 ks.length c3).ownBlock = some b := (fun q => by have := HNEW.out b q; have := HP1.out.lt; omega); have kx := HV1.out.1.only oX (fun j hj q => by have := (HV1.out.2 j hj).2; have := HNEW.out j q; omega); have hapx := HV1.out.2.later oX.size (oX.block b HP1.out.lt hbx); obtain ⟨_, _, he, k0, k1⟩ := row_kid kx.row HK.out.1; cases he; have HX := Lib.hid (And.intro oX (And.intro hbx (And.intro kx (And.intro hapx (And.intro hown2 hmv))))); clear oX hbx kx hapx hown2 hgr hmv)
    obtain ⟨oX, hbx, kx, hapx, hown2, hmv⟩ := HX.out
    have hPx : PagesAt wx b S := by
      obtain ⟨vL, vG, hI⟩ := HP1.out
      refine ⟨vL, vG, hI.beside oX (fun j q e => ?_)⟩
      have := pown_lt HP1.out q
      have := HNEW.out j e
      omega
    have hSx := HS1.out.fresh hpw oX (fun j e => by have := HNEW.out j e; have := HS1.out.only.size; omega)
    have hl1 : (ks ++ [one]).length = ks.length + 1 := by simp
    have hfm : (ks ++ [one]).flatMap kidC = ks.flatMap kidC ++ [str one.key, .int .i64 one.page] := by rw [List.flatMap_append]; rfl
    rw [← hfm, ← hl1] at hown2
    have hsz : sizeL (ks ++ [one]) ≤ 392 := by
      have e1 := sizeL_app ks [one]
      have e2 : sizeL [one] = 4 + one.key.length + 1 := rfl
      omega
    have hcf := cutT_few HR.out.1 hsz
    have hwl := twigsP_ne HTW.out (by simp) (by omega) (by omega)
    have HTC := Lib.hid (ttwigs_is wx b S S2 kb.page (ks ++ [one]) wk (.slice a' (ks.length + 1) c') hPx ⟨row_own (enc := kidC) (k := 2) (fun _ => rfl) (by rw [← hl1]; exact hown2), by rw [← hl1]; exact cap_own hown2⟩ HR.out.1 (by omega) (by rw [hl1]; omega) (by omega) (by omega) (by omega) (by omega) HTW.out)
    have HY := Lib.hid (And.intro hPx (And.intro hSx (And.intro hapx kx)))
    clear oX hbx kx hapx hown2 hmv hPx hSx hfm hl1 hsz HX HTW
    unfold pagesV at HTC
    go_wp2_with fail
    refine HTC.out.mono ?_
    rintro e w7 ⟨V, rfl, hkr, hp7, st7⟩
    obtain ⟨hPx, hSx, hapx, kx⟩ := HY.out
    have kx7 := kx.step hapx st7
    have hap7 := hapx.step st7
    obtain ⟨k0w, wr, rfl⟩ := List.exists_cons_of_ne_nil hwl.1
    obtain ⟨gv, cv, rfl⟩ : ∃ gv cv, V = .slice (some ⟨gv, 0, none⟩) (k0w :: wr).length cv := by
      rcases hkr.own.2 with ⟨q, h0⟩ | ⟨gv, cv, cur, q, _⟩
      · simp at h0
      · exact ⟨gv, cv, q⟩
    obtain ⟨_, _, he, kl0, _⟩ := row_kid kx7.row HK.out.2
    cases he
    have v0 := own_cell hkr.own 0 (str k0w.key) rfl
    have vz := own_frozen hkr.own 0
    have hset := own_set hkr.own 0 (str kl.key)
    rw [← setHead_cells] at hset
    obtain ⟨hgv1, hgv2⟩ := hkr.far gv rfl
    have hgK7 := (hap7 gK rfl).2
    have hgKx := (hapx gK rfl).2
    have oS : Only (fun j => j = gv) w7 (w7.setCell ⟨gv, 0, none⟩ (str kl.key)) := (Only.refl (fun j => j = gv) w7).put gv 0 rfl _
    have hbv : ¬ b = gv := fun e => hgv2 (.inl e.symm)
    have kx8 := kx7.only oS (fun j hj e => by have e2 : gK = j := Option.some.inj hj; have e3 : j = gv := e; omega)
    have hP8 : PagesAt (w7.setCell ⟨gv, 0, none⟩ (str kl.key)) b S2 := by
      obtain ⟨vL, vG, hI⟩ := hp7
      exact ⟨vL, vG, hI.beside oS (fun j q e => hgv2 (by have e3 : j = gv := e; exact e3 ▸ q))⟩
    have hsx := hSx.only.size
    have hS8 := (hSx.trans st7).fresh hpw oS (fun j e => by have e3 : j = gv := e; omega)
    have HC2 := Lib.hid (CloneK_is _ kids _ kx8.row (by omega))
    have hs7 := st7.only.size
    have hw8s : (w7.setCell ⟨gv, 0, none⟩ (str kl.key)).heap.size = w7.heap.size := by simp [World.setCell]
    have hgv7 := (hkr.own.lt gv rfl).2
    have HZ := Lib.hid (And.intro hset (And.intro hP8 hS8))
    have hw2 : IntKind.i64.wrap ((m : Int) + 2) = (m : Int) + 2 := by exact IntWalk.i64_in _ (by omega)
    have hwlen := hwl.2
    have HWL := Lib.hid (And.intro hwlen hcf)
    clear hPx hSx hapx kx kx7 hap7 hkr hset oS kx8 hP8 hS8 hp7 st7 hwl hwlen hcf k0 k1 HTC
    go_wp2_with fail
    (with_reducible refine HC2.out.mono ?_)
    rintro e w9 ⟨v9, rfl, own9, o9, new9⟩
    rw [hw8s] at new9
    obtain ⟨hset, hP8, hS8⟩ := HZ.out
    have hrl := Replace_less v9 (.slice (some ⟨gv, 0, none⟩) (k0w :: wr).length cv) kids (setHead kl.key (k0w :: wr)) m (m + 2) w9 (by omega) (by omega) (by omega) (by have e1 := HWL.out; rw [setHead_length]; omega) (fun j hj e => by have e2 : gv = j := Option.some.inj e; have := new9 j hj; omega) own9 (by rw [setHead_length]; exact own_only hset o9 (fun _ _ => id)) (by omega)
    have ec : ((m + 2 : Nat) : Int) = (m : Int) + 2 := by omega
    rw [ec, List.length_cons] at hrl
    have HRL := Lib.hid hrl
    have HO9 := Lib.hid (And.intro o9 (And.intro new9 own9))
    clear hset hP8 hS8 hrl o9 new9 own9 HC2 ec
    go_wp2_with fail
    (with_reducible refine HRL.out.mono ?_)
    rintro e wa ⟨va, rfl, owna, oa, ba⟩
    have HA := Lib.hid (And.intro owna (And.intro oa ba))
    clear owna oa ba HRL
    go_wp2_with fail
    go_ret2
    obtain ⟨owna, oa, ba⟩ := HA.out
    obtain ⟨o9, new9, own9⟩ := HO9.out
    obtain ⟨_, hP8, hS8⟩ := HZ.out
    have hb8 : b < (w7.setCell ⟨gv, 0, none⟩ (str kl.key)).heap.size := hP8.lt
    have hP9 := hP8.still o9
    have hp9 : ∀ j, pown w9 b j → j < w7.heap.size := fun j q => by
      have := pown_lt hP8 ((pown_of_heap (o9.block b hb8 id) j).1 q)
      omega
    have hbn : ¬ v9.ownBlock = some b := fun q => by have := new9 b q; omega
    have hPa : PagesAt wa b S2 := by
      obtain ⟨vL, vG, hI⟩ := hP9
      exact ⟨vL, vG, hI.beside oa (fun j q e => by have := new9 j e; have := hp9 j q; omega)⟩
    refine ⟨va, rfl, ⟨owna, fun j hj => ?_⟩, hPa, (hS8.trans (PStep.still hb8 o9)).fresh hpw oa (fun j e => by have := new9 j e; omega)⟩
    rw [ba] at hj
    have h9 := new9 j hj
    refine ⟨by omega, fun q => ?_⟩
    have := hp9 j ((pown_of_heap (oa.block b hP9.lt hbn) j).1 q)
    omega
end
end Go.Proofs.YtbhiamcmiopnoaaGreatDoor
