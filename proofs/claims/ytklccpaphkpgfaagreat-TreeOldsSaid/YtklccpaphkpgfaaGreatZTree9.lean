/- Package tree over the law's pages: a key is deleted in a leaf. Conditions: one goroutine; the page is there; there is room for the pages. -/
import Derived.Test.YtklccpaphkpgfaaGreatZTree7
import Derived.Test.YtklccpaphkpgfaaGreatZPlainC
import Derived.Test.YtklccpaphkpgfaaGreatZLeaf7
namespace Go.Proofs.YtklccpaphkpgfaaGreat
open Go.RowKit

/-- How a delete below a page ends. -/
def DelEnds (w : World) (b : Nat) (r : Rest) (S2 : PSt) : Ending → World → Prop := fun e w' => ∃ V, e = .returned (.tuple #[.agg #[V, .bool r.thin, .bool r.found], .int .i64 0]) ∧ KidRow w w' b V r.kids ∧ PagesAt w' b S2 ∧ PStep b w w'
/-- What a delete below a page does. -/
def DelDoes (key : Bytes) (f : Nat) : Prop := ∀ (n : Nat) (S S2 : PSt) (id : Int) (b0 : Bytes) (l : List Item) (ids : List Int) (depth : Int) (r : Rest) (w : World) (b : Nat), Tree S.L n id b0 l ids → n < f → 1 ≤ depth → depth + n ≤ 12 → S.stop < 0 → S.L.length + 3 + 2 * n ≤ 3998 → S.given.length + 2 * f < 1000000 → PagesAt w b S → delP f S id key depth = (.ok r, S2) →
    Calls Tryz.prog 106 #[pagesV b, .int .i64 id, str key, .int .i64 depth] w (DelEnds w b r S2)

/-- The result's cell is written. -/
def three (w : World) (B : Nat) (a b c : Value) : World := ((w.setCell ⟨B, 0, none⟩ a).setCell ⟨B, 1, none⟩ b).setCell ⟨B, 2, none⟩ c
theorem three_only (w : World) (B : Nat) (a b c : Value) : Only (fun k => k = B) w (three w B a b c) := (((Only.refl (fun k => k = B) w).put B 0 rfl a).put B 1 rfl b).put B 2 rfl c
theorem three_heap {w : World} {B : Nat} {x0 x1 x2 : Value} {t : TypeId} {f : Nat × Nat} (h : w.heap[B]? = some (.cells #[x0, x1, x2] t f)) (a b c : Value) : (three w B a b c).heap[B]? = some (.cells #[a, b, c] t f) := heap_setCell (heap_setCell (heap_setCell h 0 a) 1 b) 2 c
/-- A delete's end: its result is written into a block of its own. -/
theorem del_end {w w4 : World} {b R : Nat} {r : Rest} {S2 : PSt} {V : Value} {x0 x1 x2 : Value} {t : TypeId} (hb : b < w.heap.size) (hR : w4.heap[R]? = some (.cells #[x0, x1, x2] t (0, 0))) (hw : w.heap.size ≤ R) (hn : ¬ pown w4 b R) (hk : KidRow w w4 b V r.kids) (hV : V.ownBlock ≠ some R) (hp : PagesAt w4 b S2) (st : PStep b w w4) :
    KidRow w (three w4 R V (.bool r.thin) (.bool r.found)) b V r.kids ∧ PagesAt (three w4 R V (.bool r.thin) (.bool r.found)) b S2 ∧ PStep b w (three w4 R V (.bool r.thin) (.bool r.found)) ∧
      (three w4 R V (.bool r.thin) (.bool r.found)).heap[R]? = some (.cells #[V, .bool r.thin, .bool r.found] t (0, 0)) := by
  have ho := three_only w4 R V (.bool r.thin) (.bool r.found)
  have hbR : ¬ b = R := fun e => hn (.inl e.symm)
  refine ⟨⟨own_only hk.own ho (fun k q e => hV (e ▸ q)), fun j hj => ⟨(hk.far j hj).1, fun q => (hk.far j hj).2 ((pown_of_heap (ho.block b hp.lt hbR) j).1 q)⟩⟩, ?_, st.fresh hb ho (fun k e => by have e2 : k = R := e; omega), three_heap hR _ _ _⟩
  obtain ⟨vL, vG, hI⟩ := hp
  exact ⟨vL, vG, hI.beside ho (fun j q e => hn (e ▸ q))⟩

set_option maxRecDepth 100000 in
set_option maxHeartbeats 4000000 in
theorem tdel_leaf (key : Bytes) (f : Nat) (S S2 : PSt) (id : Int) (l : List Item) (depth : Int) (r : Rest) (w : World) (b : Nat) (hn : nodeAt S.L id = some (.leaf l)) (ok : okNode (.leaf l)) (hd : depth ≤ 12) (hs : S.stop < 0) (hL : S.L.length + 3 ≤ 3998) (hg : S.given.length + 1 < 1000000) (h : PagesAt w b S) (hk : delP (f + 1) S id key depth = (.ok r, S2)) :
    Calls Tryz.prog 106 #[pagesV b, .int .i64 id, str key, .int .i64 depth] w (DelEnds w b r S2) := by
  have hid := nodeAt_lt hn
  rw [delP, loadP_is hn (by omega) hs] at hk
  simp only at hk
  have hri := (rightL_iff _).1 ok.1
  have hsub := dropL_sub l key
  have hsz := sizeL_sub hsub
  have hpr := rightL_sub ok.1 hsub
  have hok2 := ok.2
  have hcf : (cutL (dropL l key).1).length ≤ 1 := by
    by_cases hne : (dropL l key).1 = []
    · rw [hne, cutL_nil]; simp
    · rw [cut_whole _ hne (by omega) (by have := hsub.length_le; omega)]; simp
  have hlen := hsub.length_le
  have oW := (Only.refl (fun _ => False) w).alloc (.cells #[.slice none 0 0, .bool false, .bool false] 174)
  have hLD := tload_leaf (w.alloc (.cells #[.slice none 0 0, .bool false, .bool false] 174)) b S id depth l (h.still oW) hs hn hd (by omega)
  have HLD := Lib.hid hLD
  have hpw := h.lt
  have hWs : (w.alloc (.cells #[.slice none 0 0, .bool false, .bool false] 174)).heap.size = w.heap.size + 1 := by simp
  have hRn : ¬ pown (w.alloc (.cells #[.slice none 0 0, .bool false, .bool false] 174)) b w.heap.size := fun q => by
    have := pown_lt h ((pown_of_heap (oW.block b h.lt (fun q => q)) _).1 q); omega
  have hR0 := heap_alloc_new w (.cells #[.slice none 0 0, .bool false, .bool false] 174)
  have HW0 := Lib.hid (PStep.still h.lt oW)
  have HK := Lib.hid hk
  have HPR := Lib.hid hpr
  clear hLD h hk hpr hsub
  unfold pagesV at HLD ⊢
  go_enter Tryz.func106, Tryz.ntmps106
  go_wp2_with fail
  refine HLD.out.mono ?_
  rintro e w1 ⟨v1, rfl, hrow, hap, hp1, st1⟩
  obtain ⟨a1, n1, c1, rfl⟩ := capOk_form hrow.cap
  have hR1 := (st1.only.block _ (by rw [hWs]; omega) hRn).trans hR0
  have hRn1 : ¬ pown w1 b w.heap.size := fun q => (st1.own _ q).elim hRn (by rw [hWs]; omega)
  have hs1 := st1.only.size
  rw [hWs] at hs1
  have o2 := (Only.refl (fun _ => False) w1).alloc (.cells #[.int .i64 id, .bool true, .slice a1 n1 c1, .slice none 0 0] 170)
  have hrow2 := row_only hrow.row o2 (fun _ _ => fun q => q)
  have HDP := Lib.hid (Drop_is _ l key _ hrow2 hri.2 (by omega))
  have HP1 := Lib.hid hp1
  have HS1 := Lib.hid (HW0.out.trans st1)
  have HO2 := Lib.hid o2
  have HR1 := Lib.hid (And.intro hR1 hRn1)
  clear hR1 hRn1 hR0 hRn hWs oW hrow hap hp1 st1 o2 hrow2 HLD HW0
  go_wp2_with fail
  refine HDP.out.mono ?_
  rintro e w3 ⟨v3, rfl, hrow3, o3, hnew3⟩
  have HO3 := Lib.hid (HO2.out.trans o3 (fun _ _ q => q))
  have hR3 := (HO3.out.block w.heap.size (by omega) (fun q => q)).trans HR1.out.1
  have hRn3 : ¬ pown w3 b w.heap.size := fun q => HR1.out.2 ((pown_of_heap (HO3.out.block b HP1.out.lt (fun q => q)) _).1 q)
  have hs3 := HO3.out.size
  cases hfd : (dropL l key).2 with
  | false =>
    have hkk := HK.out
    rw [hfd] at hkk
    simp only [Bool.false_eq_true, if_false] at hkk
    cases hkk
    have HE := Lib.hid (del_end (r := ⟨[], false, false⟩) (V := .slice none 0 0) hpw hR3 (Nat.le_refl _) hRn3 ⟨⟨rfl, .inl ⟨rfl, rfl⟩⟩, fun j hj => by cases hj⟩ (fun q => by cases q) (HP1.out.still HO3.out) (HS1.out.trans (PStep.still HP1.out.lt HO3.out)))
    have c0 := heap_cell hR3 0
    have c1' := heap_cell hR3 1
    have c2 := heap_cell hR3 2
    have z0 := heap_frozen hR3 0
    have z1 := heap_frozen hR3 1
    have z2 := heap_frozen hR3 2
    simp only [List.getElem?_toArray, List.getElem?_cons_zero, List.getElem?_cons_succ] at c0 c1' c2
    have HR3 := Lib.hid hR3
    clear hR3 hRn3 HO3 hrow3 o3 hnew3 HDP
    go_wp2_with fail
    obtain ⟨hkr, hp, st, hh⟩ := HE.out
    unfold three at hkr hp st hh
    have q0 := heap_cell hh 0
    have q1 := heap_cell hh 1
    have q2 := heap_cell hh 2
    simp only [List.getElem?_toArray, List.getElem?_cons_zero, List.getElem?_cons_succ] at q0 q1 q2
    exact bodyPost_ret (v := .tuple #[.agg #[.slice none 0 0, .bool false, .bool false], .int .i64 0]) (by simp [results, Tryz.results106, go_sem, q0, q1, q2]) rfl ⟨.slice none 0 0, rfl, hkr, hp, st⟩
  | true =>
    have hkk := HK.out
    rw [hfd] at hkk
    simp only [if_true] at hkk
    obtain ⟨ks, hl, rfl⟩ : ∃ ks, leavesP S id (dropL l key).1 = (.ok ks, S2) ∧ r = ⟨ks, false, true⟩ := by
      cases hl : leavesP S id (dropL l key).1 with
      | mk q p' =>
        rw [hl] at hkk
        cases q with
        | error e => cases hkk
        | ok ks => cases hkk; exact ⟨ks, rfl, rfl⟩
    have HLV := Lib.hid (tleaves_is w3 b S S2 id (dropL l key).1 ks v3 (HP1.out.still HO3.out) hrow3 HPR.out (by omega) (by omega) (by omega) hid.2 (by omega) hl)
    have HR3 := Lib.hid (And.intro hR3 hRn3)
    have HS3 := Lib.hid (HS1.out.trans (PStep.still HP1.out.lt HO3.out))
    clear hR3 hRn3 HO3 hrow3 o3 hnew3 HDP hkk hl HK
    unfold pagesV at HLV
    go_wp2_with fail
    refine HLV.out.mono ?_
    rintro e w4 ⟨V, rfl, hkr, hp4, st4⟩
    obtain ⟨aV, cV, rfl⟩ := ownsRow_form hkr.own
    have hR4 := (st4.only.block w.heap.size (by omega) HR3.out.2).trans HR3.out.1
    have hRn4 : ¬ pown w4 b w.heap.size := fun q => (st4.own _ q).elim HR3.out.2 (by omega)
    have HE := Lib.hid (del_end (r := ⟨ks, false, true⟩) hpw hR4 (Nat.le_refl _) hRn4 ⟨hkr.own, fun j hj => ⟨by have := (hkr.far j hj).1; omega, (hkr.far j hj).2⟩⟩ (fun q => by have := (hkr.far _ q).1; omega) hp4 (HS3.out.trans st4))
    have c0 := heap_cell hR4 0
    have c1' := heap_cell hR4 1
    have c2 := heap_cell hR4 2
    have z0 := heap_frozen hR4 0
    have z1 := heap_frozen hR4 1
    have z2 := heap_frozen hR4 2
    simp only [List.getElem?_toArray, List.getElem?_cons_zero, List.getElem?_cons_succ] at c0 c1' c2
    clear hR4 hRn4 hkr hp4 st4 HLV
    go_wp2_with fail
    obtain ⟨hkr, hp, st, hh⟩ := HE.out
    unfold three at hkr hp st hh
    have q0 := heap_cell hh 0
    have q1 := heap_cell hh 1
    have q2 := heap_cell hh 2
    simp only [List.getElem?_toArray, List.getElem?_cons_zero, List.getElem?_cons_succ] at q0 q1 q2
    exact bodyPost_ret (v := .tuple #[.agg #[.slice aV ks.length cV, .bool false, .bool true], .int .i64 0]) (by simp [results, Tryz.results106, go_sem, q0, q1, q2]) rfl ⟨_, rfl, hkr, hp, st⟩
end Go.Proofs.YtklccpaphkpgfaaGreat
