/- Package tree over the law's pages: the item of a key. Conditions: one goroutine; the pages hold the tree. -/
import Derived.Test.YtbhiamcmiopnoaaGreatDoorZTreeC
import Derived.Test.YtbhiamcmiopnoaaGreatDoorZPlainD
import Derived.Test.YtbhiamcmiopnoaaGreatDoorZTree11
import Derived.Deep.RegionWith
namespace Go.Proofs.YtbhiamcmiopnoaaGreatDoor
section
open Go.RowKit
def itemOr (o : Option Item) : Value := match o with | some x => itemV x | none => .agg #[str [], str [], .int .i64 0]
def GetEnds (w : World) (b : Nat) (S : PSt) (l : List Item) (key : Bytes) : Ending → World → Prop := fun e w' => e = .returned (.tuple #[itemOr (findItem l key), .bool (findItem l key).isSome, .int .i64 0]) ∧ PagesAt w' b S ∧ PStep b w w'
set_option maxRecDepth 100000 in
set_option maxHeartbeats 8000000 in
theorem tGet_is (w : World) (b : Nat) (S : PSt) (root : Int) (l : List Item) (ids : List Int) (key : Bytes) (h : PagesAt w b S) (R : Rooted S.L root l ids) (hs : S.stop < 0) (hl : l.length < 2 ^ 11) :
    Calls Tryz.prog 99 #[pagesV b, .int .i64 root, str key] w (GetEnds w b S l key) := by
  have hnil := pages_nil b
  have hfew : S.L.length ≤ 3998 := by
    obtain ⟨vL, vG, hI⟩ := h
    exact hI.few
  have hR0 := heap_alloc_new w (.cells #[str [], str [], .int .i64 0] 131)
  have o0 := (Only.refl (fun _ => False) w).alloc (.cells #[str [], str [], .int .i64 0] 131)
  cases R with
  | none =>
    have hn0 : ¬ pown (w.alloc (.cells #[str [], str [], .int .i64 0] 131)) b w.heap.size := fun q => by
      have := pown_lt h ((pown_of_heap (o0.block b h.lt (fun q => q)) _).1 q); omega
    have c0 := heap_cell hR0 0
    have c1 := heap_cell hR0 1
    have c2 := heap_cell hR0 2
    have z0 := heap_frozen hR0 0
    have z1 := heap_frozen hR0 1
    have z2 := heap_frozen hR0 2
    simp only [List.getElem?_toArray, List.getElem?_cons_zero, List.getElem?_cons_succ] at c0 c1 c2
    have HP := Lib.hid (And.intro h (And.intro hR0 (And.intro o0 hn0)))
    clear hR0 o0 hn0
    unfold pagesV at hnil ⊢
    go_enter Tryz.func99, Tryz.ntmps99
    go_wp2_with fail
    refine wp_loop_rounds 1 ?_
    rw [rounds_succ]
    go_wp2_with fail
    obtain ⟨h, hR0, o0, _⟩ := HP.out
    have q0 := heap_cell hR0 0
    have q1 := heap_cell hR0 1
    have q2 := heap_cell hR0 2
    simp only [List.getElem?_toArray, List.getElem?_cons_zero, List.getElem?_cons_succ] at q0 q1 q2
    exact bodyPost_ret (v := .tuple #[.agg #[str [], str [], .int .i64 0], .bool false, .int .i64 0]) (by simp [results, Tryz.results99, go_sem, q0, q1, q2]) rfl ⟨rfl, h.still o0, PStep.still h.lt o0⟩
  | some n _ bb _ _ T =>
    have hmany := T.many
    have hn : n < 11 := by
      apply Classical.byContradiction
      intro q
      have := Nat.pow_le_pow_right (n := 2) (by omega) (Nat.le_of_not_lt q)
      omega
    have hpw := h.lt
    have HB := Lib.hid (Blk.new h #[str [], str [], .int .i64 0] 131)
    have HP := Lib.hid (And.intro (h.still o0) (PStep.still h.lt o0))
    have HT := Lib.hid T
    clear h T hl hmany hR0 o0
    unfold pagesV at hnil ⊢
    go_enter Tryz.func99, Tryz.ntmps99
    go_wp2_with fail
    go_loopg [9, 10] n (fun gh iv dv wr => ∃ (d k : Nat) (id : Int) (b' : Bytes) (l' : List Item) (ids' : List Int), gh = k ∧ d + k = n ∧ dv = .int .i64 ((d : Int) + 1) ∧ iv = .int .i64 id ∧ Tree S.L k id b' l' ids' ∧ findItem l key = findItem l' key ∧ Blk wr b w.heap.size (.cells #[str [], str [], .int .i64 0] 131) ∧ PagesAt wr b S ∧ PStep b w wr)
    case atStart => exact ⟨0, n, root, _, _, _, rfl, by omega, rfl, rfl, HT.out, rfl, HB.out, HP.out⟩
    case round =>
      obtain ⟨d, k, id, b', l', ids', rfl, hdk, rfl, rfl, hT, hfi, hbk, hp, hst⟩ := hrel
      have hw1 : IntKind.i64.wrap ((d : Int) + 1 + 1) = (d : Int) + 1 + 1 := by exact IntWalk.i64_in _ (by omega)
      clear HB HP HT
      have HFI := Lib.hid hfi
      clear hfi
      cases hT with
      | leaf _ _ hnd ne ok =>
        have hid := nodeAt_lt hnd
        have hid0 : ¬ id = 0 := by omega
        have hri := (rightL_iff _).1 ok.1
        have hlen := ok.2.2
        have HLD := Lib.hid (tload_leaf wr b S id ((d : Int) + 1) l' hp hs hnd (by omega) (by omega))
        have HS := Lib.hid (And.intro hst hbk)
        clear hp hst hbk hnd ok
        unfold pagesV at HLD
        go_wp2_with fail
        refine HLD.out.mono ?_
        rintro e w1 ⟨v1, rfl, hrow, hap, hp1, st1⟩
        obtain ⟨a1, n1, c1, rfl⟩ := capOk_form hrow.cap
        obtain rfl := (show n1 = l'.length by cases hrow.row with | none => rfl | some => rfl)
        have o2 := (Only.refl (fun _ => False) w1).alloc (.cells #[.int .i64 id, .bool true, .slice a1 l'.length c1, .slice none 0 0] 207)
        have hrow2 := row_only hrow.row o2 (fun _ _ => fun q => q)
        have HFN := Lib.hid (Find_is _ l' key _ hrow2 hri.2 (by omega))
        have HBN := Lib.hid (Blk.new hp1 #[.int .i64 id, .bool true, .slice a1 l'.length c1, .slice none 0 0] 207)
        have HX := Lib.hid (And.intro (hp1.still o2) (And.intro ((HS.out.1.trans st1).trans (PStep.still hp1.lt o2)) (And.intro ((HS.out.2.step st1).still hp1.lt o2) (row_only hrow.row o2 (fun _ _ => fun q => q)))))
        clear hrow hap hp1 st1 o2 hrow2 HLD
        go_wp2_with fail
        refine HFN.out.mono ?_
        rintro e w3 ⟨rfl, o3⟩
        obtain ⟨hp2, hs2, hb2, hr2⟩ := HX.out
        have hb3 := hb2.still hp2.lt o3
        have hp3 := hp2.still o3
        have hs3 := hs2.trans (PStep.still hp2.lt o3)
        have hr3 := row_only hr2 o3 (fun _ _ => fun q => q)
        have n2 := heap_cell (HBN.out.still hp2.lt o3).1 2
        have c0 := heap_cell hb3.1 0
        have c1' := heap_cell hb3.1 1
        have c2 := heap_cell hb3.1 2
        have z0 := heap_frozen hb3.1 0
        have z1 := heap_frozen hb3.1 1
        have z2 := heap_frozen hb3.1 2
        simp only [List.getElem?_toArray, List.getElem?_cons_zero, List.getElem?_cons_succ] at c0 c1' c2 n2
        have hfa := findItem_at l' key
        have hrl : w.heap.size ≤ w.heap.size := Nat.le_refl _
        have fin : ∀ (x0 x1 x2 : Value), PagesAt (three w3 w.heap.size x0 x1 x2) b S ∧ PStep b w (three w3 w.heap.size x0 x1 x2) ∧ (three w3 w.heap.size x0 x1 x2).heap[w.heap.size]? = some (.cells #[x0, x1, x2] 131 (0, 0)) := fun x0 x1 x2 => by
          have ho := three_only w3 w.heap.size x0 x1 x2
          obtain ⟨vL, vG, hI⟩ := hp3
          exact ⟨⟨vL, vG, hI.beside ho (fun j q e => hb3.2 (e ▸ q))⟩, hs3.fresh hpw ho (fun j e => by have e2 : j = w.heap.size := e; omega), three_heap hb3.1 _ _ _⟩
        have HFIN := Lib.hid fin
        have HFA := Lib.hid hfa
        cases hat : isAt l' key with
        | true =>
          have hk : findAt l' key < l'.length := by
            unfold isAt at hat
            apply Classical.byContradiction
            intro q
            rw [List.getElem?_eq_none (by omega)] at hat
            cases hat
          obtain ⟨x, hx⟩ : ∃ x, l'[findAt l' key]? = some x := ⟨_, List.getElem?_eq_getElem hk⟩
          have hfx : findItem l key = some x := by rw [HFI.out, hfa, hat, if_pos rfl, hx]
          obtain ⟨g, off, rfl, i0, i1, i2⟩ := row_item hr3 hx
          have HFX := Lib.hid hfx
          have hk2 : ((findAt l' key : Nat) : Int) < (l'.length : Int) := by omega
          generalize findAt l' key = p at *
          clear hfa hfx hat fin hp2 hs2 hb2 hr2 hb3 hp3 hs3 hr3 o3 HFN HX hx HFA
          go_wp2_with fail
          obtain ⟨f1, f2, f3⟩ := HFIN.out (str x.key) (str x.val) (.int .i64 x.kind)
          unfold three at f1 f2 f3
          have q0 := heap_cell f3 0
          have q1 := heap_cell f3 1
          have q2 := heap_cell f3 2
          simp only [List.getElem?_toArray, List.getElem?_cons_zero, List.getElem?_cons_succ] at q0 q1 q2
          exact bodyPost_ret (v := .tuple #[.agg #[str x.key, str x.val, .int .i64 x.kind], .bool true, .int .i64 0]) (by simp [results, Tryz.results99, go_sem, q0, q1, q2]) rfl ⟨by rw [HFX.out]; rfl, f1, f2⟩
        | false =>
          have hfx : findItem l key = none := by rw [HFI.out, hfa, hat]; rfl
          have HFX := Lib.hid hfx
          clear hfa hfx hat fin hp2 hs2 hb2 hr2 hb3 hp3 hs3 hr3 o3 HFN HX HFA
          go_wp2_with fail
          obtain ⟨f1, f2, f3⟩ := HFIN.out (.string ⟨#[]⟩) (.string ⟨#[]⟩) (.int .i64 0)
          unfold three at f1 f2 f3
          have q0 := heap_cell f3 0
          have q1 := heap_cell f3 1
          have q2 := heap_cell f3 2
          simp only [List.getElem?_toArray, List.getElem?_cons_zero, List.getElem?_cons_succ] at q0 q1 q2
          exact bodyPost_ret (v := .tuple #[.agg #[str [], str [], .int .i64 0], .bool false, .int .i64 0]) (by simp [results, Tryz.results99, go_sem, q0, q1, q2]) rfl ⟨by rw [HFX.out]; rfl, f1, f2⟩
      | twig k _ ts hnd two ok sub bd nd =>
        have hid := nodeAt_lt hnd
        have hid0 : ¬ id = 0 := by omega
        have hri := (rightL_iff _).1 ok.1
        have hlen := ok.2.2
        have hne : ts ≠ [] := by intro q; subst q; simp at two
        obtain ⟨t, ht, hkid, hff⟩ := findItem_twig (key := key) ok.1 sub bd hne
        have hsub := sub t ht
        have hkl := (List.getElem?_eq_some_iff.1 hkid).1
        have HLD := Lib.hid (tload_twig wr b S id ((d : Int) + 1) (ts.map Sprout.kid) hp hs hnd (by omega) (by omega))
        have HS := Lib.hid (And.intro hst (And.intro hbk (And.intro hsub hff)))
        have hnek : ts.map Sprout.kid ≠ [] := by simpa using hne
        clear hp hst hbk hnd ok sub bd nd hsub hff two ht
        generalize ts.map Sprout.kid = kk at *
        unfold pagesV at HLD
        go_wp2_with fail
        refine HLD.out.mono ?_
        rintro e w1 ⟨v1, rfl, hrow, hap, hp1, st1⟩
        obtain ⟨a1, n1, c1, rfl⟩ := capOk_form hrow.cap
        obtain rfl := (show n1 = kk.length by cases hrow.row with | none => rfl | some => rfl)
        have o2 := (Only.refl (fun _ => False) w1).alloc (.cells #[.int .i64 id, .bool false, .slice none 0 0, .slice a1 kk.length c1] 207)
        have hrow2 := row_only hrow.row o2 (fun _ _ => fun q => q)
        obtain ⟨g, off, rfl, _, k1⟩ := row_kid hrow2 hkid
        have HV : Hid (∀ p : Grew (w1.alloc (.cells #[.int .i64 id, .bool false, .slice none 0 0, .slice (some ⟨g, off, none⟩) kk.length c1] 207)), Calls Tryz.prog 147 #[.slice (some ⟨g, off, none⟩) kk.length c1, str key] p.u fun e w' => e = .returned (.int .i64 (findK kk key : Nat)) ∧ Only (fun _ => False) p.u w') := Lib.hid (fun p => TFind_is _ kk key _ (row_only hrow2 p.h (fun _ _ => fun q => q)) hnek hri.2 (by omega))
        have hX := heap_alloc_new w1 (.cells #[.int .i64 id, .bool false, .slice none 0 0, .slice (some ⟨g, off, none⟩) kk.length c1] 207)
        have q3 : ∀ p : Grew (w1.alloc (.cells #[.int .i64 id, .bool false, .slice none 0 0, .slice (some ⟨g, off, none⟩) kk.length c1] 207)), p.u.cell? ⟨w1.heap.size, 3, none⟩ = some (.slice (some ⟨g, off, none⟩) kk.length c1) := fun p => p.cell (by rw [heap_cell hX]; rfl)
        have qk : ∀ p : Grew (w1.alloc (.cells #[.int .i64 id, .bool false, .slice none 0 0, .slice (some ⟨g, off, none⟩) kk.length c1] 207)), p.u.cell? ⟨g, off + findK kk key * 2 + 1, none⟩ = some (.int .i64 t.kid.page) := fun p => p.cell k1
        have HX := Lib.hid (And.intro (hp1.still o2) (And.intro ((HS.out.1.trans st1).trans (PStep.still hp1.lt o2)) ((HS.out.2.1.step st1).still hp1.lt o2)))
        have hkl2 : ((findK kk key : Nat) : Int) < (kk.length : Int) := by omega
        have hk0 : (0 : Int) ≤ ((findK kk key : Nat) : Int) := by omega
        generalize hfk : findK kk key = p0 at *
        generalize hnV : kk.length = nV at *
        clear hrow hap hp1 st1 o2 hrow2 HLD hX k1 hkid hnV hfk
        go_wp2_with fail
        refine wp_region_grew (by kernel_rfl) (by kernel_rfl) (fun _W h0 h1 => ?_)
        repeat (refine h1 _ _ _ (fun K hK => ?_); go_simp; first | (refine hK _ ?_; clear hK K) | (apply Exists.intro; refine ⟨fun _ => ?_, hK _ ?_⟩; (refine Grew.calls _ (HV.out _)); clear hK K))
        refine h0 _ (fun p => ?_)
        clear h0 h1 q3 qk
        go_wp2_with fail
        go_roundg k
        case measure => omega
        case rel =>
          obtain ⟨hp2, hs2, hb2⟩ := HX.out
          exact ⟨d + 1, k, t.kid.page, _, _, _, rfl, by omega, by go_num, rfl, HS.out.2.2.1, by rw [HFI.out, HS.out.2.2.2], hb2.still hp2.lt p.h, hp2.still p.h, hs2.trans (PStep.still hp2.lt p.h)⟩
end
section
open Go.RowKit
theorem tdel_is (key : Bytes) (f : Nat) : DelDoes key f := by
  induction f with
  | zero => intro n S S2 id b0 l ids depth r w b T hf; omega
  | succ f ih =>
    intro n S S2 id b0 l ids depth r w b T hf hd0 hd hs hL hg h hk
    cases n with
    | zero =>
      cases T with
      | leaf _ _ hn ne ok => exact tdel_leaf key f S S2 id l depth r w b hn ok (by omega) hs (by omega) (by omega) h hk
    | succ n => exact tdel_twig key f ih n S S2 id b0 l ids depth r w b T (by omega) hd0 hd hs hL (by omega) h hk
set_option maxRecDepth 100000 in
set_option maxHeartbeats 4000000 in
theorem tDelete_is (w : World) (b : Nat) (S S2 : PSt) (root root' : Int) (l : List Item) (ids : List Int) (key : Bytes) (fnd : Bool) (m : Nat) (h : PagesAt w b S) (R : Rooted S.L root l ids) (hs : S.stop < 0) (hm : l.length < 2 ^ m) (hm2 : m ≤ 11) (hL : S.L.length + 4 + 2 * m ≤ 3998) (hg : S.given.length + 60 < 1000000)
    (hk : delTree S root key = (.ok (root', fnd), S2)) :
    Calls Tryz.prog 144 #[pagesV b, .int .i64 root, str key] w fun e w' => e = .returned (.tuple #[.int .i64 root', .bool fnd, .int .i64 0]) ∧ PagesAt w' b S2 ∧ PStep b w w' := by
  have hnil := pages_nil b
  unfold delTree at hk
  cases R with
  | none =>
    rw [if_pos rfl] at hk
    cases hk
    unfold pagesV at hnil ⊢
    go_enter Tryz.func144, Tryz.ntmps144
    go_wp2_with fail
    go_ret3
    exact ⟨rfl, h, PStep.refl b w⟩
  | some n _ bb _ _ T =>
    have hself := T.there _ T.self
    have hmany := T.many
    have hn : n < m := by
      apply Classical.byContradiction
      intro q
      have := Nat.pow_le_pow_right (n := 2) (by omega) (Nat.le_of_not_lt q)
      omega
    have hr0 : ¬ root = 0 := by omega
    rw [if_neg hr0] at hk
    have hgd := delP_given key 13 S root 1
    have hD := fun r p1 hq => tdel_is key 13 n S p1 root bb l ids 1 r w b T (by omega) (by omega) (by omega) hs (by omega) (by omega) h hq
    unfold DelEnds at hD
    rcases delP_is key n S root bb l ids 1 13 T (by omega) (by omega) hs (by omega) with ⟨i1, i2⟩ | ⟨i1, ts, p1, thin, i2, i3, M, i5, i6⟩
    · have HD := Lib.hid (hD _ _ i2)
      rw [i2] at hk
      simp only [Bool.false_eq_true, if_false] at hk
      cases hk
      clear hD i2 hgd h T
      unfold pagesV at hnil HD ⊢
      go_enter Tryz.func144, Tryz.ntmps144
      go_wp2_with fail
      refine HD.out.mono ?_
      rintro e w1 ⟨V, rfl, hkr, hp1, st1⟩
      obtain ⟨aV, cV, rfl⟩ := ownsRow_form hkr.own
      simp only [List.length_nil]
      have o2 := (Only.refl (fun _ => False) w1).alloc (.cells #[.slice aV 0 cV, .bool false, .bool false] 248)
      have hX := heap_alloc_new w1 (.cells #[.slice aV 0 cV, .bool false, .bool false] 248)
      have f2 := heap_cell hX 2
      simp only [List.getElem?_toArray, List.getElem?_cons_zero, List.getElem?_cons_succ] at f2
      have HX := Lib.hid (And.intro (hp1.still o2) (st1.trans (PStep.still hp1.lt o2)))
      clear hX o2 hkr hp1 st1 HD
      go_wp2_with fail
      go_ret3
      exact ⟨rfl, HX.out⟩
    · have HD := Lib.hid (hD _ _ i2)
      rw [i2] at hk hgd
      simp only [if_true] at hk hgd
      obtain ⟨rr, htop, rfl, rfl⟩ : ∃ rr, topP 20 p1 (ts.map Sprout.kid) = (.ok rr, S2) ∧ root' = rr ∧ fnd = true := by
        cases ht : topP 20 p1 (ts.map Sprout.kid) with
        | mk q p2 =>
          rw [ht] at hk
          cases q with
          | error e => cases hk
          | ok rr => cases hk; exact ⟨_, rfl, rfl, rfl⟩
      have hF : rightL (ts.map Sprout.kid) = true ∧ (ts.map Sprout.kid).length ≤ 3 := by
        rw [List.length_map]
        rcases i6 with ⟨_, W, hw2, _⟩ | ⟨_, k, o, _, rfl, O, _⟩
        · exact ⟨W.ok, by omega⟩
        · exact ⟨O.ok, by simp⟩
      have hfew := M.few
      have HF := Lib.hid (And.intro hF htop)
      generalize ts.map Sprout.kid = kk at *
      clear hD i2 T h i3 M i5 i6 hk hF htop
      unfold pagesV at hnil HD ⊢
      go_enter Tryz.func144, Tryz.ntmps144
      go_wp2_with fail
      refine HD.out.mono ?_
      rintro e w1 ⟨V, rfl, hkr, hp1, st1⟩
      obtain ⟨aV, cV, rfl⟩ := ownsRow_form hkr.own
      simp only
      generalize hnV : kk.length = nV at *
      have o2 := (Only.refl (fun _ => False) w1).alloc (.cells #[.slice aV nV cV, .bool thin, .bool true] 248)
      have hX := heap_alloc_new w1 (.cells #[.slice aV nV cV, .bool thin, .bool true] 248)
      have f0 := heap_cell hX 0
      have f2 := heap_cell hX 2
      simp only [List.getElem?_toArray, List.getElem?_cons_zero, List.getElem?_cons_succ] at f0 f2
      have hrow := (hkr.row).only o2 (fun _ _ => id)
      have HT := Lib.hid (ttop_is _ b p1 S2 kk (.slice aV nV cV) _ (hp1.still o2) hrow HF.out.1.1 (by rw [hnV]; exact HF.out.1.2) (by omega) (by omega) HF.out.2)
      have HX := Lib.hid (st1.trans (PStep.still hp1.lt o2))
      clear hX o2 hkr hp1 st1 HD hrow hnV
      unfold pagesV at HT
      go_wp2_with fail
      refine HT.out.mono ?_
      rintro e w2 ⟨rfl, hp2, st2⟩
      have HY := Lib.hid (And.intro hp2 (HX.out.trans st2))
      clear hp2 st2 HT
      go_wp2_with fail
      go_ret3
      exact ⟨rfl, HY.out⟩
end
end Go.Proofs.YtbhiamcmiopnoaaGreatDoor
