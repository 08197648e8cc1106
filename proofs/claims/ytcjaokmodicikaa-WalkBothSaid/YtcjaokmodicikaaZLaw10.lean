/- WalkBoth: forwards and backwards all items come, each once; sought each is found. Conditions: one goroutine; the arguments lie in memory. -/
import Derived.Test.YtcjaokmodicikaaZLaw9
import Derived.Test.YtcjaokmodicikaaZLaw6
import Derived.StillTailTactics
namespace Go.Proofs.Ytcjaokmodicikaa
open Go.RowKit

theorem take_next {l : List Item} {n : Nat} {y : Item} (h : l[n]? = some y) : (l.take (n + 1)).flatMap itemC = (l.take n).flatMap itemC ++ [str y.key, str y.val, .int .i64 y.kind] := by
  have hn := (List.getElem?_eq_some_iff.1 h)
  rw [List.take_succ_eq_append_getElem hn.1, List.flatMap_append, hn.2]
  rfl

theorem wpStill_want {P : Program} {ops : Array Oper} {w : World} {Q : Act → Prop} {a : Act} {o : Oper} {rest : List Oper} (hw : Region.wanted o (yielded ops a.tmps) = true) (h : ∀ K : Act → Prop, (∀ a, wpStill P ops w Q rest a → K a) → o.still P a w K) : wpStill P ops w Q (o :: rest) a := by
  refine wpStill_step (fun K hK => ?_)
  rw [if_pos hw]
  exact h K hK
theorem findAt_at {l : List Item} (hr : Rising l) {i : Nat} {y : Item} (h : l[i]? = some y) : findAt l y.key = i := by
  have h1 := lt_findAt hr y.key i y h
  have h2 : ¬ i < findAt l y.key := fun q => List.lt_irrefl _ (h1.1 q)
  have h3 := findAt_le l y.key
  apply Classical.byContradiction
  intro q
  have hlt : findAt l y.key < i := by omega
  have hi := (List.getElem?_eq_some_iff.1 h).1
  obtain ⟨z, hz⟩ : ∃ z, l[findAt l y.key]? = some z := ⟨_, List.getElem?_eq_getElem (by omega)⟩
  have h4 := lt_findAt hr y.key _ z hz
  have h5 : ¬ Keyed.key z < y.key := fun q2 => by have := h4.2 q2; omega
  have hz2 := List.getElem?_eq_some_iff.1 hz
  have hy2 := List.getElem?_eq_some_iff.1 h
  have := (List.pairwise_iff_getElem.1 hr) _ _ hz2.1 hy2.1 hlt
  rw [hz2.2, hy2.2] at this
  exact h5 this

set_option maxRecDepth 100000 in
set_option maxHeartbeats 40000000 in
theorem Both_is (w : World) (a : Option Addr) (len cap : Nat) (l : List Item) (h : IsItems w a len cap l) :
    Calls Try.prog 5 #[.slice a len cap] w fun e w' => e = .returned (.bool true) ∧ Only (fun _ => False) w w' := by
  obtain ⟨i0, hi0, hz0, hz1, hz2⟩ := info_parts itemInfo
  obtain ⟨rfl, hrow, hlt, hfew, hshort, hkinds⟩ := h
  have HL := Lib.hid (Light_is w _ l hrow hfew hshort)
  have HAL := Lib.hid alive_is
  have HR := Lib.hid (And.intro hrow hlt)
  clear hrow hlt hshort hkinds
  go_enter Try.func5, Try.ntmps5
  go_wp2_with fail
  refine HL.out.mono ?_
  rintro e w1 ⟨bl, rfl, hbl, o1⟩
  have HO1 := Lib.hid o1
  have HBL := Lib.hid hbl
  clear hbl o1
  cases bl with
  | false =>
    go_wp2_with fail
    refine (HAL.out w1).mono ?_
    rintro e w2 ⟨rfl, o2⟩
    go_wp2_with fail
    go_ret
    exact ⟨rfl, HO1.out.trans o2 (fun _ _ q => q)⟩
  | true =>
    have hl150 : l.length ≤ 150 := HBL.out rfl
    go_wp2_with fail
    refine (HAL.out w1).mono ?_
    rintro e w2 ⟨rfl, o2⟩
    have HMD := Lib.hid (Made_is w2 _ l (row_only HR.out.1 (HO1.out.trans o2 (fun _ _ q => q)) (fun _ _ => id)) (fun j hj => Nat.lt_of_lt_of_le (HR.out.2 j hj) (HO1.out.trans o2 (fun _ _ q => q)).size) hl150)
    have HO2 := Lib.hid (HO1.out.trans o2 (fun _ _ q => q))
    clear o2
    go_wp2_with fail
    refine HMD.out.mono ?_
    rintro e w3 ⟨b, root, vh, S, rfl, hP, hT, _, hRR, hA, ho3, hb3⟩
    have hG := hT.grown hl150
    obtain ⟨ah, nh, ch, rfl⟩ := capOk_form hRR.cap
    obtain rfl := row_n hRR.row
    have HON := Lib.hid (goes_on w3 b S root (madeL l) hP)
    have hml := madeL_length l
    have hmr := madeL_right l
    generalize madeL l = have_ at *
    have HX := Lib.hid (And.intro hP (And.intro hG (And.intro hRR (And.intro hA (And.intro ho3 hb3)))))
    have HRIS := Lib.hid ((rightL_iff _).1 hmr).2
    clear hP hG hRR hA ho3 hb3 hT hmr
    unfold pagesV at HON
    go_wp2_with fail
    refine HON.out.mono ?_
    rintro e w4 ⟨rfl, hc4, hs4, ho4⟩
    have hHold : Hold w w4 w3.heap.size b S root have_ (.slice ah have_.length ch) ⟨S, root, [], 0⟩ (fun k => k = w3.heap.size) none := by
      obtain ⟨hP, hG, hRR, hA, ho3, hb3⟩ := HX.out
      have hp : ∀ j, pown w4 b j ↔ pown w3 b j := fun j => pown_of_heap (ho4.block b hP.lt id) j
      have hs2 := HO2.out.size
      have hs3 := ho3.size
      refine ⟨hc4, hs4, (HO2.out.trans ho3 (fun _ _ q => q)).trans ho4 (fun _ _ q => q), fun j e => by omega, fun j q => by have := hb3 j ((hp j).1 q); omega, hRR.only ho4 (fun _ _ => id), fun j hj => ?_⟩
      obtain ⟨_, h2, h3⟩ := hA j hj
      exact ⟨Nat.lt_of_lt_of_le h2 ho4.size, by omega, fun q => h3 ((hp j).1 q)⟩
    have HG := Lib.hid HX.out.2.1
    have HHOLD := Lib.hid hHold
    have HON2 := Lib.hid (goes_on w4 b S root have_ hHold.cur.pages)
    have hx12 : w3.heap.size < w4.heap.size := hHold.cur.lt.2
    clear hc4 hs4 ho4 hHold HX HMD
    generalize w3.heap.size = x at *
    unfold pagesV at HON2
    go_wp2_with fail
    refine HON2.out.mono ?_
    rintro e w5 ⟨rfl, hc5, hs5, ho5⟩
    have hTwo : Two w w5 x w4.heap.size b S root have_ (.slice ah have_.length ch) ⟨S, root, [], 0⟩ (fun k => k = x) none ⟨S, root, [], 0⟩ (fun k => k = w4.heap.size) none := by
      have h1 := HHOLD.out.still ho5
      refine ⟨h1, ⟨hc5, hs5, h1.only, fun j e => by have := HHOLD.out.only.size; omega, h1.fP, h1.row, fun j hj => ⟨(h1.apart j hj).1, fun e => by have := (HHOLD.out.apart j hj).1; omega, (h1.apart j hj).2.2⟩⟩, fun j e1 e2 => by omega⟩
    have HTWO := Lib.hid hTwo
    clear hc5 hs5 ho5 hTwo HHOLD HON2 hx12
    generalize w4.heap.size = x2 at *
    obtain ⟨c2, hc2⟩ : ∃ c2 : Cur, c2 = ⟨S, root, [], 0⟩ := ⟨_, rfl⟩
    obtain ⟨F2, hF2⟩ : ∃ F2 : Nat → Prop, F2 = (fun k => k = x2) := ⟨_, rfl⟩
    rw [← hc2, ← hF2] at HTWO
    have HBASE : Hid (Two w w5 x x2 b S root have_ (.slice ah have_.length ch) c2 (fun k => k = x) none c2 F2 none ∧ RowBy w w5 b (fun k => k = x) F2 (.slice ah have_.length ch) (.slice none 0 0) []) := Lib.hid ⟨HTWO.out, RowBy.none⟩
    clear HTWO hc2 hF2

    have hfi := hold_first HG.out HBASE.out.1.one
    have HFI := Lib.hid hfi
    clear hfi
    unfold HGoes at HFI
    go_wp2_with fail
    refine HFI.out.mono ?_
    rintro e w6 ⟨rfl, c1', F1', hH6, st6⟩
    have HST : Hid ((∀ kk, fstOf have_ = some kk → kk = 0) ∧ (fstOf have_ = none → 0 = have_.length) ∧ Two w w6 x x2 b S root have_ (.slice ah have_.length ch) c1' F1' (fstOf have_) c2 F2 none ∧ RowBy w w6 b F1' F2 (.slice ah have_.length ch) (.slice none 0 0) (have_.take 0) ∧ RowBy w w6 b F1' F2 (.slice ah have_.length ch) (.slice none 0 0) [] ∧ ∀ j, (.slice none 0 0 : Value).ownBlock = some j → (.slice none 0 0 : Value).ownBlock ≠ some j) := Lib.hid ⟨(fun kk e => by unfold fstOf at e; split at e; cases e; rfl; cases e), (fun e => by unfold fstOf at e; split at e; cases e; omega), HBASE.out.1.step hH6 st6, RowBy.none, HBASE.out.2.step st6, fun j hj => by cases hj⟩
    clear HFI hH6 st6
    go_wp2_with fail
    go_loopg [8, 10] (have_.length + 1) (fun gh tv kv wr => ∃ (n : Nat) (k : Option Nat) (c1 : Cur) (F1 : Nat → Prop), gh + n = have_.length + 1 ∧ kv = .bool k.isSome ∧ (∀ kk, k = some kk → kk = n) ∧ (k = none → n = have_.length) ∧ Two w wr x x2 b S root have_ (.slice ah have_.length ch) c1 F1 (k) c2 F2 none ∧ RowBy w wr b F1 F2 (.slice ah have_.length ch) (tv) (have_.take n) ∧ RowBy w wr b F1 F2 (.slice ah have_.length ch) (.slice none 0 0) [] ∧ ∀ j, (tv : Value).ownBlock = some j → (.slice none 0 0 : Value).ownBlock ≠ some j)
    case atStart => exact ⟨0, _, _, _, by omega, rfl, HST.out⟩
    case round =>
      obtain ⟨n, k, c1, F1, hgn, rfl, hinv⟩ := hrel
      have HINV := Lib.hid hinv
      clear hinv HST HBASE
      cases k with
      | some kk =>
        have hks : (some kk : Option Nat).isSome = true := rfl
        as_aux_lemma =>
          have hpl : kk = n := HINV.out.1 kk rfl
          have hlt : kk < have_.length := HINV.out.2.2.1.one.sits.lt
          have hnl : n < have_.length := by omega
          have hle : (n : Int) ≤ (have_.length : Int) := by omega
          have hlt2 : (have_.take n).length = n := by rw [List.length_take]; omega
          have hlt3 : (have_.take (n + 1)).length = n + 1 := by rw [List.length_take]; omega
          obtain ⟨aT, nT, cT, rfl⟩ : ∃ aT nT cT, u8 = .slice aT nT cT := by
            obtain ⟨aT, cT, e⟩ := ownsRow_form HINV.out.2.2.2.1.own
            exact ⟨aT, _, cT, e⟩
          obtain rfl : n = nT := by
            obtain ⟨aT', cT', e⟩ := ownsRow_form HINV.out.2.2.2.1.own
            rw [hlt2] at e
            injection e with e1 e2 e3
            exact e2.symm
          have HL2 := Lib.hid (And.intro hlt2 hlt3)
          clear hlt2 hlt3
          obtain ⟨y, hy⟩ : ∃ y, have_[kk]? = some y := ⟨_, List.getElem?_eq_getElem hlt⟩
          have hy2 : have_[n]? = some y := by rw [← hpl]; exact hy
          have hit := goes_item wr x b c1 F1 (some kk) HINV.out.2.2.1.one.cur HINV.out.2.2.1.one.sits
          rw [itemAt_some hy] at hit
          have HIT := Lib.hid hit
          have HY := Lib.hid (And.intro hpl hy2)
          have HNL := Lib.hid hnl
          clear hit hy hy2 hpl hlt hnl
          unfold str at HIT
          try simp only [Option.isSome_some]
          go_wp2_with fail
          refine HIT.out.mono ?_
          rintro e w8 ⟨rfl, o8⟩
          obtain ⟨_, _, t8, r8, m8, d8⟩ := HINV.out
          have hb8 : b < wr.heap.size := t8.one.cur.lt.1
          have r8 := r8.later hb8 o8 id (fun _ _ => id)
          have m8 := m8.later hb8 o8 id (fun _ _ => id)
          have t8 := t8.still o8
          have hb8 : b < w8.heap.size := t8.one.cur.lt.1
          have hown : ∀ W, Only (fun _ => False) w8 W → W.ownsRow 0 35 3 (.slice aT n cT) n ((have_.take n).flatMap itemC) := fun W hW => by
            have := (r8.later hb8 hW id (fun _ _ => id)).own
            rwa [HL2.out.1] at this
          have HOWN := Lib.hid hown
          have H8 := Lib.hid (And.intro t8 (And.intro r8 (And.intro m8 d8)))
          clear t8 r8 m8 d8 hown HIT o8
          have hn8 := heap_alloc_new w8 (.cells #[str y.key, str y.val, .int .i64 y.kind] 35)
          have q0 : (w8.alloc (.cells #[str y.key, str y.val, .int .i64 y.kind] 35)).cell? ⟨w8.heap.size, 0, none⟩ = some (str y.key) := by rw [heap_cell hn8]; rfl
          have q1 : (w8.alloc (.cells #[str y.key, str y.val, .int .i64 y.kind] 35)).cell? ⟨w8.heap.size, 1, none⟩ = some (str y.val) := by rw [heap_cell hn8]; rfl
          have q2 : (w8.alloc (.cells #[str y.key, str y.val, .int .i64 y.kind] 35)).cell? ⟨w8.heap.size, 2, none⟩ = some (.int .i64 y.kind) := by rw [heap_cell hn8]; rfl
          clear hn8
          go_wp2_with (at_builtin; refine wpList_append_moved _ rfl _ _ 22 rfl 35 i0 _ 3 40 Try.underlying22 hi0 hz0 hz1 hz2 rfl (by decide) (.slice aT n cT) n ((have_.take n).flatMap itemC) rfl (HOWN.out _ (((Only.refl _ w8).alloc _).alloc _)) ⟨w8.heap.size + 1, 0, none⟩ 1 1 [str y.key, str y.val, .int .i64 y.kind] rfl rfl (by have := cells_new (w8.alloc (.cells #[str y.key, str y.val, .int .i64 y.kind] 35)) [str y.key, str y.val, .int .i64 y.kind] 35 (0, 0); simpa using this) (by simp [Value.oneCell', str]) (by unfold maxLen; omega) (by omega) ?_; intro a' c' wx hown2 hgr hmv; have HAP := Lib.hid (And.intro hown2 (And.intro hgr hmv)); clear hown2 hgr hmv)
          obtain ⟨hown2, hgr, hmv⟩ := HAP.out
          obtain ⟨t8, r8, m8, d8⟩ := H8.out
          have o9 : Only (fun _ => False) w8 ((w8.alloc (.cells #[str y.key, str y.val, .int .i64 y.kind] 35)).alloc (.cells #[str y.key, str y.val, .int .i64 y.kind] 35)) := ((Only.refl _ w8).alloc _).alloc _
          have oT := (Only.refl (fun j => (Value.slice aT n cT).ownBlock = some j) ((w8.alloc (.cells #[str y.key, str y.val, .int .i64 y.kind] 35)).alloc (.cells #[str y.key, str y.val, .int .i64 y.kind] 35))).grown hgr (fun k _ e => e)
          have t9 := t8.still o9
          have r9 := r8.later hb8 o9 id (fun _ _ => id)
          have m9 := m8.later hb8 o9 id (fun _ _ => id)
          have hb9 := t9.one.cur.lt.1
          have hbt : ¬ (Value.slice aT n cT).ownBlock = some b := fun q => (r8.far b q).np (.inl rfl)
          have t10 := t9.aside oT (fun j q => (r9.far j q).lo) (fun j hj q => (r9.far j q).n1 hj) (fun j hj q => (r9.far j q).n2 hj) (fun j hj q => (r9.far j q).np hj) (fun j hj q => (r9.far j q).nr hj)
          have m10 := m9.later hb9 oT hbt (fun j hj q => d8 j q hj)
          have r10 : RowBy w wx b F1 F2 (.slice ah have_.length ch) (.slice a' (n + 1) c') (have_.take (n + 1)) := ⟨by rw [take_next HY.out.2, HL2.out.2]; exact hown2, fun j hj => by
            rcases hmv j hj with q | q
            · exact (r9.far j q).later hb9 oT hbt
            · exact t9.new oT hbt q (hown2.lt j hj).2⟩
          have d10 : ∀ j, (Value.slice a' (n + 1) c').ownBlock = some j → (.slice none 0 0 : Value).ownBlock ≠ some j := fun j hj e => by
            rcases hmv j hj with q | q
            · exact d8 j q e
            · exact absurd (Nat.lt_of_lt_of_le (m9.far j e).hi q) (Nat.lt_irrefl _)
          have hnx := hold_next HG.out t10.one
          have HNX := Lib.hid hnx
          have HN := Lib.hid (And.intro t10 (And.intro r10 (And.intro m10 d10)))
          clear hnx t8 r8 m8 d8 o9 oT t9 r9 m9 t10 m10 r10 d10 hown2 hgr hmv H8 HAP hbt hb9 hb8 q0 q1 q2 HOWN
          unfold HGoes at HNX
          go_wp2_with fail
          refine HNX.out.mono ?_
          rintro e w9 ⟨rfl, c9, F9, hH9, st9⟩
          have H9 := Lib.hid (And.intro hH9 st9)
          clear hH9 st9 HNX
          go_wp2_with fail
          go_roundg (gk - 1)
          case measure => omega
          case rel =>
            obtain ⟨hH9, st9⟩ := H9.out
            obtain ⟨t10, r10, m10, d10⟩ := HN.out
            have hpl := HY.out.1
            have hnl := HNL.out
            refine ⟨n + 1, nxtOf have_ (some kk), c9, F9, by omega, by rw [hpl], fun kk' e => ?_, fun e => ?_, t10.step hH9 st9, r10.step st9, m10.step st9, d10⟩
            · unfold nxtOf at e
              simp only at e
              split at e
              · cases e; omega
              · cases e
            · unfold nxtOf at e
              simp only at e
              split at e
              · cases e
              · omega
      | none =>
        have hks : (none : Option Nat).isSome = false := rfl
        obtain rfl : n = have_.length := HINV.out.2.1 rfl
        obtain ⟨_, _, t, r, m, d⟩ := HINV.out
        rw [List.take_length] at r
        obtain ⟨aT, cT, rfl⟩ := ownsRow_form r.own
        obtain ⟨cA, FM, HBASE⟩ : ∃ (cA : Cur) (FM : Nat → Prop), Hid (Two w wr x2 x b S root have_ (.slice ah have_.length ch) c2 F2 none cA FM none ∧ RowBy w wr b F2 FM (.slice ah have_.length ch) (.slice aT have_.length cT) have_) := ⟨c1, F1, Lib.hid ⟨t.swap, r.swap⟩⟩
        clear t r m d HINV hgn c1 hks
        generalize wr = wo at *
        go_wp2_with fail

        have hfi := hold_last HG.out HBASE.out.1.one
        have HFI := Lib.hid hfi
        clear hfi
        unfold HGoes at HFI
        go_wp2_with fail
        refine HFI.out.mono ?_
        rintro e w6 ⟨rfl, c1', F1', hH6, st6⟩
        have HST : Hid ((∀ kk, lstOf have_ = some kk → kk + 0 + 1 = have_.length) ∧ (lstOf have_ = none → 0 = have_.length) ∧ Two w w6 x2 x b S root have_ (.slice ah have_.length ch) c1' F1' (lstOf have_) cA FM none ∧ RowBy w w6 b F1' FM (.slice ah have_.length ch) (.slice none 0 0) (have_.reverse.take 0) ∧ RowBy w w6 b F1' FM (.slice ah have_.length ch) (.slice aT have_.length cT) have_ ∧ ∀ j, (.slice none 0 0 : Value).ownBlock = some j → (.slice aT have_.length cT : Value).ownBlock ≠ some j) := Lib.hid ⟨(fun kk e => by unfold lstOf at e; split at e; cases e; omega; cases e), (fun e => by unfold lstOf at e; split at e; cases e; omega), HBASE.out.1.step hH6 st6, RowBy.none, HBASE.out.2.step st6, fun j hj => by cases hj⟩
        clear HFI hH6 st6
        go_wp2_with fail
        go_loopg [9, 13] (have_.length + 1) (fun gh tv kv wr => ∃ (n : Nat) (k : Option Nat) (c2 : Cur) (F2 : Nat → Prop), gh + n = have_.length + 1 ∧ kv = .bool k.isSome ∧ (∀ kk, k = some kk → kk + n + 1 = have_.length) ∧ (k = none → n = have_.length) ∧ Two w wr x2 x b S root have_ (.slice ah have_.length ch) c2 F2 (k) cA FM none ∧ RowBy w wr b F2 FM (.slice ah have_.length ch) (tv) (have_.reverse.take n) ∧ RowBy w wr b F2 FM (.slice ah have_.length ch) (.slice aT have_.length cT) have_ ∧ ∀ j, (tv : Value).ownBlock = some j → (.slice aT have_.length cT : Value).ownBlock ≠ some j)
        case atStart => exact ⟨0, _, _, _, by omega, rfl, HST.out⟩
        case round =>
          obtain ⟨n, k, c2, F2, hgn, rfl, hinv⟩ := hrel
          have HINV := Lib.hid hinv
          clear hinv HST HBASE
          cases k with
          | some kk =>
            have hks : (some kk : Option Nat).isSome = true := rfl
            as_aux_lemma =>
              have hpl : kk + n + 1 = have_.length := HINV.out.1 kk rfl
              have hlt : kk < have_.length := HINV.out.2.2.1.one.sits.lt
              have hnl : n < have_.length := by omega
              have hle : (n : Int) ≤ (have_.length : Int) := by omega
              have hlt2 : (have_.reverse.take n).length = n := by rw [List.length_take, List.length_reverse]; omega
              have hlt3 : (have_.reverse.take (n + 1)).length = n + 1 := by rw [List.length_take, List.length_reverse]; omega
              obtain ⟨aU, nU, cU, rfl⟩ : ∃ aU nU cU, u9 = .slice aU nU cU := by
                obtain ⟨aU, cU, e⟩ := ownsRow_form HINV.out.2.2.2.1.own
                exact ⟨aU, _, cU, e⟩
              obtain rfl : n = nU := by
                obtain ⟨aU', cU', e⟩ := ownsRow_form HINV.out.2.2.2.1.own
                rw [hlt2] at e
                injection e with e1 e2 e3
                exact e2.symm
              have HL2 := Lib.hid (And.intro hlt2 hlt3)
              clear hlt2 hlt3
              obtain ⟨y, hy⟩ : ∃ y, have_[kk]? = some y := ⟨_, List.getElem?_eq_getElem hlt⟩
              have hy2 : have_.reverse[n]? = some y := by rw [List.getElem?_reverse hnl, show have_.length - 1 - n = kk by omega]; exact hy
              have hit := goes_item wr x2 b c2 F2 (some kk) HINV.out.2.2.1.one.cur HINV.out.2.2.1.one.sits
              rw [itemAt_some hy] at hit
              have HIT := Lib.hid hit
              have HY := Lib.hid (And.intro hpl hy2)
              have HNL := Lib.hid hnl
              clear hit hy hy2 hpl hlt hnl
              unfold str at HIT
              try simp only [Option.isSome_some]
              go_wp2_with fail
              refine HIT.out.mono ?_
              rintro e w8 ⟨rfl, o8⟩
              obtain ⟨_, _, t8, r8, m8, d8⟩ := HINV.out
              have hb8 : b < wr.heap.size := t8.one.cur.lt.1
              have r8 := r8.later hb8 o8 id (fun _ _ => id)
              have m8 := m8.later hb8 o8 id (fun _ _ => id)
              have t8 := t8.still o8
              have hb8 : b < w8.heap.size := t8.one.cur.lt.1
              have hown : ∀ W, Only (fun _ => False) w8 W → W.ownsRow 0 35 3 (.slice aU n cU) n ((have_.reverse.take n).flatMap itemC) := fun W hW => by
                have := (r8.later hb8 hW id (fun _ _ => id)).own
                rwa [HL2.out.1] at this
              have HOWN := Lib.hid hown
              have H8 := Lib.hid (And.intro t8 (And.intro r8 (And.intro m8 d8)))
              clear t8 r8 m8 d8 hown HIT o8
              have hn8 := heap_alloc_new w8 (.cells #[str y.key, str y.val, .int .i64 y.kind] 35)
              have q0 : (w8.alloc (.cells #[str y.key, str y.val, .int .i64 y.kind] 35)).cell? ⟨w8.heap.size, 0, none⟩ = some (str y.key) := by rw [heap_cell hn8]; rfl
              have q1 : (w8.alloc (.cells #[str y.key, str y.val, .int .i64 y.kind] 35)).cell? ⟨w8.heap.size, 1, none⟩ = some (str y.val) := by rw [heap_cell hn8]; rfl
              have q2 : (w8.alloc (.cells #[str y.key, str y.val, .int .i64 y.kind] 35)).cell? ⟨w8.heap.size, 2, none⟩ = some (.int .i64 y.kind) := by rw [heap_cell hn8]; rfl
              clear hn8
              go_wp2_with (at_builtin; refine wpList_append_moved _ rfl _ _ 22 rfl 35 i0 _ 3 40 Try.underlying22 hi0 hz0 hz1 hz2 rfl (by decide) (.slice aU n cU) n ((have_.reverse.take n).flatMap itemC) rfl (HOWN.out _ (((Only.refl _ w8).alloc _).alloc _)) ⟨w8.heap.size + 1, 0, none⟩ 1 1 [str y.key, str y.val, .int .i64 y.kind] rfl rfl (by have := cells_new (w8.alloc (.cells #[str y.key, str y.val, .int .i64 y.kind] 35)) [str y.key, str y.val, .int .i64 y.kind] 35 (0, 0); simpa using this) (by simp [Value.oneCell', str]) (by unfold maxLen; omega) (by omega) ?_; intro a' c' wx hown2 hgr hmv; have HAP := Lib.hid (And.intro hown2 (And.intro hgr hmv)); clear hown2 hgr hmv)
              obtain ⟨hown2, hgr, hmv⟩ := HAP.out
              obtain ⟨t8, r8, m8, d8⟩ := H8.out
              have o9 : Only (fun _ => False) w8 ((w8.alloc (.cells #[str y.key, str y.val, .int .i64 y.kind] 35)).alloc (.cells #[str y.key, str y.val, .int .i64 y.kind] 35)) := ((Only.refl _ w8).alloc _).alloc _
              have oT := (Only.refl (fun j => (Value.slice aU n cU).ownBlock = some j) ((w8.alloc (.cells #[str y.key, str y.val, .int .i64 y.kind] 35)).alloc (.cells #[str y.key, str y.val, .int .i64 y.kind] 35))).grown hgr (fun k _ e => e)
              have t9 := t8.still o9
              have r9 := r8.later hb8 o9 id (fun _ _ => id)
              have m9 := m8.later hb8 o9 id (fun _ _ => id)
              have hb9 := t9.one.cur.lt.1
              have hbt : ¬ (Value.slice aU n cU).ownBlock = some b := fun q => (r8.far b q).np (.inl rfl)
              have t10 := t9.aside oT (fun j q => (r9.far j q).lo) (fun j hj q => (r9.far j q).n1 hj) (fun j hj q => (r9.far j q).n2 hj) (fun j hj q => (r9.far j q).np hj) (fun j hj q => (r9.far j q).nr hj)
              have m10 := m9.later hb9 oT hbt (fun j hj q => d8 j q hj)
              have r10 : RowBy w wx b F2 FM (.slice ah have_.length ch) (.slice a' (n + 1) c') (have_.reverse.take (n + 1)) := ⟨by rw [take_next HY.out.2, HL2.out.2]; exact hown2, fun j hj => by
                rcases hmv j hj with q | q
                · exact (r9.far j q).later hb9 oT hbt
                · exact t9.new oT hbt q (hown2.lt j hj).2⟩
              have d10 : ∀ j, (Value.slice a' (n + 1) c').ownBlock = some j → (.slice aT have_.length cT : Value).ownBlock ≠ some j := fun j hj e => by
                rcases hmv j hj with q | q
                · exact d8 j q e
                · exact absurd (Nat.lt_of_lt_of_le (m9.far j e).hi q) (Nat.lt_irrefl _)
              have hnx := hold_back HG.out t10.one
              have HNX := Lib.hid hnx
              have HN := Lib.hid (And.intro t10 (And.intro r10 (And.intro m10 d10)))
              clear hnx t8 r8 m8 d8 o9 oT t9 r9 m9 t10 m10 r10 d10 hown2 hgr hmv H8 HAP hbt hb9 hb8 q0 q1 q2 HOWN
              unfold HGoes at HNX
              go_wp2_with fail
              refine HNX.out.mono ?_
              rintro e w9 ⟨rfl, c9, F9, hH9, st9⟩
              have H9 := Lib.hid (And.intro hH9 st9)
              clear hH9 st9 HNX
              go_wp2_with fail
              go_roundg (gk - 1)
              case measure => omega
              case rel =>
                obtain ⟨hH9, st9⟩ := H9.out
                obtain ⟨t10, r10, m10, d10⟩ := HN.out
                have hpl := HY.out.1
                have hnl := HNL.out
                refine ⟨n + 1, prvOf (some kk), c9, F9, by omega, rfl, fun kk' e => ?_, fun e => ?_, t10.step hH9 st9, r10.step st9, m10.step st9, d10⟩
                · unfold prvOf at e
                  simp only at e
                  split at e
                  · cases e; omega
                  · cases e
                · unfold prvOf at e
                  simp only at e
                  split at e
                  · cases e
                  · omega
          | none =>
            have hks : (none : Option Nat).isSome = false := rfl
            obtain rfl : n = have_.length := HINV.out.2.1 rfl
            obtain ⟨_, _, t, r, m, d⟩ := HINV.out
            have hrl : have_.reverse.take have_.length = have_.reverse := by rw [← List.length_reverse, List.take_length]
            rw [hrl] at r
            obtain ⟨aU, nU, cU, rfl⟩ : ∃ aU nU cU, u9 = .slice aU nU cU := by
              obtain ⟨aU, cU, e⟩ := ownsRow_form r.own
              exact ⟨aU, _, cU, e⟩
            obtain rfl : nU = have_.length := by
              obtain ⟨aU', cU', e⟩ := ownsRow_form r.own
              injection e with e1 e2 e3
              rw [e2, List.length_reverse]
            obtain ⟨cM, FN, HBASE⟩ : ∃ (cM : Cur) (FN : Nat → Prop), Hid (Two w wr x x2 b S root have_ (.slice ah have_.length ch) cA FM none cM FN none ∧ RowBy w wr b FM FN (.slice ah have_.length ch) (.slice aT have_.length cT) have_ ∧ RowBy w wr b FM FN (.slice ah have_.length ch) (.slice aU have_.length cU) have_.reverse) := ⟨c2, F2, Lib.hid ⟨t.swap, m.swap, r.swap⟩⟩
            clear t r m d HINV hgn hrl hks
            generalize wr = wo2 at *
            go_wp2_with fail
            go_loopg [16] have_.length (fun gh iv wr => ∃ (i : Nat) (k : Option Nat) (c : Cur) (F : Nat → Prop), gh + i = have_.length ∧ iv = .int .i64 i ∧ Two w wr x x2 b S root have_ (.slice ah have_.length ch) c F k cM FN none ∧ RowBy w wr b F FN (.slice ah have_.length ch) (.slice aT have_.length cT) have_ ∧ RowBy w wr b F FN (.slice ah have_.length ch) (.slice aU have_.length cU) have_.reverse)
            case atStart => exact ⟨0, none, cA, FM, by omega, rfl, HBASE.out⟩
            case round =>
              obtain ⟨i, k, c, F, hgi, rfl, hinv⟩ := hrel
              have HINV := Lib.hid hinv
              clear hinv HBASE
              by_cases hi : i < have_.length
              · have hi2 : (i : Int) < (have_.length : Int) := by omega
                as_aux_lemma =>
                  obtain ⟨y, hy⟩ : ∃ y, have_[i]? = some y := ⟨_, List.getElem?_eq_getElem hi⟩
                  obtain ⟨t, r, m⟩ := HINV.out
                  obtain ⟨gh_, offh, rfl, y0, y1, y2⟩ := row_item t.one.row.row hy
                  have hT : ∃ gT, aT = some ⟨gT, 0, none⟩ := by
                    rcases own_addr r.own with ⟨_, q, _⟩ | q
                    · omega
                    · exact q
                  obtain ⟨gT, rfl⟩ := hT
                  have hU : ∃ gU, aU = some ⟨gU, 0, none⟩ := by
                    have hm := m.own
                    rw [List.length_reverse] at hm
                    rcases own_addr hm with ⟨_, q, _⟩ | q
                    · omega
                    · exact q
                  obtain ⟨gU, rfl⟩ := hU
                  obtain ⟨_, _, he, t0, t1, t2⟩ := row_item (row_own (enc := itemC) (k := 3) (fun _ => rfl) r.own) hy
                  cases he
                  have hmo := row_own (enc := itemC) (k := 3) (fun _ => rfl) m.own
                  have hrv : have_.reverse[have_.length - 1 - i]? = some y := by rw [List.getElem?_reverse (by omega), show have_.length - 1 - (have_.length - 1 - i) = i by omega]; exact hy
                  obtain ⟨p, hp⟩ : ∃ p, p = have_.length - 1 - i := ⟨_, rfl⟩
                  rw [← hp] at hrv
                  obtain ⟨_, _, he, b0, b1, b2⟩ := row_item hmo hrv
                  cases he
                  simp only [Nat.zero_add] at t0 t1 t2 b0 b1 b2
                  have hwa : IntKind.i64.wrap ((have_.length : Int) - 1) = (have_.length : Int) - 1 := by exact IntWalk.i64_in _ (by omega)
                  have hwb : IntKind.i64.wrap ((have_.length : Int) - 1 - (i : Int)) = (p : Int) := by rw [IntWalk.i64_in _ (by omega)]; omega
                  have hwc : IntKind.i64.wrap ((i : Int) + 1) = (i : Int) + 1 := by exact IntWalk.i64_in _ (by omega)
                  have hpl : p < have_.length := by omega
                  have hpl2 : (p : Int) < (have_.length : Int) := by omega
                  have hi0 : (0 : Int) ≤ (i : Int) := by omega
                  have hp0 : (0 : Int) ≤ (p : Int) := by omega
                  have hns := neq_same y.key y.val y.kind
                  have hfd := findAt_at HRIS.out hy
                  have hsk := hold_seek HG.out (t.still ((Only.refl (fun _ => False) wr).drew)).one y.key
                  have e1 : skOf have_ y.key = some i := by unfold skOf; rw [hfd, if_pos hi]
                  rw [e1] at hsk
                  have HSK := Lib.hid hsk
                  have HY := Lib.hid hy
                  clear t r m hy hp hrv hmo hsk e1 hfd
                  unfold HGoes at HSK
                  go_wp2_with fail
                  refine wp_region_still_tail 31 (by kernel_rfl) (by kernel_rfl) ?_
                  simp only [List.take_succ_cons, List.take_zero, List.drop_succ_cons, List.drop_zero]
                  repeat (refine wpStill_want (by kernel_rfl) (fun K hK => ?_); go_simp; refine hK _ ?_; clear hK K)
                  refine wpStill_nil ?_
                  change wpList _ _ _ _ _ wr.drew
                  go_wp2_with fail
                  refine HSK.out.mono ?_
                  rintro e w9 ⟨rfl, c9, F9, hH9, st9⟩
                  have H9 := Lib.hid (And.intro hH9 st9)
                  clear hH9 st9
                  all_goals
                    clear y0 y1 y2 t0 t1 t2 b0 b1 b2
                    obtain ⟨tn, rn, mn⟩ := HINV.out
                    have hdr : Only (fun _ => False) wr wr.drew := (Only.refl _ wr).drew
                    have hbw : b < wr.heap.size := tn.one.cur.lt.1
                    have tn := tn.still hdr
                    have rn := rn.later hbw hdr id (fun _ _ => id)
                    have mn := mn.later hbw hdr id (fun _ _ => id)
                    have tn2 := tn.step H9.out.1 H9.out.2
                    have rn2 := rn.step H9.out.2
                    have mn2 := mn.step H9.out.2
                    have hit := goes_item w9 x b c9 F9 (some i) tn2.one.cur tn2.one.sits
                    rw [itemAt_some HY.out] at hit
                    have HIT := Lib.hid hit
                    have HN := Lib.hid (And.intro tn2 (And.intro rn2 mn2))
                    clear tn rn mn tn2 rn2 mn2 hdr hbw hit H9 HINV HSK
                    unfold str at HIT
                    go_wp2_with fail
                    refine HIT.out.mono ?_
                    rintro e w10 ⟨rfl, o10⟩
                    obtain ⟨tn, rn, mn⟩ := HN.out
                    have oA : Only (fun _ => False) w9 (w10.alloc (.cells #[str y.key, str y.val, .int .i64 y.kind] 35)) := o10.alloc _
                    have hbw : b < w9.heap.size := tn.one.cur.lt.1
                    have tn := tn.still oA
                    have rn := rn.later hbw oA id (fun _ _ => id)
                    have mn := mn.later hbw oA id (fun _ _ => id)
                    obtain ⟨_, _, he, y0, y1, y2⟩ := row_item tn.one.row.row HY.out
                    cases he
                    have HM := Lib.hid (And.intro tn (And.intro rn mn))
                    clear tn rn mn hbw oA o10 HIT HN
                    have hn6 := heap_alloc_new w10 (.cells #[str y.key, str y.val, .int .i64 y.kind] 35)
                    have q0 : ∀ p : Grew (w10.alloc (.cells #[str y.key, str y.val, .int .i64 y.kind] 35)), p.u.cell? ⟨w10.heap.size, 0, none⟩ = some (str y.key) := fun p => p.cell (by rw [heap_cell hn6]; rfl)
                    have q1 : ∀ p : Grew (w10.alloc (.cells #[str y.key, str y.val, .int .i64 y.kind] 35)), p.u.cell? ⟨w10.heap.size, 1, none⟩ = some (str y.val) := fun p => p.cell (by rw [heap_cell hn6]; rfl)
                    have q2 : ∀ p : Grew (w10.alloc (.cells #[str y.key, str y.val, .int .i64 y.kind] 35)), p.u.cell? ⟨w10.heap.size, 2, none⟩ = some (.int .i64 y.kind) := fun p => p.cell (by rw [heap_cell hn6]; rfl)
                    have r0 : ∀ p : Grew (w10.alloc (.cells #[str y.key, str y.val, .int .i64 y.kind] 35)), p.u.cell? ⟨gh_, offh + i * 3, none⟩ = some (str y.key) := fun p => p.cell y0
                    have r1 : ∀ p : Grew (w10.alloc (.cells #[str y.key, str y.val, .int .i64 y.kind] 35)), p.u.cell? ⟨gh_, offh + i * 3 + 1, none⟩ = some (str y.val) := fun p => p.cell y1
                    have r2 : ∀ p : Grew (w10.alloc (.cells #[str y.key, str y.val, .int .i64 y.kind] 35)), p.u.cell? ⟨gh_, offh + i * 3 + 2, none⟩ = some (.int .i64 y.kind) := fun p => p.cell y2
                    clear y0 y1 y2 hn6
                    go_wp2_with fail
                    refine wp_region_grew (by kernel_rfl) (by kernel_rfl) (fun _W h0 h1 => ?_)
                    repeat (refine h1 _ _ _ (fun K hK => ?_); rw [if_pos (by kernel_rfl)]; go_simp; refine hK _ ?_; clear hK K)
                    refine h0 _ (fun pp => ?_)
                    clear h0 h1
                    go_wp2_with fail
                    go_roundg (gk - 1)
                    case measure => omega
                    case rel =>
                      obtain ⟨tn, rn, mn⟩ := HM.out
                      have hbw := tn.one.cur.lt.1
                      exact ⟨i + 1, some i, c9, F9, by omega, by go_num, tn.still pp.h, rn.later hbw pp.h id (fun _ _ => id), mn.later hbw pp.h id (fun _ _ => id)⟩
              · have hi2 : ¬ (i : Int) < (have_.length : Int) := by omega
                obtain ⟨t, r, m⟩ := HINV.out
                have HO := Lib.hid t.one.only
                clear t r m HINV
                go_wp2_with fail
                refine (Fresh_is wr).mono ?_
                rintro e wf ⟨rfl, hPf, hof, hpf⟩
                have hof2 := HO.out.trans hof (fun _ _ q => q)
                have HON := Lib.hid (goes_on wf wr.heap.size noPages 0 [] hPf)
                have HPF := Lib.hid (And.intro hPf (And.intro hof2 hpf))
                have hwo := HO.out.size
                clear hPf hof hpf hof2
                generalize wr.heap.size = b2 at *
                unfold pagesV at HON
                go_wp2_with fail
                refine HON.out.mono ?_
                rintro e wg ⟨rfl, hcg, hsg, hog⟩
                have hH : Hold w wg wf.heap.size b2 noPages 0 [] (.slice none 0 0) ⟨noPages, 0, [], 0⟩ (fun k => k = wf.heap.size) none := by
                  obtain ⟨hPf, hof2, hpf⟩ := HPF.out
                  have hs2 := hof2.size
                  exact ⟨hcg, hsg, hof2.trans hog (fun _ _ q => q), fun j e => by omega, fun j q => by have := hpf j ((pown_of_heap (hog.block b2 hPf.lt id) j).1 q); omega, ⟨.none, ⟨Nat.le_refl _, by decide⟩⟩, fun j hj => by cases hj⟩
                have hGE : Grown noPages 0 [] := ⟨⟨[], .none⟩, by decide, by decide, by decide⟩
                have hnx := hold_first hGE hH
                have HNX := Lib.hid hnx
                have HGE := Lib.hid hGE
                clear hnx hGE hH hcg hsg hog HON HPF
                generalize wf.heap.size = x3 at *
                have e1 : fstOf [] = none := rfl
                rw [e1] at HNX
                unfold HGoes at HNX
                go_wp2_with fail
                refine HNX.out.mono ?_
                rintro e wh ⟨rfl, c3, F3, H3, _⟩
                have hnx := hold_last HGE.out H3
                have e2 : lstOf [] = none := rfl
                rw [e2] at hnx
                have HNX := Lib.hid hnx
                clear hnx H3
                unfold HGoes at HNX
                go_wp2_with fail
                refine HNX.out.mono ?_
                rintro e wi ⟨rfl, c4, F4, H4, _⟩
                have hnx := hold_seek HGE.out H4 []
                have e3 : skOf [] [] = none := rfl
                rw [e3] at hnx
                have HNX := Lib.hid hnx
                clear hnx H4
                unfold HGoes str at HNX
                go_wp2_with fail
                refine HNX.out.mono ?_
                rintro e wj ⟨rfl, c5, F5, H5, _⟩
                have HER := Lib.hid (hold_err H5)
                have HO5 := Lib.hid H5.only
                clear H5
                go_wp2_with fail
                refine HER.out.mono ?_
                rintro e _ ⟨rfl, rfl⟩
                go_wp2_with fail
                go_ret
                exact ⟨rfl, HO5.out⟩
end Go.Proofs.Ytcjaokmodicikaa
