/- WalkSpoilt: a cursor over pages of which only so many are told; a nil one. Conditions: one goroutine; the arguments lie in memory. -/
import Derived.Test.YtcjaokmodicikaaZLaw7
import Derived.Test.YtcjaokmodicikaaZLaw6
namespace Go.Proofs.Ytcjaokmodicikaa
open Go.RowKit

/-- A cursor over pages that are a law's own, beside a list. -/
structure Keeps (w0 w : World) (x b : Nat) (l : List Item) (vh : Value) (c : Cur) (F : Nat → Prop) : Prop where
  cur : CurAt w x b c F
  only : Only (fun _ => False) w0 w
  fF : ∀ j, F j → w0.heap.size ≤ j
  fP : ∀ j, pown w b j → w0.heap.size ≤ j
  row : RowC itemC 3 w vh l
  apart : ∀ j, rowBlock vh = some j → j < w.heap.size ∧ ¬ F j ∧ ¬ pown w b j
section
variable {w0 w w' : World} {x b : Nat} {S : PSt} {root : Int} {l : List Item} {vh : Value} {c : Cur} {F : Nat → Prop}
theorem Keeps.still (H : Keeps w0 w x b l vh c F) (o : Only (fun _ => False) w w') : Keeps w0 w' x b l vh c F := by
  have hp : ∀ j, pown w' b j ↔ pown w b j := fun j => pown_of_heap (o.block b H.cur.lt.1 id) j
  exact ⟨H.cur.still o, H.only.trans o (fun _ _ q => q), H.fF, fun j q => H.fP j ((hp j).1 q), H.row.only o (fun _ _ => id), fun j hj => ⟨Nat.lt_of_lt_of_le (H.apart j hj).1 o.size, (H.apart j hj).2.1, fun q => (H.apart j hj).2.2 ((hp j).1 q)⟩⟩
theorem Keeps.step (H : Keeps w0 w x b l vh c F) {c' : Cur} {F' : Nat → Prop} (hc : CurAt w' x b c' F') (st : CStep b F F' w w') : Keeps w0 w' x b l vh c' F' := by
  have hsz := H.only.size
  refine ⟨hc, st.fresh H.only H.fF H.fP, st.freshF hsz H.fF, st.freshP hsz H.fP, H.row.only st.only fun j hj q => ?_, fun j hj => ⟨Nat.lt_of_lt_of_le (H.apart j hj).1 st.only.size, fun q => ?_, fun q => ?_⟩⟩
  · rcases q with q | q
    · exact (H.apart j hj).2.1 q
    · exact (H.apart j hj).2.2 q
  · rcases st.grow j q with q | q
    · exact (H.apart j hj).2.1 q
    · have := (H.apart j hj).1; omega
  · rcases st.own j q with q | q
    · exact (H.apart j hj).2.2 q
    · have := (H.apart j hj).1; omega
/-- How a call ends that moves a cursor whose pages are told, or not. -/
def KGoes (w0 : World) (x b : Nat) (S : PSt) (root : Int) (l : List Item) (vh : Value) (k : Option Nat) : Ending → World → Prop := fun e w' =>
  ∃ (r : Bool) (c' : Cur) (F' : Nat → Prop), e = .returned (.bool r) ∧ Keeps w0 w' x b l vh c' F' ∧ ((r = k.isSome ∧ Sits2 S root l c' k) ∨ (r = false ∧ Gone S root c'))
theorem keeps_first (G : Grown2 S root l) {k : Option Nat} (H : Keeps w0 w x b l vh c F) (s : Sits2 S root l c k) : Calls Try.prog 12 #[.pointer (some ⟨x, 0, none⟩)] w (KGoes w0 x b S root l vh (fstOf l)) :=
  (goes2_first G w x b c F k H.cur s).mono fun _ _ ⟨r, c', F', h1, h2, h3, h4⟩ => ⟨r, c', F', h1, H.step h2 h3, h4⟩
theorem keeps_next {k : Nat} (H : Keeps w0 w x b l vh c F) (s : Sits2 S root l c (some k)) : Calls Try.prog 15 #[.pointer (some ⟨x, 0, none⟩)] w (KGoes w0 x b S root l vh (nxtOf l (some k))) :=
  (goes2_next w x b c F k H.cur s).mono fun _ _ ⟨r, c', F', h1, h2, h3, h4⟩ => ⟨r, c', F', h1, H.step h2 h3, h4⟩
theorem keeps_item {k : Nat} (H : Keeps w0 w x b l vh c F) (s : Sits2 S root l c (some k)) :
    Calls Try.prog 17 #[.pointer (some ⟨x, 0, none⟩)] w fun e w' => e = .returned (.tuple #[itemAt l (some k), .bool true]) ∧ Keeps w0 w' x b l vh c F :=
  (goes2_item w x b c F k H.cur s).mono fun _ _ ⟨h1, h2⟩ => ⟨h1, H.still h2⟩
theorem keeps_none (H : Keeps w0 w x b l vh c F) (hs : c.stack = []) :
    Calls Try.prog 17 #[.pointer (some ⟨x, 0, none⟩)] w fun e w' => e = .returned (.tuple #[noItem, .bool false]) ∧ Keeps w0 w' x b l vh c F :=
  (wItem_none w x b c F H.cur hs).mono fun _ _ ⟨h1, h2⟩ => ⟨h1, H.still h2⟩
theorem keeps_err (H : Keeps w0 w x b l vh c F) : Calls Try.prog 18 #[.pointer (some ⟨x, 0, none⟩)] w fun e w' => e = .returned (.int .i64 c.e) ∧ w = w' := wErr_is w x b c F H.cur
/-- A cursor that has failed answers so. -/
def KStays (w0 : World) (x b : Nat) (l : List Item) (vh : Value) (c : Cur) : Ending → World → Prop := fun e w' => e = .returned (.bool false) ∧ ∃ F', Keeps w0 w' x b l vh c F'
theorem Stays.keeps (H : Keeps w0 w x b l vh c F) {f : FuncId} {args : Array Value} (h : Calls Try.prog f args w (Stays w x b c F)) : Calls Try.prog f args w (KStays w0 x b l vh c) :=
  h.mono fun _ _ ⟨F', h1, h2, h3⟩ => ⟨h1, F', H.step h2 h3⟩
end

set_option maxRecDepth 100000 in
set_option maxHeartbeats 40000000 in
theorem Spoilt_is (w : World) (a : Option Addr) (len cap : Nat) (l : List Item) (stop : Int) (key : Bytes) (h : IsItems w a len cap l) (hkey : key.length ≤ 9223372036854775807) :
    Calls Try.prog 4 #[.slice a len cap, .int .i64 stop, str key] w fun e w' => e = .returned (.bool true) ∧ Only (fun _ => False) w w' := by
  obtain ⟨rfl, hrow, hlt, hfew, hshort, hkinds⟩ := h
  have HL := Lib.hid (Light_is w _ l hrow hfew hshort)
  have HAL := Lib.hid alive_is
  have HR := Lib.hid (And.intro hrow hlt)
  clear hrow hlt hshort hkinds
  go_enter Try.func4, Try.ntmps4
  go_wp2_with fail
  refine HL.out.mono ?_
  rintro e w1 ⟨bl, rfl, hbl, o1⟩
  have HO1 := Lib.hid o1
  have HBL := Lib.hid hbl
  clear hbl o1
  by_cases hgood : bl = true ∧ 0 ≤ stop ∧ stop ≤ 60 ∧ key.length ≤ 60
  · obtain ⟨rfl, hs1, hs2, hkl⟩ := hgood
    have hs1' : ¬ stop < 0 := by omega
    have hs2' : ¬ stop > 60 := by omega
    have hkl' : ¬ (key.length : Int) > 60 := by omega
    have hl150 : l.length ≤ 150 := HBL.out rfl
    go_wp2_with fail
    refine (HAL.out w1).mono ?_
    rintro e w2 ⟨rfl, o2⟩
    have HO2 := Lib.hid (HO1.out.trans o2 (fun _ _ q => q))
    clear o2
    have hnil := nil_first w2
    unfold NilEnds at hnil
    go_wp2_with fail
    refine hnil.mono ?_
    rintro e w3 ⟨rfl, o3⟩
    have HO3 := Lib.hid (HO2.out.trans o3 (fun _ _ q => q))
    clear o3 hnil
    have hnil := nil_last w3
    unfold NilEnds at hnil
    go_wp2_with fail
    refine hnil.mono ?_
    rintro e w4 ⟨rfl, o4⟩
    have HO4 := Lib.hid (HO3.out.trans o4 (fun _ _ q => q))
    clear o4 hnil
    have hnil := nil_seek key w4
    unfold NilEnds at hnil
    go_wp2_with fail
    refine hnil.mono ?_
    rintro e w5 ⟨rfl, o5⟩
    have HO5 := Lib.hid (HO4.out.trans o5 (fun _ _ q => q))
    clear o5 hnil
    have hnil := nil_next w5
    unfold NilEnds at hnil
    go_wp2_with fail
    refine hnil.mono ?_
    rintro e w6 ⟨rfl, o6⟩
    have HO6 := Lib.hid (HO5.out.trans o6 (fun _ _ q => q))
    clear o6 hnil
    have hnil := nil_back w6
    unfold NilEnds at hnil
    go_wp2_with fail
    refine hnil.mono ?_
    rintro e w7 ⟨rfl, o7⟩
    have HO7 := Lib.hid (HO6.out.trans o7 (fun _ _ q => q))
    clear o7 hnil
    go_wp2_with fail
    refine (wErr_nil w7).mono ?_
    rintro e _ ⟨rfl, rfl⟩
    have hMD := Made_is w7 _ l (row_only HR.out.1 HO7.out (fun _ _ => id)) (fun j hj => Nat.lt_of_lt_of_le (HR.out.2 j hj) HO7.out.size) hl150
    have HMD := Lib.hid hMD
    clear hMD HO1 HO2 HO3 HO4 HO5 HO6
    go_wp2_with fail
    refine HMD.out.mono ?_
    rintro e w8 ⟨b, root, vh, S, rfl, hP, hT, _, hRR, hA, ho8, hb8⟩
    have hG := hT.grown hl150
    obtain ⟨ah, nh, ch, rfl⟩ := capOk_form hRR.cap
    obtain rfl := row_n hRR.row
    have hml := madeL_length l
    generalize madeL l = have_ at *
    obtain ⟨hP9, hp9⟩ := pages_stop hP stop (by omega)
    have hG2 : Grown2 { S with stop := stop } root have_ := ⟨hG.rooted, hG.few, hG.pages⟩
    have hon := goes_on (w8.setCell ⟨b, 5, none⟩ (.int .i64 stop)) b { S with stop := stop } root have_ hP9
    have hs9 : (w8.setCell ⟨b, 5, none⟩ (.int .i64 stop)).heap.size = w8.heap.size := by simp [World.setCell]
    rw [hs9] at hon
    have HON := Lib.hid hon
    obtain ⟨vL, vG, hPI⟩ := hP
    have c5 := heap_cell hPI.heap 5
    have z5 := heap_frozen hPI.heap 5
    simp only [List.getElem?_toArray, List.getElem?_cons_zero, List.getElem?_cons_succ] at c5
    have hP : PagesAt w8 b S := ⟨vL, vG, hPI⟩
    have HX := Lib.hid (And.intro hP (And.intro hG2 (And.intro hRR (And.intro hA (And.intro ho8 (And.intro hb8 hp9))))))
    clear hP hG hRR hA ho8 hb8 hT hP9 hp9 hon hPI hG2 HMD
    unfold pagesV at HON
    go_wp2_with fail
    refine HON.out.mono ?_
    rintro e wa ⟨rfl, hca, hsa, hoa⟩
    have hkeep : Keeps w wa w8.heap.size b have_ (.slice ah have_.length ch) ⟨{ S with stop := stop }, root, [], 0⟩ (fun k => k = w8.heap.size) := by
      obtain ⟨hP, hG2, hRR, hA, ho8, hb8, hp9⟩ := HX.out
      have oS := (Only.refl (fun k => k = b) w8).put b 5 rfl (.int .i64 stop)
      have hp : ∀ j, pown wa b j → pown w8 b j := fun j q => hp9 j ((pown_of_heap (hoa.block b (by rw [hs9]; exact hP.lt) id) j).1 q)
      have hs7 := HO7.out.size
      have hs8 := ho8.size
      have hbb := hb8 b (.inl rfl)
      refine ⟨hca, ((HO7.out.trans ho8 (fun _ _ q => q)).trans oS (fun i hi e => by have e2 : i = b := e; omega)).trans hoa (fun _ _ q => q), fun j e => by omega, fun j q => by have := hb8 j (hp j q); omega, (hRR.only oS (fun j hj e => (hA j hj).2.2 (by have e2 : j = b := e; exact e2 ▸ .inl rfl))).only hoa (fun _ _ => id), fun j hj => ?_⟩
      obtain ⟨_, h2, h3⟩ := hA j hj
      have := hoa.size
      exact ⟨by omega, by omega, fun q => h3 (hp j q)⟩
    have hsit : Sits2 { S with stop := stop } root have_ ⟨{ S with stop := stop }, root, [], 0⟩ none := ⟨rfl, hs1, rfl, rfl, rfl⟩
    have HG := Lib.hid HX.out.2.1
    have hfi := keeps_first HG.out hkeep hsit
    have HFI := Lib.hid hfi
    have hrange : -1000000 ≤ root ∧ root ≤ 1000000 := by
      obtain ⟨ids, hR2⟩ := HG.out.rooted
      exact rooted_range hR2 HG.out.pages
    clear hca hsa hoa hs9 hkeep hsit HX HON c5 z5 hfi
    generalize w8.heap.size = x at *
    generalize ({ S with stop := stop } : PSt) = S' at *
    unfold KGoes at HFI
    go_wp2_with fail
    refine HFI.out.mono ?_
    rintro e wb ⟨r, c, F, rfl, hK, hC⟩
    have HST : Hid (Keeps w wb x b have_ (.slice ah have_.length ch) c F ∧ ((r = true ∧ Sits2 S' root have_ c (some 0)) ∨ (r = false ∧ Sits2 S' root have_ c none ∧ 0 = have_.length) ∨ (r = false ∧ Gone S' root c ∧ 0 ≤ have_.length))) := Lib.hid (by
      refine ⟨hK, ?_⟩
      unfold fstOf at hC
      by_cases hl : 0 < have_.length
      · rw [if_pos hl] at hC
        exact hC.elim .inl fun q => .inr (.inr ⟨q.1, q.2, by omega⟩)
      · rw [if_neg hl] at hC
        exact .inr (hC.elim (fun q => .inl ⟨q.1, q.2, by omega⟩) fun q => .inr ⟨q.1, q.2, by omega⟩))
    clear hK hC HFI
    go_wp2_with fail
    go_loopg [12, 13] (have_.length + 1) (fun gh nv kv wr => ∃ (n : Nat) (r : Bool) (c : Cur) (F : Nat → Prop), gh + n = have_.length + 1 ∧ nv = .int .i64 n ∧ kv = .bool r ∧ Keeps w wr x b have_ (.slice ah have_.length ch) c F ∧ ((r = true ∧ Sits2 S' root have_ c (some n)) ∨ (r = false ∧ Sits2 S' root have_ c none ∧ n = have_.length) ∨ (r = false ∧ Gone S' root c ∧ n ≤ have_.length)))
    case atStart => exact ⟨0, r, c, F, by omega, rfl, rfl, HST.out⟩
    case round =>
      obtain ⟨n, r, c, F, hgn, rfl, rfl, hK, hC⟩ := hrel
      have HK := Lib.hid hK
      clear hK HST
      rcases hC with ⟨rfl, hS⟩ | ⟨rfl, hS, hn⟩ | ⟨rfl, hS, hn⟩
      · have hlt := hS.lt
        have hle : (n : Int) ≤ (have_.length : Int) := by omega
        have hge : ¬ (have_.length : Int) ≤ (n : Int) := by omega
        have hz0 : (0 : Int) ≤ (n : Int) := by omega
        have hw9 : IntKind.i64.wrap ((n : Int) + 1) = (n : Int) + 1 := by exact IntWalk.i64_in _ (by omega)
        obtain ⟨y, hy⟩ : ∃ y, have_[n]? = some y := ⟨_, List.getElem?_eq_getElem hlt⟩
        have hit := keeps_item HK.out hS
        rw [itemAt_some hy] at hit
        have HIT := Lib.hid hit
        have HS := Lib.hid hS
        clear hit hS
        unfold str at HIT
        go_wp2_with fail
        refine HIT.out.mono ?_
        rintro e w6 ⟨rfl, hK6⟩
        have HK7 := Lib.hid (hK6.still ((Only.refl (fun _ => False) w6).alloc (.cells #[str y.key, str y.val, .int .i64 y.kind] 35)))
        obtain ⟨gh_, offh, rfl, y0, y1, y2⟩ := row_item HK7.out.row.row hy
        have hn6 := heap_alloc_new w6 (.cells #[str y.key, str y.val, .int .i64 y.kind] 35)
        have q0 : ∀ p : Grew (w6.alloc (.cells #[str y.key, str y.val, .int .i64 y.kind] 35)), p.u.cell? ⟨w6.heap.size, 0, none⟩ = some (str y.key) := fun p => p.cell (by rw [heap_cell hn6]; rfl)
        have q1 : ∀ p : Grew (w6.alloc (.cells #[str y.key, str y.val, .int .i64 y.kind] 35)), p.u.cell? ⟨w6.heap.size, 1, none⟩ = some (str y.val) := fun p => p.cell (by rw [heap_cell hn6]; rfl)
        have q2 : ∀ p : Grew (w6.alloc (.cells #[str y.key, str y.val, .int .i64 y.kind] 35)), p.u.cell? ⟨w6.heap.size, 2, none⟩ = some (.int .i64 y.kind) := fun p => p.cell (by rw [heap_cell hn6]; rfl)
        have r0 : ∀ p : Grew (w6.alloc (.cells #[str y.key, str y.val, .int .i64 y.kind] 35)), p.u.cell? ⟨gh_, offh + n * 3, none⟩ = some (str y.key) := fun p => p.cell y0
        have r1 : ∀ p : Grew (w6.alloc (.cells #[str y.key, str y.val, .int .i64 y.kind] 35)), p.u.cell? ⟨gh_, offh + n * 3 + 1, none⟩ = some (str y.val) := fun p => p.cell y1
        have r2 : ∀ p : Grew (w6.alloc (.cells #[str y.key, str y.val, .int .i64 y.kind] 35)), p.u.cell? ⟨gh_, offh + n * 3 + 2, none⟩ = some (.int .i64 y.kind) := fun p => p.cell y2
        have hns := neq_same y.key y.val y.kind
        clear y0 y1 y2 hn6 hK6 HIT HK hy
        go_wp2_with fail
        refine wp_region_grew (by kernel_rfl) (by kernel_rfl) (fun _W h0 h1 => ?_)
        repeat (refine h1 _ _ _ (fun K hK => ?_); go_simp; refine hK _ ?_; clear hK K)
        refine h0 _ (fun p => ?_)
        clear h0 h1 q0 q1 q2 r0 r1 r2 hns
        have hnx := keeps_next (HK7.out.still p.h) HS.out
        have HNX := Lib.hid hnx
        clear hnx
        unfold KGoes at HNX
        go_wp2_with fail
        refine HNX.out.mono ?_
        rintro e wc ⟨r, c', F', rfl, hK8, hC8⟩
        have HR8 := Lib.hid (And.intro hK8 hC8)
        clear hK8 hC8 HNX
        go_wp2_with fail
        go_roundg (gk - 1)
        case measure => omega
        case rel =>
          obtain ⟨hK8, hC8⟩ := HR8.out
          refine ⟨n + 1, r, c', F', by omega, by go_num, rfl, hK8, ?_⟩
          simp only [nxtOf] at hC8
          by_cases hl : n + 1 < have_.length
          · rw [if_pos hl] at hC8
            exact hC8.elim .inl fun q => .inr (.inr ⟨q.1, q.2, by omega⟩)
          · rw [if_neg hl] at hC8
            exact .inr (hC8.elim (fun q => .inl ⟨q.1, q.2, by omega⟩) fun q => .inr ⟨q.1, q.2, by omega⟩)
      · subst hn
        have her := keeps_err HK.out
        rw [hS.e] at her
        have HER := Lib.hid her
        clear her hS
        go_wp2_with fail
        refine HER.out.mono ?_
        rintro e _ ⟨rfl, rfl⟩
        go_wp2_with fail
        go_ret
        exact ⟨rfl, HK.out.only⟩
      · have her := keeps_err HK.out
        rw [hS.e] at her
        have HER := Lib.hid her
        have hn' : (n : Int) ≤ (have_.length : Int) := by omega
        obtain ⟨hcs, hst⟩ := cur_stop HK.out.cur (-1) (by omega)
        have hK2 := HK.out.step hcs hst
        have hpb : PagesAt wr b c.p := by
          obtain ⟨vS, vs, hI⟩ := HK.out.cur
          exact hI.pages
        obtain ⟨vL, vG, hPI⟩ := hpb
        have c5 := heap_cell hPI.heap 5
        have z5 := heap_frozen hPI.heap 5
        simp only [List.getElem?_toArray, List.getElem?_cons_zero, List.getElem?_cons_succ] at c5
        have hroot : -1000000 ≤ c.root ∧ c.root ≤ 1000000 := by rw [hS.root]; exact hrange
        have hce : ({ c with p := { c.p with stop := -1 } } : Cur).e = 14 := hS.e
        have hcst : ({ c with p := { c.p with stop := -1 } } : Cur).stack = [] := hS.at_
        have hcr : -1000000 ≤ ({ c with p := { c.p with stop := -1 } } : Cur).root ∧ ({ c with p := { c.p with stop := -1 } } : Cur).root ≤ 1000000 := hroot
        have HK2 := Lib.hid hK2
        clear hK2 hcs hst hPI her hS hroot
        generalize ({ c with p := { c.p with stop := -1 } } : Cur) = c2 at *
        have HE := Lib.hid (And.intro hce (And.intro hcst hcr))
        clear hce hcst hcr
        go_wp2_with fail
        refine HER.out.mono ?_
        rintro e _ ⟨rfl, rfl⟩
        have hit := keeps_none HK2.out HE.out.2.1
        have e0 : noItem = .agg #[.string ⟨#[]⟩, .string ⟨#[]⟩, .int .i64 0] := rfl
        rw [e0] at hit
        have HIT := Lib.hid hit
        clear hit e0 HER
        go_wp2_with fail
        refine HIT.out.mono ?_
        rintro e w6 ⟨rfl, hK6⟩
        have HK7 := Lib.hid (hK6.still ((Only.refl (fun _ => False) w6).alloc (.cells #[.string ⟨#[]⟩, .string ⟨#[]⟩, .int .i64 0] 35)))
        have her := keeps_err HK7.out
        rw [HE.out.1] at her
        have HER := Lib.hid her
        clear hK6 HIT HK2 HK her c5 z5
        go_wp2_with fail
        refine HER.out.mono ?_
        rintro e _ ⟨rfl, rfl⟩
        have hg0 := Stays.keeps HK7.out (gone_first _ _ _ _ _ HK7.out.cur HE.out.1 HE.out.2.2)
        have HG0 := Lib.hid hg0
        clear hg0
        unfold KStays at HG0
        go_wp2_with fail
        refine HG0.out.mono ?_
        rintro e _ ⟨rfl, _, hk0⟩
        have HKK0 := Lib.hid hk0
        clear hk0
        have hg1 := Stays.keeps HKK0.out (gone_last _ _ _ _ _ HKK0.out.cur HE.out.1 HE.out.2.2)
        have HG1 := Lib.hid hg1
        clear hg1
        unfold KStays at HG1
        go_wp2_with fail
        refine HG1.out.mono ?_
        rintro e _ ⟨rfl, _, hk1⟩
        have HKK1 := Lib.hid hk1
        clear hk1
        have hg2 := Stays.keeps HKK1.out (gone_seek _ _ _ _ _ HKK1.out.cur HE.out.1 HE.out.2.2 key)
        have HG2 := Lib.hid hg2
        clear hg2
        unfold KStays at HG2
        go_wp2_with fail
        refine HG2.out.mono ?_
        rintro e _ ⟨rfl, _, hk2⟩
        have HKK2 := Lib.hid hk2
        clear hk2
        have hg3 := Stays.keeps HKK2.out (gone_next _ _ _ _ _ HKK2.out.cur HE.out.2.1)
        have HG3 := Lib.hid hg3
        clear hg3
        unfold KStays at HG3
        go_wp2_with fail
        refine HG3.out.mono ?_
        rintro e _ ⟨rfl, _, hk3⟩
        have HKK3 := Lib.hid hk3
        clear hk3
        have hg4 := Stays.keeps HKK3.out (gone_back _ _ _ _ _ HKK3.out.cur HE.out.2.1)
        have HG4 := Lib.hid hg4
        clear hg4
        unfold KStays at HG4
        go_wp2_with fail
        refine HG4.out.mono ?_
        rintro e _ ⟨rfl, _, hk4⟩
        have HKK4 := Lib.hid hk4
        clear hk4
        go_wp2_with fail
        go_ret
        exact ⟨rfl, HKK4.out.only⟩
  · by_cases hb : bl = true
    · subst hb
      by_cases h1 : stop < 0
      · go_wp2_with fail
        refine (HAL.out w1).mono ?_
        rintro e w2 ⟨rfl, o2⟩
        go_wp2_with fail
        go_ret
        exact ⟨rfl, HO1.out.trans o2 (fun _ _ q => q)⟩
      · by_cases h2 : stop > 60
        · go_wp2_with fail
          refine (HAL.out w1).mono ?_
          rintro e w2 ⟨rfl, o2⟩
          go_wp2_with fail
          go_ret
          exact ⟨rfl, HO1.out.trans o2 (fun _ _ q => q)⟩
        · have h3 : (key.length : Int) > 60 := by
            apply Classical.byContradiction
            intro q
            exact hgood ⟨rfl, by omega, by omega, by omega⟩
          go_wp2_with fail
          refine (HAL.out w1).mono ?_
          rintro e w2 ⟨rfl, o2⟩
          go_wp2_with fail
          go_ret
          exact ⟨rfl, HO1.out.trans o2 (fun _ _ q => q)⟩
    · obtain rfl : bl = false := by simpa using hb
      go_wp2_with fail
      refine (HAL.out w1).mono ?_
      rintro e w2 ⟨rfl, o2⟩
      go_wp2_with fail
      go_ret
      exact ⟨rfl, HO1.out.trans o2 (fun _ _ q => q)⟩
end Go.Proofs.Ytcjaokmodicikaa
