/- The law's own functions: a list with one item more. Conditions: one goroutine; the list lies in memory, its keys rise; it is short. (Printed by wip/gen/put12.py.) -/
import Derived.Test.YtcjaokmodicikaaZSame
import Derived.Test.YtcjaokmodicikaaZLaw3
import Derived.Test.YtcjaokmodicikaaZPlainD
import Derived.BigRegion
namespace Go.Proofs.Ytcjaokmodicikaa
open Go.RowKit

/-- How a new list is told. -/
def RowEnds (w : World) (m : List Item) : Ending → World → Prop := fun e w' => ∃ v', e = .returned v' ∧ RowC itemC 3 w' v' m ∧ Only (fun _ => False) w w' ∧ ∀ j, rowBlock v' = some j → w.heap.size ≤ j ∧ j < w'.heap.size
theorem RowEnds.of {w w' : World} {v' : Value} {m : List Item} {xs : List Value} {n : Nat} (own : w'.ownsRow 0 35 3 v' n xs) (hn : n = m.length) (hx : xs = m.flatMap itemC) (ho : Only (fun _ => False) w w') (hb : ∀ j, v'.ownBlock = some j → w.heap.size ≤ j) : RowEnds w m (.returned v') w' := by
  subst hn hx
  refine ⟨v', rfl, ⟨row_own (fun _ => rfl) own, cap_own own⟩, ho, fun j hj => ?_⟩
  rw [rowBlock_own own] at hj
  exact ⟨hb j hj, (own.lt j hj).2⟩

set_option maxRecDepth 100000 in
set_option maxHeartbeats 8000000 in
theorem lput_is (w : World) (v : Value) (l : List Item) (x : Item) (h : RowC itemC 3 w v l) (hr : Rising l) (hn : l.length ≤ 1000000) :
    Calls Try.prog 24 #[v, itemV x] w (RowEnds w (putL l x)) := by
  obtain ⟨i0, hi, hz0, hz1, hz2⟩ := info_parts itemInfo
  obtain ⟨a, c, rfl⟩ := row_form h.row
  have hcl : l.length ≤ c := h.cap.1
  have hcl2 : c ≤ maxLen := h.cap.2
  have o0 := (Only.refl (fun _ => False) w).alloc (.cells #[str x.key, str x.val, .int .i64 x.kind] 35)
  have hN := heap_alloc_new w (.cells #[str x.key, str x.val, .int .i64 x.kind] 35)
  have HV := Lib.hid (row_only h.row o0 (fun _ _ => id))
  have HR := Lib.hid hr
  have HN := Lib.hid hN
  have HO0 := Lib.hid o0
  have hle := findAt_le l x.key
  clear h hr o0 hN
  unfold itemV itemC
  go_enter Try.func24, Try.ntmps24
  go_wp2_with fail
  obtain ⟨w0, hw0⟩ : ∃ w0, w.alloc (.cells #[str x.key, str x.val, .int .i64 x.kind] 35) = w0 := ⟨_, rfl⟩
  simp only [hw0] at *
  obtain ⟨B, hB⟩ : ∃ B, w.heap.size = B := ⟨_, rfl⟩
  have HBW := Lib.hid hB
  simp only [hB] at *
  clear hw0 hB
  have hB0 : B < w0.heap.size := (Array.getElem?_eq_some_iff.1 HN.out).1
  go_loopg [5] (findAt l x.key) (fun gh kv wr => ∃ k : Nat, gh + k = findAt l x.key ∧ kv = .int .i64 k ∧ Only (fun _ => False) w0 wr)
  case atStart => exact ⟨0, by omega, rfl, Only.refl _ w0⟩
  case round =>
    obtain ⟨k, hgk, rfl, ho⟩ := hrel
    have HO := Lib.hid ho
    have hNr := (ho.block B hB0 id).trans HN.out
    have c0 := heap_cell hNr 0
    simp only [List.getElem?_toArray, List.getElem?_cons_zero] at c0
    have q9 : ∀ p : Grew wr, p.u.cell? ⟨B, 0, none⟩ = some (str x.key) := fun p => p.cell c0
    clear ho hNr c0
    by_cases hk : k < l.length
    · have hk1 : (k : Int) < (l.length : Int) := by omega
      have hk0 : (0 : Int) ≤ (k : Int) := by omega
      obtain ⟨y, hy⟩ : ∃ y, l[k]? = some y := ⟨_, List.getElem?_eq_getElem hk⟩
      have hrow := row_only HV.out HO.out (fun _ _ => id)
      obtain ⟨g, off, rfl, y0, _, _⟩ := row_item hrow hy
      have q8 : ∀ p : Grew wr, p.u.cell? ⟨g, off + k * 3, none⟩ = some (str y.key) := fun p => p.cell y0
      have hlt : k < findAt l x.key ↔ y.key < x.key := lt_findAt HR.out x.key k y hy
      have hb : Op.bytesLess y.key x.key = decide (y.key < x.key) := bytesLess_eq y.key x.key
      have hw1 : IntKind.i64.wrap ((k : Int) + 1) = (k : Int) + 1 := by exact IntWalk.i64_in _ (by omega)
      by_cases hkf : k < findAt l x.key
      · rw [decide_eq_true (hlt.1 hkf)] at hb
        clear hy hrow hlt y0
        go_wp2_with fail
        refine wp_region_grew (by kernel_rfl) (by kernel_rfl) (fun _W h0 h1 => ?_)
        repeat (refine h1 _ _ _ (fun K hK => ?_); go_simp; refine hK _ ?_; clear hK K)
        refine h0 _ (fun p => ?_)
        clear h0 h1
        go_wp2_with fail
        go_roundg (gk - 1)
        case measure => omega
        case rel => exact ⟨k + 1, by omega, by go_num, HO.out.trans p.h (fun _ _ q => q)⟩
      · rw [decide_eq_false (fun q => hkf (hlt.2 q))] at hb
        have HK : Hid (findAt l x.key = k) := Lib.hid (by omega)
        have HY := Lib.hid hy
        clear hy hlt hrow y0 hkf hle
        go_wp2_with fail
        refine wp_region_grew (by kernel_rfl) (by kernel_rfl) (fun _W h0 h1 => ?_)
        repeat (refine h1 _ _ _ (fun K hK => ?_); go_simp; refine hK _ ?_; clear hK K)
        refine h0 _ (fun p => ?_)
        clear h0 h1 q8 q9 hb
        obtain ⟨w3, hw3⟩ : ∃ w3, p.u = w3 := ⟨_, rfl⟩
        have HO3 := Lib.hid (HO.out.trans p.h (fun _ _ q => q))
        rw [hw3] at *
        clear hw3 p HO
        have hN3 := (HO3.out.block B hB0 id).trans HN.out
        have X0 := heap_cell hN3 0
        simp only [List.getElem?_toArray, List.getElem?_cons_zero] at X0
        have hrow3 := row_only HV.out HO3.out (fun _ _ => id)
        obtain ⟨g', off', he, y0, _, _⟩ := row_item hrow3 HY.out
        cases he
        have q9 : ∀ p : Grew w3, p.u.cell? ⟨B, 0, none⟩ = some (str x.key) := fun p => p.cell X0
        have q8 : ∀ p : Grew w3, p.u.cell? ⟨g, off + k * 3, none⟩ = some (str y.key) := fun p => p.cell y0
        have hkc : (k : Int) < (c : Int) := by omega
        have hkc2 : k < c := by omega
        have hkc3 : (k : Int) ≤ (c : Int) := by omega
        have hkl : (k : Int) ≤ (l.length : Int) := by omega
        have hlc : (l.length : Int) ≤ (c : Int) := by omega
        clear hrow3 y0 X0 hN3
        obtain ⟨beq, hbeq⟩ : ∃ beq, (y.key == x.key) = beq := ⟨_, rfl⟩
        cases beq with
        | false =>
          have HP : Hid (putL l x = l.take k ++ x :: l.drop k) := Lib.hid (by
            have hA : isAt l x.key = false := by
              unfold isAt
              rw [HK.out, HY.out]
              exact hbeq
            have := putL_insert hA
            rwa [HK.out] at this)
          go_wp2_with fail
          refine wp_region_grew (by kernel_rfl) (by kernel_rfl) (fun _W h0 h1 => ?_)
          repeat (refine h1 _ _ _ (fun K hK => ?_); go_simp; refine hK _ ?_; clear hK K)
          refine h0 _ (fun p5 => ?_)
          clear h0 h1 q8 q9
          obtain ⟨w5, hw5⟩ : ∃ w5, p5.u = w5 := ⟨_, rfl⟩
          have HO5 := Lib.hid (HO3.out.trans p5.h (fun _ _ q => q))
          rw [hw5] at *
          clear hw5 p5 HO3
          have hN5 := (HO5.out.block B hB0 id).trans HN.out
          have X0 := heap_cell hN5 0
          have X1 := heap_cell hN5 1
          have X2 := heap_cell hN5 2
          simp only [List.getElem?_toArray, List.getElem?_cons_zero, List.getElem?_cons_succ] at X0 X1 X2
          have HTK : Hid (RowAt itemC 3 w5 (.slice (some (⟨g, off, none⟩ : Addr)) k c) (l.take (k))) := Lib.hid (row_take (row_only HV.out HO5.out (fun _ _ => id)) k k (by omega) rfl)
          have HRE : Hid (RowAt itemC 3 w5 (.slice (some (⟨g, off + k * 3, none⟩ : Addr)) (l.length - k) (c - k)) (l.drop k)) := Lib.hid (row_drop (row_only HV.out HO5.out (fun _ _ => id)) k _ _ _ rfl rfl)
          have HC1 := Lib.hid (row_read HTK.out)
          have HC3 := Lib.hid (row_read HRE.out)
          have hl1 : ((l.take (k)).flatMap itemC).length = k * 3 := by rw [flatI_length, List.length_take, Nat.min_eq_left (by omega)]
          have hl3 : ((l.drop k).flatMap itemC).length = (l.length - k) * 3 := by rw [flatI_length, List.length_drop]
          have ho1 : ∀ u ∈ (l.take (k)).flatMap itemC, u.oneCell' = true := one_items _
          have ho3 : ∀ u ∈ (l.drop k).flatMap itemC, u.oneCell' = true := one_items _
          clear hN5
          go_wp2_with fail
          go_region_law (first
            | (refine step_append_any _ rfl (.const (.slice none 0 0)) (.tmp 46) 22 rfl 35 i0 _ 3 40 Try.underlying22 hi hz0 hz1 hz2 rfl (by decide) (.slice none 0 0) 0 [] (by first | (simp [Act.eval]; done) | simp [Act.eval, Act.put]) ⟨rfl, .inl ⟨rfl, rfl⟩⟩ (some (⟨g, off, none⟩ : Addr)) (k) c ((l.take (k)).flatMap itemC) (by first | (simp [Act.eval]; done) | simp [Act.eval, Act.put]) hl1 (fun e => by cases e) (HC1.out _ (by first | exact (Only.refl _ w5).drew | exact (Only.refl _ w5).drew.alloc _)) ho1 (by unfold maxLen; omega) (by omega) ?_; intro a1 c1 wa1 own1 gr1 mv1; rw [Nat.zero_add, List.nil_append] at own1; rw [Nat.zero_add] at mv1; have hq1 := (Only.refl (fun _ => False) _).grown gr1 (fun k _ h => by cases h); have HW1 : Only (fun _ => False) w5 wa1 := (by first | exact ((Only.refl _ w5).drew).trans hq1 (fun _ _ q => q) | exact (((Only.refl _ w5).drew).alloc _).trans hq1 (fun _ _ q => q)); have Y0 := (HW1.cell (p := ⟨B, 0, none⟩) (lt_of_cell X0) (fun q => q)).trans X0; have Y1 := (HW1.cell (p := ⟨B, 1, none⟩) (lt_of_cell X1) (fun q => q)).trans X1; have Y2 := (HW1.cell (p := ⟨B, 2, none⟩) (lt_of_cell X2) (fun q => q)).trans X2; have hf1 : ∀ zz, (Value.slice a1 (k) c1).ownBlock = some zz → w5.heap.size ≤ zz := fun zz hz => by rcases mv1 zz hz with e | e; cases e; simp at e; omega)
            | (refine step_append_moved _ rfl (.tmp 47) (.tmp 49) 22 rfl 35 i0 _ 3 40 Try.underlying22 hi hz0 hz1 hz2 rfl (by decide) (.slice a1 (k) c1) (k) ((l.take (k)).flatMap itemC) (by first | (simp [Act.eval]; done) | simp [Act.eval, Act.put]) (own1.alloc _) ⟨wa1.heap.size, 0, none⟩ 1 1 [str x.key, str x.val, .int .i64 x.kind] (by first | (simp [Act.eval]; done) | simp [Act.eval, Act.put]) rfl (cells_new _ _ _ _) (by simp [Value.oneCell', str]) (by unfold maxLen; omega) (by omega) ?_; intro a2 c2 wa2 own2 gr2 mv2; have HW2 : Only (fun _ => False) w5 wa2 := (by first | exact HW1.grown gr2 (fun zz hz e => by have := hf1 zz e; omega) | exact (HW1.alloc _).grown gr2 (fun zz hz e => by have := hf1 zz e; omega)); have hf2 : ∀ zz, (Value.slice a2 (k + 1) c2).ownBlock = some zz → w5.heap.size ≤ zz := fun zz hz => by rcases mv2 zz hz with e | e; exact hf1 zz e; have := HW1.size; (try simp at e); omega)
            | (refine step_append_moved _ rfl (.tmp 47) (.tmp 49) 22 rfl 35 i0 _ 3 40 Try.underlying22 hi hz0 hz1 hz2 rfl (by decide) (.slice a1 (k) c1) (k) ((l.take (k)).flatMap itemC) (by first | (simp [Act.eval]; done) | simp [Act.eval, Act.put]) own1 ⟨w5.heap.size, 0, none⟩ 1 1 [str x.key, str x.val, .int .i64 x.kind] (by first | (simp [Act.eval]; done) | simp [Act.eval, Act.put]) rfl (cells_later (W := w5.drew) _ _ hq1) (by simp [Value.oneCell', str]) (by unfold maxLen; omega) (by omega) ?_; intro a2 c2 wa2 own2 gr2 mv2; have HW2 : Only (fun _ => False) w5 wa2 := (by first | exact HW1.grown gr2 (fun zz hz e => by have := hf1 zz e; omega) | exact (HW1.alloc _).grown gr2 (fun zz hz e => by have := hf1 zz e; omega)); have hf2 : ∀ zz, (Value.slice a2 (k + 1) c2).ownBlock = some zz → w5.heap.size ≤ zz := fun zz hz => by rcases mv2 zz hz with e | e; exact hf1 zz e; have := HW1.size; (try simp at e); omega)
            | (refine step_append_any _ rfl (.tmp 50) (.tmp 51) 22 rfl 35 i0 _ 3 40 Try.underlying22 hi hz0 hz1 hz2 rfl (by decide) (.slice a2 (k + 1) c2) (k + 1) _ (by first | (simp [Act.eval]; done) | simp [Act.eval, Act.put]) own2 (some (⟨g, off + k * 3, none⟩ : Addr)) ((l.length - k)) (c - k) ((l.drop k).flatMap itemC) (by first | (simp [Act.eval]; done) | simp [Act.eval, Act.put]) hl3 (fun e => by cases e) (HC3.out _ HW2) ho3 (by unfold maxLen; omega) (by omega) ?_; intro a3 c3 wa3 own3 gr3 mv3; have HWS := Lib.hid HW2.size; have HFIN := Lib.hid (And.intro own3 (And.intro (HW2.grown gr3 (fun zz hz e => by have := hf2 zz e; omega)) (And.intro mv3 hf2))); clear own3 gr3 mv3))
          all_goals
            go_wp2_with fail
            go_ret
            obtain ⟨own3, ow3, mv3, hf2⟩ := HFIN.out
            have hW := (HO0.out.trans (HO5.out.trans ow3 (fun _ _ q => q)) (fun _ _ q => q))
            have hs5 := (HO0.out.trans HO5.out (fun _ _ q => q)).size
            refine RowEnds.of own3 (by rw [HP.out]; simp only [List.length_append, List.length_take, List.length_cons, List.length_drop]; omega) (by rw [HP.out, List.flatMap_append, List.flatMap_cons, List.append_assoc]; rfl) hW (fun zz hz => ?_)
            rcases mv3 zz hz with e | e
            · have := hf2 zz e; omega
            · have := HWS.out; omega
        | true =>
          have hyx : y.key = x.key := by simpa using hbeq
          have hbe : (x.key == x.key) = true := by simp
          have HP : Hid (putL l x = l.take k ++ x :: l.drop (k + 1)) := Lib.hid (by
            have hA := (findAt_eq HR.out HY.out hyx).2
            have := putL_at l x
            rwa [HK.out, hA, if_pos rfl] at this)
          rw [hyx] at q8
          by_cases hkd : k + 1 < c
          · have hkd2 : (k : Int) + 1 < (c : Int) := by omega
            have hkd3 : (k : Int) + 1 ≤ (l.length : Int) := by omega
            go_wp2_with fail
            refine wp_region_grew (by kernel_rfl) (by kernel_rfl) (fun _W h0 h1 => ?_)
            repeat (refine h1 _ _ _ (fun K hK => ?_); go_simp; refine hK _ ?_; clear hK K)
            refine h0 _ (fun p5 => ?_)
            clear h0 h1 q8 q9
            obtain ⟨w5, hw5⟩ : ∃ w5, p5.u = w5 := ⟨_, rfl⟩
            have HO5 := Lib.hid (HO3.out.trans p5.h (fun _ _ q => q))
            rw [hw5] at *
            clear hw5 p5 HO3
            have hN5 := (HO5.out.block B hB0 id).trans HN.out
            have X0 := heap_cell hN5 0
            have X1 := heap_cell hN5 1
            have X2 := heap_cell hN5 2
            simp only [List.getElem?_toArray, List.getElem?_cons_zero, List.getElem?_cons_succ] at X0 X1 X2
            have HTK : Hid (RowAt itemC 3 w5 (.slice (some (⟨g, off, none⟩ : Addr)) k c) (l.take (k))) := Lib.hid (row_take (row_only HV.out HO5.out (fun _ _ => id)) k k (by omega) rfl)
            have HRE : Hid (RowAt itemC 3 w5 (.slice (some (⟨g, off + (k + 1) * 3, none⟩ : Addr)) (l.length - (k + 1)) (c - (k + 1))) (l.drop (k + 1))) := Lib.hid (row_drop (row_only HV.out HO5.out (fun _ _ => id)) (k + 1) _ _ _ rfl rfl)
            have HC1 := Lib.hid (row_read HTK.out)
            have HC3 := Lib.hid (row_read HRE.out)
            have hl1 : ((l.take (k)).flatMap itemC).length = k * 3 := by rw [flatI_length, List.length_take, Nat.min_eq_left (by omega)]
            have hl3 : ((l.drop (k + 1)).flatMap itemC).length = (l.length - (k + 1)) * 3 := by rw [flatI_length, List.length_drop]
            have ho1 : ∀ u ∈ (l.take (k)).flatMap itemC, u.oneCell' = true := one_items _
            have ho3 : ∀ u ∈ (l.drop (k + 1)).flatMap itemC, u.oneCell' = true := one_items _
            clear hN5
            go_wp2_with fail
            go_region_law (first
              | (refine step_append_any _ rfl (.const (.slice none 0 0)) (.tmp 46) 22 rfl 35 i0 _ 3 40 Try.underlying22 hi hz0 hz1 hz2 rfl (by decide) (.slice none 0 0) 0 [] (by first | (simp [Act.eval]; done) | simp [Act.eval, Act.put]) ⟨rfl, .inl ⟨rfl, rfl⟩⟩ (some (⟨g, off, none⟩ : Addr)) (k) c ((l.take (k)).flatMap itemC) (by first | (simp [Act.eval]; done) | simp [Act.eval, Act.put]) hl1 (fun e => by cases e) (HC1.out _ (by first | exact (Only.refl _ w5).drew | exact (Only.refl _ w5).drew.alloc _)) ho1 (by unfold maxLen; omega) (by omega) ?_; intro a1 c1 wa1 own1 gr1 mv1; rw [Nat.zero_add, List.nil_append] at own1; rw [Nat.zero_add] at mv1; have hq1 := (Only.refl (fun _ => False) _).grown gr1 (fun k _ h => by cases h); have HW1 : Only (fun _ => False) w5 wa1 := (by first | exact ((Only.refl _ w5).drew).trans hq1 (fun _ _ q => q) | exact (((Only.refl _ w5).drew).alloc _).trans hq1 (fun _ _ q => q)); have Y0 := (HW1.cell (p := ⟨B, 0, none⟩) (lt_of_cell X0) (fun q => q)).trans X0; have Y1 := (HW1.cell (p := ⟨B, 1, none⟩) (lt_of_cell X1) (fun q => q)).trans X1; have Y2 := (HW1.cell (p := ⟨B, 2, none⟩) (lt_of_cell X2) (fun q => q)).trans X2; have hf1 : ∀ zz, (Value.slice a1 (k) c1).ownBlock = some zz → w5.heap.size ≤ zz := fun zz hz => by rcases mv1 zz hz with e | e; cases e; simp at e; omega)
              | (refine step_append_moved _ rfl (.tmp 47) (.tmp 49) 22 rfl 35 i0 _ 3 40 Try.underlying22 hi hz0 hz1 hz2 rfl (by decide) (.slice a1 (k) c1) (k) ((l.take (k)).flatMap itemC) (by first | (simp [Act.eval]; done) | simp [Act.eval, Act.put]) (own1.alloc _) ⟨wa1.heap.size, 0, none⟩ 1 1 [str x.key, str x.val, .int .i64 x.kind] (by first | (simp [Act.eval]; done) | simp [Act.eval, Act.put]) rfl (cells_new _ _ _ _) (by simp [Value.oneCell', str]) (by unfold maxLen; omega) (by omega) ?_; intro a2 c2 wa2 own2 gr2 mv2; have HW2 : Only (fun _ => False) w5 wa2 := (by first | exact HW1.grown gr2 (fun zz hz e => by have := hf1 zz e; omega) | exact (HW1.alloc _).grown gr2 (fun zz hz e => by have := hf1 zz e; omega)); have hf2 : ∀ zz, (Value.slice a2 (k + 1) c2).ownBlock = some zz → w5.heap.size ≤ zz := fun zz hz => by rcases mv2 zz hz with e | e; exact hf1 zz e; have := HW1.size; (try simp at e); omega)
              | (refine step_append_moved _ rfl (.tmp 47) (.tmp 49) 22 rfl 35 i0 _ 3 40 Try.underlying22 hi hz0 hz1 hz2 rfl (by decide) (.slice a1 (k) c1) (k) ((l.take (k)).flatMap itemC) (by first | (simp [Act.eval]; done) | simp [Act.eval, Act.put]) own1 ⟨w5.heap.size, 0, none⟩ 1 1 [str x.key, str x.val, .int .i64 x.kind] (by first | (simp [Act.eval]; done) | simp [Act.eval, Act.put]) rfl (cells_later (W := w5.drew) _ _ hq1) (by simp [Value.oneCell', str]) (by unfold maxLen; omega) (by omega) ?_; intro a2 c2 wa2 own2 gr2 mv2; have HW2 : Only (fun _ => False) w5 wa2 := (by first | exact HW1.grown gr2 (fun zz hz e => by have := hf1 zz e; omega) | exact (HW1.alloc _).grown gr2 (fun zz hz e => by have := hf1 zz e; omega)); have hf2 : ∀ zz, (Value.slice a2 (k + 1) c2).ownBlock = some zz → w5.heap.size ≤ zz := fun zz hz => by rcases mv2 zz hz with e | e; exact hf1 zz e; have := HW1.size; (try simp at e); omega)
              | (refine step_append_any _ rfl (.tmp 50) (.tmp 51) 22 rfl 35 i0 _ 3 40 Try.underlying22 hi hz0 hz1 hz2 rfl (by decide) (.slice a2 (k + 1) c2) (k + 1) _ (by first | (simp [Act.eval]; done) | simp [Act.eval, Act.put]) own2 (some (⟨g, off + (k + 1) * 3, none⟩ : Addr)) ((l.length - (k + 1))) (c - (k + 1)) ((l.drop (k + 1)).flatMap itemC) (by first | (simp [Act.eval]; done) | simp [Act.eval, Act.put]) hl3 (fun e => by cases e) (HC3.out _ HW2) ho3 (by unfold maxLen; omega) (by omega) ?_; intro a3 c3 wa3 own3 gr3 mv3; have HWS := Lib.hid HW2.size; have HFIN := Lib.hid (And.intro own3 (And.intro (HW2.grown gr3 (fun zz hz e => by have := hf2 zz e; omega)) (And.intro mv3 hf2))); clear own3 gr3 mv3))
            all_goals
              go_wp2_with fail
              go_ret
              obtain ⟨own3, ow3, mv3, hf2⟩ := HFIN.out
              have hW := (HO0.out.trans (HO5.out.trans ow3 (fun _ _ q => q)) (fun _ _ q => q))
              have hs5 := (HO0.out.trans HO5.out (fun _ _ q => q)).size
              refine RowEnds.of own3 (by rw [HP.out]; simp only [List.length_append, List.length_take, List.length_cons, List.length_drop]; omega) (by rw [HP.out, List.flatMap_append, List.flatMap_cons, List.append_assoc]; rfl) hW (fun zz hz => ?_)
              rcases mv3 zz hz with e | e
              · have := hf2 zz e; omega
              · have := HWS.out; omega
          · obtain rfl : c = k + 1 := by omega
            have hk8 : (k : Int) ≤ (k : Int) + 1 := by omega
            have hk9 : (k : Int) < (k : Int) + 1 := by omega
            have hk7 : k ≤ k + 1 := by omega
            have hll : Hid (l.length = k + 1) := Lib.hid (by omega)
            go_wp2_with fail
            refine wp_region_grew (by kernel_rfl) (by kernel_rfl) (fun _W h0 h1 => ?_)
            repeat (refine h1 _ _ _ (fun K hK => ?_); go_simp; refine hK _ ?_; clear hK K)
            refine h0 _ (fun p5 => ?_)
            clear h0 h1 q8 q9
            obtain ⟨w5, hw5⟩ : ∃ w5, p5.u = w5 := ⟨_, rfl⟩
            have HO5 := Lib.hid (HO3.out.trans p5.h (fun _ _ q => q))
            rw [hw5] at *
            clear hw5 p5 HO3
            have hN5 := (HO5.out.block B hB0 id).trans HN.out
            have X0 := heap_cell hN5 0
            have X1 := heap_cell hN5 1
            have X2 := heap_cell hN5 2
            simp only [List.getElem?_toArray, List.getElem?_cons_zero, List.getElem?_cons_succ] at X0 X1 X2
            have HTK : Hid (RowAt itemC 3 w5 (.slice (some (⟨g, off, none⟩ : Addr)) k (k + 1)) (l.take (k))) := Lib.hid (row_take (row_only HV.out HO5.out (fun _ _ => id)) k k (by omega) rfl)
            have HRE : Hid (RowAt itemC 3 w5 (.slice (some (⟨g, off, none⟩ : Addr)) 0 0) (l.drop (k + 1))) := Lib.hid (row_eq (row_none _ _ _ _) (List.drop_eq_nil_of_le (by have := hll.out; omega)).symm)
            have HC1 := Lib.hid (row_read HTK.out)
            have HC3 := Lib.hid (row_read HRE.out)
            have hl1 : ((l.take (k)).flatMap itemC).length = k * 3 := by rw [flatI_length, List.length_take, Nat.min_eq_left (by omega)]
            have hl3 : ((l.drop (k + 1)).flatMap itemC).length = 0 * 3 := by rw [flatI_length, List.length_drop]; have := hll.out; omega
            have ho1 : ∀ u ∈ (l.take (k)).flatMap itemC, u.oneCell' = true := one_items _
            have ho3 : ∀ u ∈ (l.drop (k + 1)).flatMap itemC, u.oneCell' = true := one_items _
            clear hN5
            go_wp2_with fail
            go_region_law (first
              | (refine step_append_any _ rfl (.const (.slice none 0 0)) (.tmp 46) 22 rfl 35 i0 _ 3 40 Try.underlying22 hi hz0 hz1 hz2 rfl (by decide) (.slice none 0 0) 0 [] (by first | (simp [Act.eval]; done) | simp [Act.eval, Act.put]) ⟨rfl, .inl ⟨rfl, rfl⟩⟩ (some (⟨g, off, none⟩ : Addr)) (k) (k + 1) ((l.take (k)).flatMap itemC) (by first | (simp [Act.eval]; done) | simp [Act.eval, Act.put]) hl1 (fun e => by cases e) (HC1.out _ (by first | exact (Only.refl _ w5).drew | exact (Only.refl _ w5).drew.alloc _)) ho1 (by unfold maxLen; omega) (by omega) ?_; intro a1 c1 wa1 own1 gr1 mv1; rw [Nat.zero_add, List.nil_append] at own1; rw [Nat.zero_add] at mv1; have hq1 := (Only.refl (fun _ => False) _).grown gr1 (fun k _ h => by cases h); have HW1 : Only (fun _ => False) w5 wa1 := (by first | exact ((Only.refl _ w5).drew).trans hq1 (fun _ _ q => q) | exact (((Only.refl _ w5).drew).alloc _).trans hq1 (fun _ _ q => q)); have Y0 := (HW1.cell (p := ⟨B, 0, none⟩) (lt_of_cell X0) (fun q => q)).trans X0; have Y1 := (HW1.cell (p := ⟨B, 1, none⟩) (lt_of_cell X1) (fun q => q)).trans X1; have Y2 := (HW1.cell (p := ⟨B, 2, none⟩) (lt_of_cell X2) (fun q => q)).trans X2; have hf1 : ∀ zz, (Value.slice a1 (k) c1).ownBlock = some zz → w5.heap.size ≤ zz := fun zz hz => by rcases mv1 zz hz with e | e; cases e; simp at e; omega)
              | (refine step_append_moved _ rfl (.tmp 47) (.tmp 49) 22 rfl 35 i0 _ 3 40 Try.underlying22 hi hz0 hz1 hz2 rfl (by decide) (.slice a1 (k) c1) (k) ((l.take (k)).flatMap itemC) (by first | (simp [Act.eval]; done) | simp [Act.eval, Act.put]) (own1.alloc _) ⟨wa1.heap.size, 0, none⟩ 1 1 [str x.key, str x.val, .int .i64 x.kind] (by first | (simp [Act.eval]; done) | simp [Act.eval, Act.put]) rfl (cells_new _ _ _ _) (by simp [Value.oneCell', str]) (by unfold maxLen; omega) (by omega) ?_; intro a2 c2 wa2 own2 gr2 mv2; have HW2 : Only (fun _ => False) w5 wa2 := (by first | exact HW1.grown gr2 (fun zz hz e => by have := hf1 zz e; omega) | exact (HW1.alloc _).grown gr2 (fun zz hz e => by have := hf1 zz e; omega)); have hf2 : ∀ zz, (Value.slice a2 (k + 1) c2).ownBlock = some zz → w5.heap.size ≤ zz := fun zz hz => by rcases mv2 zz hz with e | e; exact hf1 zz e; have := HW1.size; (try simp at e); omega)
              | (refine step_append_moved _ rfl (.tmp 47) (.tmp 49) 22 rfl 35 i0 _ 3 40 Try.underlying22 hi hz0 hz1 hz2 rfl (by decide) (.slice a1 (k) c1) (k) ((l.take (k)).flatMap itemC) (by first | (simp [Act.eval]; done) | simp [Act.eval, Act.put]) own1 ⟨w5.heap.size, 0, none⟩ 1 1 [str x.key, str x.val, .int .i64 x.kind] (by first | (simp [Act.eval]; done) | simp [Act.eval, Act.put]) rfl (cells_later (W := w5.drew) _ _ hq1) (by simp [Value.oneCell', str]) (by unfold maxLen; omega) (by omega) ?_; intro a2 c2 wa2 own2 gr2 mv2; have HW2 : Only (fun _ => False) w5 wa2 := (by first | exact HW1.grown gr2 (fun zz hz e => by have := hf1 zz e; omega) | exact (HW1.alloc _).grown gr2 (fun zz hz e => by have := hf1 zz e; omega)); have hf2 : ∀ zz, (Value.slice a2 (k + 1) c2).ownBlock = some zz → w5.heap.size ≤ zz := fun zz hz => by rcases mv2 zz hz with e | e; exact hf1 zz e; have := HW1.size; (try simp at e); omega)
              | (refine step_append_any _ rfl (.tmp 50) (.tmp 51) 22 rfl 35 i0 _ 3 40 Try.underlying22 hi hz0 hz1 hz2 rfl (by decide) (.slice a2 (k + 1) c2) (k + 1) _ (by first | (simp [Act.eval]; done) | simp [Act.eval, Act.put]) own2 (some (⟨g, off, none⟩ : Addr)) (0) 0 ((l.drop (k + 1)).flatMap itemC) (by first | (simp [Act.eval]; done) | simp [Act.eval, Act.put]) hl3 (fun e => by cases e) (HC3.out _ HW2) ho3 (by unfold maxLen; omega) (by omega) ?_; intro a3 c3 wa3 own3 gr3 mv3; have HWS := Lib.hid HW2.size; have HFIN := Lib.hid (And.intro own3 (And.intro (HW2.grown gr3 (fun zz hz e => by have := hf2 zz e; omega)) (And.intro mv3 hf2))); clear own3 gr3 mv3))
            all_goals
              go_wp2_with fail
              go_ret
              obtain ⟨own3, ow3, mv3, hf2⟩ := HFIN.out
              have hW := (HO0.out.trans (HO5.out.trans ow3 (fun _ _ q => q)) (fun _ _ q => q))
              have hs5 := (HO0.out.trans HO5.out (fun _ _ q => q)).size
              refine RowEnds.of own3 (by rw [HP.out]; simp only [List.length_append, List.length_take, List.length_cons, List.length_drop]; have := hll.out; omega) (by rw [HP.out, List.flatMap_append, List.flatMap_cons, List.append_assoc]; rfl) hW (fun zz hz => ?_)
              rcases mv3 zz hz with e | e
              · have := hf2 zz e; omega
              · have := HWS.out; omega
    · have HK : Hid (findAt l x.key = k) := Lib.hid (by omega)
      have hrow := row_only HV.out HO.out (fun _ _ => id)
      have hcl3 : l.length ≤ c := hcl
      have hkz : k ≤ l.length := by omega
      clear hle
      generalize hlz : l.length = z at *
      obtain rfl : z = k := by omega
      have hk1 : ¬ (z : Int) < (z : Int) := by omega
      have HLZ := Lib.hid hlz
      have HP : Hid (putL l x = l.take z ++ x :: []) := Lib.hid (by
        have := putL_at l x
        rw [HK.out, List.drop_eq_nil_of_le (Nat.le_trans (Nat.le_of_eq hlz) (Nat.le_add_right _ _))] at this
        exact this)
      clear hlz hk hgk hkz
      rcases a with _ | ad
      · obtain ⟨h00, rfl⟩ := row_nil hrow rfl
        subst h00
        clear hrow hcl3 hcl hcl2 hk1
        go_wp2_with fail
        refine wp_region_grew (by kernel_rfl) (by kernel_rfl) (fun _W h0 h1 => ?_)
        repeat (refine h1 _ _ _ (fun K hK => ?_); go_simp; refine hK _ ?_; clear hK K)
        refine h0 _ (fun p => ?_)
        clear h0 h1 q9
        obtain ⟨w3, hw3⟩ : ∃ w3, p.u = w3 := ⟨_, rfl⟩
        have HO3 := Lib.hid (HO.out.trans p.h (fun _ _ q => q))
        rw [hw3] at *
        clear hw3 p HO
        have hN3 := (HO3.out.block B hB0 id).trans HN.out
        have X0 := heap_cell hN3 0
        simp only [List.getElem?_toArray, List.getElem?_cons_zero] at X0
        have q9 : ∀ p : Grew w3, p.u.cell? ⟨B, 0, none⟩ = some (str x.key) := fun p => p.cell X0
        clear X0 hN3
        go_wp2_with fail
        refine wp_region_grew (by kernel_rfl) (by kernel_rfl) (fun _W h0 h1 => ?_)
        repeat (refine h1 _ _ _ (fun K hK => ?_); go_simp; refine hK _ ?_; clear hK K)
        refine h0 _ (fun p5 => ?_)
        clear h0 h1 q9
        obtain ⟨w5, hw5⟩ : ∃ w5, p5.u = w5 := ⟨_, rfl⟩
        have HO5 := Lib.hid (HO3.out.trans p5.h (fun _ _ q => q))
        rw [hw5] at *
        clear hw5 p5 HO3
        have hN5 := (HO5.out.block B hB0 id).trans HN.out
        have X0 := heap_cell hN5 0
        have X1 := heap_cell hN5 1
        have X2 := heap_cell hN5 2
        simp only [List.getElem?_toArray, List.getElem?_cons_zero, List.getElem?_cons_succ] at X0 X1 X2
        have HTK : Hid (RowAt itemC 3 w5 (.slice ((none : Option Addr)) 0 0) (l.take (0))) := Lib.hid (by rw [List.take_zero]; exact .none)
        have HRE : Hid (RowAt itemC 3 w5 (.slice ((none : Option Addr)) 0 0) ([])) := Lib.hid (.none)
        have HC1 := Lib.hid (row_read HTK.out)
        have HC3 := Lib.hid (row_read HRE.out)
        have hl1 : ((l.take (0)).flatMap itemC).length = 0 * 3 := by rw [List.take_zero]; rfl
        have hl3 : (([]).flatMap itemC).length = 0 * 3 := by rfl
        have ho1 : ∀ u ∈ (l.take (0)).flatMap itemC, u.oneCell' = true := one_items _
        have ho3 : ∀ u ∈ ([]).flatMap itemC, u.oneCell' = true := one_items _
        clear hN5
        go_wp2_with fail
        go_region_law (first
          | (refine step_append_any _ rfl (.const (.slice none 0 0)) (.tmp 46) 22 rfl 35 i0 _ 3 40 Try.underlying22 hi hz0 hz1 hz2 rfl (by decide) (.slice none 0 0) 0 [] (by first | (simp [Act.eval]; done) | simp [Act.eval, Act.put]) ⟨rfl, .inl ⟨rfl, rfl⟩⟩ ((none : Option Addr)) (0) 0 ((l.take (0)).flatMap itemC) (by first | (simp [Act.eval]; done) | simp [Act.eval, Act.put]) hl1 (fun _ => ⟨rfl, rfl⟩) (HC1.out _ (by first | exact (Only.refl _ w5).drew | exact (Only.refl _ w5).drew.alloc _)) ho1 (by unfold maxLen; omega) (by omega) ?_; intro a1 c1 wa1 own1 gr1 mv1; rw [Nat.zero_add, List.nil_append] at own1; rw [Nat.zero_add] at mv1; have hq1 := (Only.refl (fun _ => False) _).grown gr1 (fun k _ h => by cases h); have HW1 : Only (fun _ => False) w5 wa1 := (by first | exact ((Only.refl _ w5).drew).trans hq1 (fun _ _ q => q) | exact (((Only.refl _ w5).drew).alloc _).trans hq1 (fun _ _ q => q)); have Y0 := (HW1.cell (p := ⟨B, 0, none⟩) (lt_of_cell X0) (fun q => q)).trans X0; have Y1 := (HW1.cell (p := ⟨B, 1, none⟩) (lt_of_cell X1) (fun q => q)).trans X1; have Y2 := (HW1.cell (p := ⟨B, 2, none⟩) (lt_of_cell X2) (fun q => q)).trans X2; have hf1 : ∀ zz, (Value.slice a1 (0) c1).ownBlock = some zz → w5.heap.size ≤ zz := fun zz hz => by rcases mv1 zz hz with e | e; cases e; simp at e; omega)
          | (refine step_append_moved _ rfl (.tmp 47) (.tmp 49) 22 rfl 35 i0 _ 3 40 Try.underlying22 hi hz0 hz1 hz2 rfl (by decide) (.slice a1 (0) c1) (0) ((l.take (0)).flatMap itemC) (by first | (simp [Act.eval]; done) | simp [Act.eval, Act.put]) (own1.alloc _) ⟨wa1.heap.size, 0, none⟩ 1 1 [str x.key, str x.val, .int .i64 x.kind] (by first | (simp [Act.eval]; done) | simp [Act.eval, Act.put]) rfl (cells_new _ _ _ _) (by simp [Value.oneCell', str]) (by unfold maxLen; omega) (by omega) ?_; intro a2 c2 wa2 own2 gr2 mv2; have HW2 : Only (fun _ => False) w5 wa2 := (by first | exact HW1.grown gr2 (fun zz hz e => by have := hf1 zz e; omega) | exact (HW1.alloc _).grown gr2 (fun zz hz e => by have := hf1 zz e; omega)); have hf2 : ∀ zz, (Value.slice a2 (0 + 1) c2).ownBlock = some zz → w5.heap.size ≤ zz := fun zz hz => by rcases mv2 zz hz with e | e; exact hf1 zz e; have := HW1.size; (try simp at e); omega)
          | (refine step_append_moved _ rfl (.tmp 47) (.tmp 49) 22 rfl 35 i0 _ 3 40 Try.underlying22 hi hz0 hz1 hz2 rfl (by decide) (.slice a1 (0) c1) (0) ((l.take (0)).flatMap itemC) (by first | (simp [Act.eval]; done) | simp [Act.eval, Act.put]) own1 ⟨w5.heap.size, 0, none⟩ 1 1 [str x.key, str x.val, .int .i64 x.kind] (by first | (simp [Act.eval]; done) | simp [Act.eval, Act.put]) rfl (cells_later (W := w5.drew) _ _ hq1) (by simp [Value.oneCell', str]) (by unfold maxLen; omega) (by omega) ?_; intro a2 c2 wa2 own2 gr2 mv2; have HW2 : Only (fun _ => False) w5 wa2 := (by first | exact HW1.grown gr2 (fun zz hz e => by have := hf1 zz e; omega) | exact (HW1.alloc _).grown gr2 (fun zz hz e => by have := hf1 zz e; omega)); have hf2 : ∀ zz, (Value.slice a2 (0 + 1) c2).ownBlock = some zz → w5.heap.size ≤ zz := fun zz hz => by rcases mv2 zz hz with e | e; exact hf1 zz e; have := HW1.size; (try simp at e); omega)
          | (refine step_append_any _ rfl (.tmp 50) (.tmp 51) 22 rfl 35 i0 _ 3 40 Try.underlying22 hi hz0 hz1 hz2 rfl (by decide) (.slice a2 (0 + 1) c2) (0 + 1) _ (by first | (simp [Act.eval]; done) | simp [Act.eval, Act.put]) own2 ((none : Option Addr)) (0) 0 (([]).flatMap itemC) (by first | (simp [Act.eval]; done) | simp [Act.eval, Act.put]) hl3 (fun _ => ⟨rfl, rfl⟩) (HC3.out _ HW2) ho3 (by unfold maxLen; omega) (by omega) ?_; intro a3 c3 wa3 own3 gr3 mv3; have HWS := Lib.hid HW2.size; have HFIN := Lib.hid (And.intro own3 (And.intro (HW2.grown gr3 (fun zz hz e => by have := hf2 zz e; omega)) (And.intro mv3 hf2))); clear own3 gr3 mv3))
        all_goals
          go_wp2_with fail
          go_ret
          obtain ⟨own3, ow3, mv3, hf2⟩ := HFIN.out
          have hW := (HO0.out.trans (HO5.out.trans ow3 (fun _ _ q => q)) (fun _ _ q => q))
          have hs5 := (HO0.out.trans HO5.out (fun _ _ q => q)).size
          refine RowEnds.of own3 (by rw [HP.out]; simp only [List.length_append, List.length_take, List.length_cons, List.length_nil]; omega) (by rw [HP.out, List.flatMap_append, List.flatMap_cons, List.append_assoc]; rfl) hW (fun zz hz => ?_)
          rcases mv3 zz hz with e | e
          · have := hf2 zz e; omega
          · have := HWS.out; omega
      · obtain ⟨g, off, rfl⟩ := row_addr hrow
        have HRW := Lib.hid hrow
        clear hrow
        by_cases hlc : z < c
        · have hlc2 : (z : Int) < (c : Int) := by omega
          have hlc3 : (z : Int) ≤ (c : Int) := by omega
          go_wp2_with fail
          refine wp_region_grew (by kernel_rfl) (by kernel_rfl) (fun _W h0 h1 => ?_)
          repeat (refine h1 _ _ _ (fun K hK => ?_); go_simp; refine hK _ ?_; clear hK K)
          refine h0 _ (fun p => ?_)
          clear h0 h1 q9
          obtain ⟨w3, hw3⟩ : ∃ w3, p.u = w3 := ⟨_, rfl⟩
          have HO3 := Lib.hid (HO.out.trans p.h (fun _ _ q => q))
          rw [hw3] at *
          clear hw3 p HO
          have hN3 := (HO3.out.block B hB0 id).trans HN.out
          have X0 := heap_cell hN3 0
          simp only [List.getElem?_toArray, List.getElem?_cons_zero] at X0
          have q9 : ∀ p : Grew w3, p.u.cell? ⟨B, 0, none⟩ = some (str x.key) := fun p => p.cell X0
          clear X0 hN3
          go_wp2_with fail
          refine wp_region_grew (by kernel_rfl) (by kernel_rfl) (fun _W h0 h1 => ?_)
          repeat (refine h1 _ _ _ (fun K hK => ?_); go_simp; refine hK _ ?_; clear hK K)
          refine h0 _ (fun p5 => ?_)
          clear h0 h1 q9
          obtain ⟨w5, hw5⟩ : ∃ w5, p5.u = w5 := ⟨_, rfl⟩
          have HO5 := Lib.hid (HO3.out.trans p5.h (fun _ _ q => q))
          rw [hw5] at *
          clear hw5 p5 HO3
          have hN5 := (HO5.out.block B hB0 id).trans HN.out
          have X0 := heap_cell hN5 0
          have X1 := heap_cell hN5 1
          have X2 := heap_cell hN5 2
          simp only [List.getElem?_toArray, List.getElem?_cons_zero, List.getElem?_cons_succ] at X0 X1 X2
          have HTK : Hid (RowAt itemC 3 w5 (.slice (some (⟨g, off, none⟩ : Addr)) z c) (l.take (z))) := Lib.hid (row_take (row_only HV.out HO5.out (fun _ _ => id)) z z (by have := HLZ.out; omega) rfl)
          have HRE : Hid (RowAt itemC 3 w5 (.slice (some (⟨g, off + z * 3, none⟩ : Addr)) 0 (c - z)) ([])) := Lib.hid (row_none _ _ _ _)
          have HC1 := Lib.hid (row_read HTK.out)
          have HC3 := Lib.hid (row_read HRE.out)
          have hl1 : ((l.take (z)).flatMap itemC).length = z * 3 := by rw [flatI_length, List.length_take, HLZ.out, Nat.min_self]
          have hl3 : (([]).flatMap itemC).length = 0 * 3 := by rfl
          have ho1 : ∀ u ∈ (l.take (z)).flatMap itemC, u.oneCell' = true := one_items _
          have ho3 : ∀ u ∈ ([]).flatMap itemC, u.oneCell' = true := one_items _
          clear hN5
          go_wp2_with fail
          go_region_law (first
            | (refine step_append_any _ rfl (.const (.slice none 0 0)) (.tmp 46) 22 rfl 35 i0 _ 3 40 Try.underlying22 hi hz0 hz1 hz2 rfl (by decide) (.slice none 0 0) 0 [] (by first | (simp [Act.eval]; done) | simp [Act.eval, Act.put]) ⟨rfl, .inl ⟨rfl, rfl⟩⟩ (some (⟨g, off, none⟩ : Addr)) (z) c ((l.take (z)).flatMap itemC) (by first | (simp [Act.eval]; done) | simp [Act.eval, Act.put]) hl1 (fun e => by cases e) (HC1.out _ (by first | exact (Only.refl _ w5).drew | exact (Only.refl _ w5).drew.alloc _)) ho1 (by unfold maxLen; omega) (by omega) ?_; intro a1 c1 wa1 own1 gr1 mv1; rw [Nat.zero_add, List.nil_append] at own1; rw [Nat.zero_add] at mv1; have hq1 := (Only.refl (fun _ => False) _).grown gr1 (fun k _ h => by cases h); have HW1 : Only (fun _ => False) w5 wa1 := (by first | exact ((Only.refl _ w5).drew).trans hq1 (fun _ _ q => q) | exact (((Only.refl _ w5).drew).alloc _).trans hq1 (fun _ _ q => q)); have Y0 := (HW1.cell (p := ⟨B, 0, none⟩) (lt_of_cell X0) (fun q => q)).trans X0; have Y1 := (HW1.cell (p := ⟨B, 1, none⟩) (lt_of_cell X1) (fun q => q)).trans X1; have Y2 := (HW1.cell (p := ⟨B, 2, none⟩) (lt_of_cell X2) (fun q => q)).trans X2; have hf1 : ∀ zz, (Value.slice a1 (z) c1).ownBlock = some zz → w5.heap.size ≤ zz := fun zz hz => by rcases mv1 zz hz with e | e; cases e; simp at e; omega)
            | (refine step_append_moved _ rfl (.tmp 47) (.tmp 49) 22 rfl 35 i0 _ 3 40 Try.underlying22 hi hz0 hz1 hz2 rfl (by decide) (.slice a1 (z) c1) (z) ((l.take (z)).flatMap itemC) (by first | (simp [Act.eval]; done) | simp [Act.eval, Act.put]) (own1.alloc _) ⟨wa1.heap.size, 0, none⟩ 1 1 [str x.key, str x.val, .int .i64 x.kind] (by first | (simp [Act.eval]; done) | simp [Act.eval, Act.put]) rfl (cells_new _ _ _ _) (by simp [Value.oneCell', str]) (by unfold maxLen; omega) (by omega) ?_; intro a2 c2 wa2 own2 gr2 mv2; have HW2 : Only (fun _ => False) w5 wa2 := (by first | exact HW1.grown gr2 (fun zz hz e => by have := hf1 zz e; omega) | exact (HW1.alloc _).grown gr2 (fun zz hz e => by have := hf1 zz e; omega)); have hf2 : ∀ zz, (Value.slice a2 (z + 1) c2).ownBlock = some zz → w5.heap.size ≤ zz := fun zz hz => by rcases mv2 zz hz with e | e; exact hf1 zz e; have := HW1.size; (try simp at e); omega)
            | (refine step_append_moved _ rfl (.tmp 47) (.tmp 49) 22 rfl 35 i0 _ 3 40 Try.underlying22 hi hz0 hz1 hz2 rfl (by decide) (.slice a1 (z) c1) (z) ((l.take (z)).flatMap itemC) (by first | (simp [Act.eval]; done) | simp [Act.eval, Act.put]) own1 ⟨w5.heap.size, 0, none⟩ 1 1 [str x.key, str x.val, .int .i64 x.kind] (by first | (simp [Act.eval]; done) | simp [Act.eval, Act.put]) rfl (cells_later (W := w5.drew) _ _ hq1) (by simp [Value.oneCell', str]) (by unfold maxLen; omega) (by omega) ?_; intro a2 c2 wa2 own2 gr2 mv2; have HW2 : Only (fun _ => False) w5 wa2 := (by first | exact HW1.grown gr2 (fun zz hz e => by have := hf1 zz e; omega) | exact (HW1.alloc _).grown gr2 (fun zz hz e => by have := hf1 zz e; omega)); have hf2 : ∀ zz, (Value.slice a2 (z + 1) c2).ownBlock = some zz → w5.heap.size ≤ zz := fun zz hz => by rcases mv2 zz hz with e | e; exact hf1 zz e; have := HW1.size; (try simp at e); omega)
            | (refine step_append_any _ rfl (.tmp 50) (.tmp 51) 22 rfl 35 i0 _ 3 40 Try.underlying22 hi hz0 hz1 hz2 rfl (by decide) (.slice a2 (z + 1) c2) (z + 1) _ (by first | (simp [Act.eval]; done) | simp [Act.eval, Act.put]) own2 (some (⟨g, off + z * 3, none⟩ : Addr)) (0) (c - z) (([]).flatMap itemC) (by first | (simp [Act.eval]; done) | simp [Act.eval, Act.put]) hl3 (fun e => by cases e) (HC3.out _ HW2) ho3 (by unfold maxLen; omega) (by omega) ?_; intro a3 c3 wa3 own3 gr3 mv3; have HWS := Lib.hid HW2.size; have HFIN := Lib.hid (And.intro own3 (And.intro (HW2.grown gr3 (fun zz hz e => by have := hf2 zz e; omega)) (And.intro mv3 hf2))); clear own3 gr3 mv3))
          all_goals
            go_wp2_with fail
            go_ret
            obtain ⟨own3, ow3, mv3, hf2⟩ := HFIN.out
            have hW := (HO0.out.trans (HO5.out.trans ow3 (fun _ _ q => q)) (fun _ _ q => q))
            have hs5 := (HO0.out.trans HO5.out (fun _ _ q => q)).size
            refine RowEnds.of own3 (by rw [HP.out]; simp only [List.length_append, List.length_take, List.length_cons, List.length_nil]; have := HLZ.out; omega) (by rw [HP.out, List.flatMap_append, List.flatMap_cons, List.append_assoc]; rfl) hW (fun zz hz => ?_)
            rcases mv3 zz hz with e | e
            · have := hf2 zz e; omega
            · have := HWS.out; omega
        · obtain rfl : c = z := by omega
          go_wp2_with fail
          refine wp_region_grew (by kernel_rfl) (by kernel_rfl) (fun _W h0 h1 => ?_)
          repeat (refine h1 _ _ _ (fun K hK => ?_); go_simp; refine hK _ ?_; clear hK K)
          refine h0 _ (fun p => ?_)
          clear h0 h1 q9
          obtain ⟨w3, hw3⟩ : ∃ w3, p.u = w3 := ⟨_, rfl⟩
          have HO3 := Lib.hid (HO.out.trans p.h (fun _ _ q => q))
          rw [hw3] at *
          clear hw3 p HO
          have hN3 := (HO3.out.block B hB0 id).trans HN.out
          have X0 := heap_cell hN3 0
          simp only [List.getElem?_toArray, List.getElem?_cons_zero] at X0
          have q9 : ∀ p : Grew w3, p.u.cell? ⟨B, 0, none⟩ = some (str x.key) := fun p => p.cell X0
          clear X0 hN3
          go_wp2_with fail
          refine wp_region_grew (by kernel_rfl) (by kernel_rfl) (fun _W h0 h1 => ?_)
          repeat (refine h1 _ _ _ (fun K hK => ?_); go_simp; refine hK _ ?_; clear hK K)
          refine h0 _ (fun p5 => ?_)
          clear h0 h1 q9
          obtain ⟨w5, hw5⟩ : ∃ w5, p5.u = w5 := ⟨_, rfl⟩
          have HO5 := Lib.hid (HO3.out.trans p5.h (fun _ _ q => q))
          rw [hw5] at *
          clear hw5 p5 HO3
          have hN5 := (HO5.out.block B hB0 id).trans HN.out
          have X0 := heap_cell hN5 0
          have X1 := heap_cell hN5 1
          have X2 := heap_cell hN5 2
          simp only [List.getElem?_toArray, List.getElem?_cons_zero, List.getElem?_cons_succ] at X0 X1 X2
          have HTK : Hid (RowAt itemC 3 w5 (.slice (some (⟨g, off, none⟩ : Addr)) c c) (l.take (c))) := Lib.hid (row_take (row_only HV.out HO5.out (fun _ _ => id)) c c (by have := HLZ.out; omega) rfl)
          have HRE : Hid (RowAt itemC 3 w5 (.slice (some (⟨g, off, none⟩ : Addr)) 0 0) ([])) := Lib.hid (row_none _ _ _ _)
          have HC1 := Lib.hid (row_read HTK.out)
          have HC3 := Lib.hid (row_read HRE.out)
          have hl1 : ((l.take (c)).flatMap itemC).length = c * 3 := by rw [flatI_length, List.length_take, HLZ.out, Nat.min_self]
          have hl3 : (([]).flatMap itemC).length = 0 * 3 := by rfl
          have ho1 : ∀ u ∈ (l.take (c)).flatMap itemC, u.oneCell' = true := one_items _
          have ho3 : ∀ u ∈ ([]).flatMap itemC, u.oneCell' = true := one_items _
          clear hN5
          go_wp2_with fail
          go_region_law (first
            | (refine step_append_any _ rfl (.const (.slice none 0 0)) (.tmp 46) 22 rfl 35 i0 _ 3 40 Try.underlying22 hi hz0 hz1 hz2 rfl (by decide) (.slice none 0 0) 0 [] (by first | (simp [Act.eval]; done) | simp [Act.eval, Act.put]) ⟨rfl, .inl ⟨rfl, rfl⟩⟩ (some (⟨g, off, none⟩ : Addr)) (c) c ((l.take (c)).flatMap itemC) (by first | (simp [Act.eval]; done) | simp [Act.eval, Act.put]) hl1 (fun e => by cases e) (HC1.out _ (by first | exact (Only.refl _ w5).drew | exact (Only.refl _ w5).drew.alloc _)) ho1 (by unfold maxLen; omega) (by omega) ?_; intro a1 c1 wa1 own1 gr1 mv1; rw [Nat.zero_add, List.nil_append] at own1; rw [Nat.zero_add] at mv1; have hq1 := (Only.refl (fun _ => False) _).grown gr1 (fun k _ h => by cases h); have HW1 : Only (fun _ => False) w5 wa1 := (by first | exact ((Only.refl _ w5).drew).trans hq1 (fun _ _ q => q) | exact (((Only.refl _ w5).drew).alloc _).trans hq1 (fun _ _ q => q)); have Y0 := (HW1.cell (p := ⟨B, 0, none⟩) (lt_of_cell X0) (fun q => q)).trans X0; have Y1 := (HW1.cell (p := ⟨B, 1, none⟩) (lt_of_cell X1) (fun q => q)).trans X1; have Y2 := (HW1.cell (p := ⟨B, 2, none⟩) (lt_of_cell X2) (fun q => q)).trans X2; have hf1 : ∀ zz, (Value.slice a1 (c) c1).ownBlock = some zz → w5.heap.size ≤ zz := fun zz hz => by rcases mv1 zz hz with e | e; cases e; simp at e; omega)
            | (refine step_append_moved _ rfl (.tmp 47) (.tmp 49) 22 rfl 35 i0 _ 3 40 Try.underlying22 hi hz0 hz1 hz2 rfl (by decide) (.slice a1 (c) c1) (c) ((l.take (c)).flatMap itemC) (by first | (simp [Act.eval]; done) | simp [Act.eval, Act.put]) (own1.alloc _) ⟨wa1.heap.size, 0, none⟩ 1 1 [str x.key, str x.val, .int .i64 x.kind] (by first | (simp [Act.eval]; done) | simp [Act.eval, Act.put]) rfl (cells_new _ _ _ _) (by simp [Value.oneCell', str]) (by unfold maxLen; omega) (by omega) ?_; intro a2 c2 wa2 own2 gr2 mv2; have HW2 : Only (fun _ => False) w5 wa2 := (by first | exact HW1.grown gr2 (fun zz hz e => by have := hf1 zz e; omega) | exact (HW1.alloc _).grown gr2 (fun zz hz e => by have := hf1 zz e; omega)); have hf2 : ∀ zz, (Value.slice a2 (c + 1) c2).ownBlock = some zz → w5.heap.size ≤ zz := fun zz hz => by rcases mv2 zz hz with e | e; exact hf1 zz e; have := HW1.size; (try simp at e); omega)
            | (refine step_append_moved _ rfl (.tmp 47) (.tmp 49) 22 rfl 35 i0 _ 3 40 Try.underlying22 hi hz0 hz1 hz2 rfl (by decide) (.slice a1 (c) c1) (c) ((l.take (c)).flatMap itemC) (by first | (simp [Act.eval]; done) | simp [Act.eval, Act.put]) own1 ⟨w5.heap.size, 0, none⟩ 1 1 [str x.key, str x.val, .int .i64 x.kind] (by first | (simp [Act.eval]; done) | simp [Act.eval, Act.put]) rfl (cells_later (W := w5.drew) _ _ hq1) (by simp [Value.oneCell', str]) (by unfold maxLen; omega) (by omega) ?_; intro a2 c2 wa2 own2 gr2 mv2; have HW2 : Only (fun _ => False) w5 wa2 := (by first | exact HW1.grown gr2 (fun zz hz e => by have := hf1 zz e; omega) | exact (HW1.alloc _).grown gr2 (fun zz hz e => by have := hf1 zz e; omega)); have hf2 : ∀ zz, (Value.slice a2 (c + 1) c2).ownBlock = some zz → w5.heap.size ≤ zz := fun zz hz => by rcases mv2 zz hz with e | e; exact hf1 zz e; have := HW1.size; (try simp at e); omega)
            | (refine step_append_any _ rfl (.tmp 50) (.tmp 51) 22 rfl 35 i0 _ 3 40 Try.underlying22 hi hz0 hz1 hz2 rfl (by decide) (.slice a2 (c + 1) c2) (c + 1) _ (by first | (simp [Act.eval]; done) | simp [Act.eval, Act.put]) own2 (some (⟨g, off, none⟩ : Addr)) (0) 0 (([]).flatMap itemC) (by first | (simp [Act.eval]; done) | simp [Act.eval, Act.put]) hl3 (fun e => by cases e) (HC3.out _ HW2) ho3 (by unfold maxLen; omega) (by omega) ?_; intro a3 c3 wa3 own3 gr3 mv3; have HWS := Lib.hid HW2.size; have HFIN := Lib.hid (And.intro own3 (And.intro (HW2.grown gr3 (fun zz hz e => by have := hf2 zz e; omega)) (And.intro mv3 hf2))); clear own3 gr3 mv3))
          all_goals
            go_wp2_with fail
            go_ret
            obtain ⟨own3, ow3, mv3, hf2⟩ := HFIN.out
            have hW := (HO0.out.trans (HO5.out.trans ow3 (fun _ _ q => q)) (fun _ _ q => q))
            have hs5 := (HO0.out.trans HO5.out (fun _ _ q => q)).size
            refine RowEnds.of own3 (by rw [HP.out]; simp only [List.length_append, List.length_take, List.length_cons, List.length_nil]; have := HLZ.out; omega) (by rw [HP.out, List.flatMap_append, List.flatMap_cons, List.append_assoc]; rfl) hW (fun zz hz => ?_)
            rcases mv3 zz hz with e | e
            · have := hf2 zz e; omega
            · have := HWS.out; omega
end Go.Proofs.Ytcjaokmodicikaa
