/- The document's own list of numbers: one more, greater than all. Conditions: one goroutine; the list lies in memory; it is short. -/
import Derived.Test.YtklccpaphkpgfaaGreatZLaw3
import Derived.Test.YtklccpaphkpgfaaGreatZTree3
import Derived.Test.YtklccpaphkpgfaaGreatZSame
import Derived.BigRegion
namespace Go.Proofs.YtklccpaphkpgfaaGreat
open Go.RowKit

/-- How a new list of numbers is told. -/
def RowIEnds (w : World) (m : List Int) : Ending → World → Prop := fun e w' => ∃ v', e = .returned v' ∧ RowC intE 1 w' v' m ∧ Only (fun _ => False) w w' ∧ ∀ j, rowBlock v' = some j → w.heap.size ≤ j ∧ j < w'.heap.size
theorem one_ints (l : List Int) : ∀ u ∈ intsI l, u.oneCell' = true := fun u hu => by
  obtain ⟨x, _, rfl⟩ := List.mem_map.1 hu
  rfl
theorem intsI_length (l : List Int) : (intsI l).length = l.length * 1 := by simp [intsI]
theorem rowI_read {w : World} {a : Option Addr} {n c : Nat} {l : List Int} (h : RowAt intE 1 w (.slice a n c) l) : ∀ W, Only (fun _ => False) w W → ∀ ad, a = some ad → ∀ j u, (intsI l)[j]? = some u → W.cell? (ad.add j) = some u := by
  intro W hW ad e j u hu
  subst e
  obtain ⟨x, hx, rfl⟩ : ∃ x, l[j]? = some x ∧ .int .i64 x = u := by
    unfold intsI at hu
    rw [List.getElem?_map] at hu
    cases hl : l[j]? with
    | none => rw [hl] at hu; cases hu
    | some x => rw [hl] at hu; exact ⟨x, rfl, Option.some.inj hu⟩
  obtain ⟨g, off, e, hc⟩ := row_int h hx
  cases e
  rw [addr_add]
  exact (hW.cell (p := ⟨g, off + j, none⟩) (lt_of_cell hc) id).trans hc
-- WALK
theorem row_nilI {w : World} {a : Option Addr} {n c : Nat} {l : List Int} (h : RowAt intE 1 w (.slice a n c) l) : a = none → n = 0 ∧ c = 0 := by
  intro e
  subst e
  cases h with
  | none => exact ⟨rfl, rfl⟩
theorem row_addrI {w : World} {ad : Addr} {n c : Nat} {l : List Int} (h : RowAt intE 1 w (.slice (some ad) n c) l) : ∃ g off, ad = ⟨g, off, none⟩ := by
  cases h with
  | some g off => exact ⟨g, off, rfl⟩
theorem RowIEnds.of {w w' : World} {v' : Value} {m : List Int} {xs : List Value} {n : Nat} (own : w'.ownsRow 0 3 1 v' n xs) (hn : n = m.length) (hx : xs = intsI m) (ho : Only (fun _ => False) w w') (hb : ∀ j, v'.ownBlock = some j → w.heap.size ≤ j) : RowIEnds w m (.returned v') w' := by
  subst hn hx
  refine ⟨v', rfl, ⟨row_own (enc := intE) (k := 1) (fun _ => rfl) (by rw [← intsI_flat]; exact own), cap_own own⟩, ho, fun j hj => ?_⟩
  rw [rowBlock_own own] at hj
  exact ⟨hb j hj, (own.lt j hj).2⟩

set_option maxRecDepth 100000 in
set_option maxHeartbeats 8000000 in
theorem RPut_is (w : World) (v : Value) (l : List Int) (id : Int) (h : RowC intE 1 w v l) (hlt : ∀ x ∈ l, x < id) (hn : l.length ≤ 1000000) :
    Calls Tryz.prog 26 #[v, .int .i64 id] w (RowIEnds w (l ++ [id])) := by
  obtain ⟨i0, hi, hz0, hz1, hz2⟩ := info_parts intInfo5
  obtain ⟨a, c, rfl⟩ : ∃ a c, v = .slice a l.length c := by cases h.row with
    | none => exact ⟨_, _, rfl⟩
    | some g off cap => exact ⟨_, _, rfl⟩
  have hcl : l.length ≤ c := h.cap.1
  have hcl2 : c ≤ maxLen := h.cap.2
  have HV := Lib.hid h.row
  have HLT := Lib.hid hlt
  clear h hlt
  go_enter Tryz.func26, Tryz.ntmps26
  go_wp2_with fail
  go_loopg [5] l.length (fun gh kv wr => ∃ k : Nat, gh + k = l.length ∧ kv = .int .i64 k ∧ Only (fun _ => False) w wr)
  case atStart => exact ⟨0, by omega, rfl, Only.refl _ w⟩
  case round =>
    obtain ⟨k, hgk, rfl, ho⟩ := hrel
    have HO := Lib.hid ho
    by_cases hk : k < l.length
    · have hk1 : (k : Int) < (l.length : Int) := by omega
      have hk0 : (0 : Int) ≤ (k : Int) := by omega
      obtain ⟨y, hy⟩ : ∃ y, l[k]? = some y := ⟨_, List.getElem?_eq_getElem hk⟩
      obtain ⟨g, off, rfl, y0⟩ := row_int (row_only HV.out ho (fun _ _ => fun q => q)) hy
      have hyl : y < id := HLT.out y (List.mem_of_getElem? hy)
      have hw1 : IntKind.i64.wrap ((k : Int) + 1) = (k : Int) + 1 := by exact IntWalk.i64_in _ (by omega)
      clear ho hy
      go_wp2_with fail
      go_roundg (gk - 1)
      case measure => omega
      case rel => exact ⟨k + 1, by omega, by go_num, HO.out⟩
    · have hkl : k = l.length := by omega
      have HTK0 := row_only HV.out ho (fun _ _ => fun q => q)
      have hnil := row_nilI HV.out
      generalize hz : l.length = z at *
      have HLL := Lib.hid hz
      have HLN : Hid ((intsI l).length = z * 1) := Lib.hid (by rw [intsI_length, hz])
      obtain rfl : k = z := hkl
      have hk1 : ¬ (k : Int) < (k : Int) := by omega
      clear ho hk hgk hz
      generalize wr = w5 at *
      rcases a with _ | ad
      · obtain ⟨rfl, rfl⟩ := hnil rfl
        have HTK := Lib.hid HTK0
        clear HTK0 hnil hcl hcl2 hk1
        have HC1 := Lib.hid (rowI_read HTK.out)
        have hl1 : (intsI l).length = 0 * 1 := HLN.out
        have ho1 := one_ints l
        clear HTK
        go_wp2_with fail
        go_region_law (first
          | (refine step_append_any _ rfl (.const (.slice none 0 0)) (.tmp 35) 55 rfl 3 i0 _ 1 8 Tryz.underlying55 hi hz0 hz1 hz2 rfl (by decide) (.slice none 0 0) 0 [] (by first | (simp [Act.eval]; done) | simp [Act.eval, Act.put]) ⟨rfl, .inl ⟨rfl, rfl⟩⟩ (none : Option Addr) 0 0 (intsI l) (by first | (simp [Act.eval]; done) | simp [Act.eval, Act.put]) hl1 (fun _ => ⟨rfl, rfl⟩) (HC1.out _ (by first | exact (Only.refl _ w5).drew | exact (Only.refl _ w5).drew.alloc _)) ho1 (by unfold maxLen; omega) (by omega) ?_; intro a1 c1 wa1 own1 gr1 mv1; rw [Nat.zero_add, List.nil_append] at own1; rw [Nat.zero_add] at mv1; have hq1 := (Only.refl (fun _ => False) _).grown gr1 (fun k _ h => by cases h); have HW1 : Only (fun _ => False) w5 wa1 := (by first | exact ((Only.refl _ w5).drew).trans hq1 (fun _ _ q => q) | exact (((Only.refl _ w5).drew).alloc _).trans hq1 (fun _ _ q => q)); have hf1 : ∀ zz, (Value.slice a1 (0) c1).ownBlock = some zz → w5.heap.size ≤ zz := fun zz hz => by rcases mv1 zz hz with e | e; cases e; simp at e; omega)
          | (refine step_append_moved _ rfl (.tmp 36) (.tmp 38) 55 rfl 3 i0 _ 1 8 Tryz.underlying55 hi hz0 hz1 hz2 rfl (by decide) (.slice a1 (0) c1) (0) (intsI l) (by first | (simp [Act.eval]; done) | simp [Act.eval, Act.put]) (own1.alloc _) ⟨wa1.heap.size, 0, none⟩ 1 1 [.int .i64 id] (by first | (simp [Act.eval]; done) | simp [Act.eval, Act.put]) rfl (cells_new _ _ _ _) (by simp [Value.oneCell']) (by unfold maxLen; omega) (by omega) ?_; intro a2 c2 wa2 own2 gr2 mv2; have HW2 : Only (fun _ => False) w5 wa2 := (by first | exact HW1.grown gr2 (fun zz hz e => by have := hf1 zz e; omega) | exact (HW1.alloc _).grown gr2 (fun zz hz e => by have := hf1 zz e; omega)); have hf2 : ∀ zz, (Value.slice a2 (0 + 1) c2).ownBlock = some zz → w5.heap.size ≤ zz := fun zz hz => by rcases mv2 zz hz with e | e; exact hf1 zz e; have := HW1.size; (try simp at e); omega)
          | (refine step_append_moved _ rfl (.tmp 36) (.tmp 38) 55 rfl 3 i0 _ 1 8 Tryz.underlying55 hi hz0 hz1 hz2 rfl (by decide) (.slice a1 (0) c1) (0) (intsI l) (by first | (simp [Act.eval]; done) | simp [Act.eval, Act.put]) own1 ⟨w5.heap.size, 0, none⟩ 1 1 [.int .i64 id] (by first | (simp [Act.eval]; done) | simp [Act.eval, Act.put]) rfl (cells_later (W := w5.drew) _ _ hq1) (by simp [Value.oneCell']) (by unfold maxLen; omega) (by omega) ?_; intro a2 c2 wa2 own2 gr2 mv2; have HW2 : Only (fun _ => False) w5 wa2 := (by first | exact HW1.grown gr2 (fun zz hz e => by have := hf1 zz e; omega) | exact (HW1.alloc _).grown gr2 (fun zz hz e => by have := hf1 zz e; omega)); have hf2 : ∀ zz, (Value.slice a2 (0 + 1) c2).ownBlock = some zz → w5.heap.size ≤ zz := fun zz hz => by rcases mv2 zz hz with e | e; exact hf1 zz e; have := HW1.size; (try simp at e); omega)
          | (refine step_append_any _ rfl (.tmp 39) (.tmp 42) 55 rfl 3 i0 _ 1 8 Tryz.underlying55 hi hz0 hz1 hz2 rfl (by decide) (.slice a2 (0 + 1) c2) (0 + 1) _ (by first | (simp [Act.eval]; done) | simp [Act.eval, Act.put]) own2 (none : Option Addr) 0 0 [] (by first | (simp [Act.eval]; done) | simp [Act.eval, Act.put]) rfl (fun _ => ⟨rfl, rfl⟩) (fun ad _ j u hu => by cases hu) (fun u hu => by cases hu) (by unfold maxLen; omega) (by omega) ?_; intro a3 c3 wa3 own3 gr3 mv3; have HWS := Lib.hid HW2.size; have HFIN := Lib.hid (And.intro own3 (And.intro (HW2.grown gr3 (fun zz hz e => by have := hf2 zz e; omega)) (And.intro mv3 hf2))); clear own3 gr3 mv3))
        all_goals
          go_wp2_with fail
          go_ret
          obtain ⟨own3, ow3, mv3, hf2⟩ := HFIN.out
          refine RowIEnds.of (m := l ++ [id]) own3 (by rw [List.length_append, List.length_singleton, HLL.out]) (by simp [intsI]) (HO.out.trans ow3 (fun _ _ q => q)) (fun zz hz => ?_)
          have h9 := HO.out.size
          rcases mv3 zz hz with e | e
          · have := hf2 zz e; omega
          · have := HWS.out; omega
      · obtain ⟨g, off, rfl⟩ := row_addrI HTK0
        have HTK := Lib.hid HTK0
        clear HTK0 hnil
        by_cases hkd : k < c
        · have hkd2 : (k : Int) < (c : Int) := by omega
          have hkd3 : (k : Int) ≤ (c : Int) := by omega
          have hkd4 : (0 : Int) ≤ (k : Int) := by omega
          have hkd5 : ¬ c = k := by omega
          have HC1 := Lib.hid (rowI_read HTK.out)
          have hl1 : (intsI l).length = k * 1 := HLN.out
          have ho1 := one_ints l
          clear HTK
          go_wp2_with fail
          go_region_law (first
            | (refine step_append_any _ rfl (.const (.slice none 0 0)) (.tmp 35) 55 rfl 3 i0 _ 1 8 Tryz.underlying55 hi hz0 hz1 hz2 rfl (by decide) (.slice none 0 0) 0 [] (by first | (simp [Act.eval]; done) | simp [Act.eval, Act.put]) ⟨rfl, .inl ⟨rfl, rfl⟩⟩ (some (⟨g, off, none⟩ : Addr)) k c (intsI l) (by first | (simp [Act.eval]; done) | simp [Act.eval, Act.put]) hl1 (fun e => by cases e) (HC1.out _ (by first | exact (Only.refl _ w5).drew | exact (Only.refl _ w5).drew.alloc _)) ho1 (by unfold maxLen; omega) (by omega) ?_; intro a1 c1 wa1 own1 gr1 mv1; rw [Nat.zero_add, List.nil_append] at own1; rw [Nat.zero_add] at mv1; have hq1 := (Only.refl (fun _ => False) _).grown gr1 (fun k _ h => by cases h); have HW1 : Only (fun _ => False) w5 wa1 := (by first | exact ((Only.refl _ w5).drew).trans hq1 (fun _ _ q => q) | exact (((Only.refl _ w5).drew).alloc _).trans hq1 (fun _ _ q => q)); have hf1 : ∀ zz, (Value.slice a1 (k) c1).ownBlock = some zz → w5.heap.size ≤ zz := fun zz hz => by rcases mv1 zz hz with e | e; cases e; simp at e; omega)
            | (refine step_append_moved _ rfl (.tmp 36) (.tmp 38) 55 rfl 3 i0 _ 1 8 Tryz.underlying55 hi hz0 hz1 hz2 rfl (by decide) (.slice a1 (k) c1) (k) (intsI l) (by first | (simp [Act.eval]; done) | simp [Act.eval, Act.put]) (own1.alloc _) ⟨wa1.heap.size, 0, none⟩ 1 1 [.int .i64 id] (by first | (simp [Act.eval]; done) | simp [Act.eval, Act.put]) rfl (cells_new _ _ _ _) (by simp [Value.oneCell']) (by unfold maxLen; omega) (by omega) ?_; intro a2 c2 wa2 own2 gr2 mv2; have HW2 : Only (fun _ => False) w5 wa2 := (by first | exact HW1.grown gr2 (fun zz hz e => by have := hf1 zz e; omega) | exact (HW1.alloc _).grown gr2 (fun zz hz e => by have := hf1 zz e; omega)); have hf2 : ∀ zz, (Value.slice a2 (k + 1) c2).ownBlock = some zz → w5.heap.size ≤ zz := fun zz hz => by rcases mv2 zz hz with e | e; exact hf1 zz e; have := HW1.size; (try simp at e); omega)
            | (refine step_append_moved _ rfl (.tmp 36) (.tmp 38) 55 rfl 3 i0 _ 1 8 Tryz.underlying55 hi hz0 hz1 hz2 rfl (by decide) (.slice a1 (k) c1) (k) (intsI l) (by first | (simp [Act.eval]; done) | simp [Act.eval, Act.put]) own1 ⟨w5.heap.size, 0, none⟩ 1 1 [.int .i64 id] (by first | (simp [Act.eval]; done) | simp [Act.eval, Act.put]) rfl (cells_later (W := w5.drew) _ _ hq1) (by simp [Value.oneCell']) (by unfold maxLen; omega) (by omega) ?_; intro a2 c2 wa2 own2 gr2 mv2; have HW2 : Only (fun _ => False) w5 wa2 := (by first | exact HW1.grown gr2 (fun zz hz e => by have := hf1 zz e; omega) | exact (HW1.alloc _).grown gr2 (fun zz hz e => by have := hf1 zz e; omega)); have hf2 : ∀ zz, (Value.slice a2 (k + 1) c2).ownBlock = some zz → w5.heap.size ≤ zz := fun zz hz => by rcases mv2 zz hz with e | e; exact hf1 zz e; have := HW1.size; (try simp at e); omega)
            | (refine step_append_any _ rfl (.tmp 39) (.tmp 42) 55 rfl 3 i0 _ 1 8 Tryz.underlying55 hi hz0 hz1 hz2 rfl (by decide) (.slice a2 (k + 1) c2) (k + 1) _ (by first | (simp [Act.eval]; done) | simp [Act.eval, Act.put]) own2 (some (⟨g, off + k, none⟩ : Addr)) 0 (c - k) [] (by first | (simp [Act.eval]; done) | simp [Act.eval, Act.put]) rfl (fun e => by cases e) (fun ad _ j u hu => by cases hu) (fun u hu => by cases hu) (by unfold maxLen; omega) (by omega) ?_; intro a3 c3 wa3 own3 gr3 mv3; have HWS := Lib.hid HW2.size; have HFIN := Lib.hid (And.intro own3 (And.intro (HW2.grown gr3 (fun zz hz e => by have := hf2 zz e; omega)) (And.intro mv3 hf2))); clear own3 gr3 mv3))
          all_goals
            go_wp2_with fail
            go_ret
            obtain ⟨own3, ow3, mv3, hf2⟩ := HFIN.out
            refine RowIEnds.of (m := l ++ [id]) own3 (by rw [List.length_append, List.length_singleton, HLL.out]) (by simp [intsI]) (HO.out.trans ow3 (fun _ _ q => q)) (fun zz hz => ?_)
            have h9 := HO.out.size
            rcases mv3 zz hz with e | e
            · have := hf2 zz e; omega
            · have := HWS.out; omega
        · obtain rfl : c = k := by omega
          have hkd4 : (0 : Int) ≤ (c : Int) := by omega
          have HC1 := Lib.hid (rowI_read HTK.out)
          have hl1 : (intsI l).length = c * 1 := HLN.out
          have ho1 := one_ints l
          clear HTK
          go_wp2_with fail
          go_region_law (first
            | (refine step_append_any _ rfl (.const (.slice none 0 0)) (.tmp 35) 55 rfl 3 i0 _ 1 8 Tryz.underlying55 hi hz0 hz1 hz2 rfl (by decide) (.slice none 0 0) 0 [] (by first | (simp [Act.eval]; done) | simp [Act.eval, Act.put]) ⟨rfl, .inl ⟨rfl, rfl⟩⟩ (some (⟨g, off, none⟩ : Addr)) c c (intsI l) (by first | (simp [Act.eval]; done) | simp [Act.eval, Act.put]) hl1 (fun e => by cases e) (HC1.out _ (by first | exact (Only.refl _ w5).drew | exact (Only.refl _ w5).drew.alloc _)) ho1 (by unfold maxLen; omega) (by omega) ?_; intro a1 c1 wa1 own1 gr1 mv1; rw [Nat.zero_add, List.nil_append] at own1; rw [Nat.zero_add] at mv1; have hq1 := (Only.refl (fun _ => False) _).grown gr1 (fun k _ h => by cases h); have HW1 : Only (fun _ => False) w5 wa1 := (by first | exact ((Only.refl _ w5).drew).trans hq1 (fun _ _ q => q) | exact (((Only.refl _ w5).drew).alloc _).trans hq1 (fun _ _ q => q)); have hf1 : ∀ zz, (Value.slice a1 (c) c1).ownBlock = some zz → w5.heap.size ≤ zz := fun zz hz => by rcases mv1 zz hz with e | e; cases e; simp at e; omega)
            | (refine step_append_moved _ rfl (.tmp 36) (.tmp 38) 55 rfl 3 i0 _ 1 8 Tryz.underlying55 hi hz0 hz1 hz2 rfl (by decide) (.slice a1 (c) c1) (c) (intsI l) (by first | (simp [Act.eval]; done) | simp [Act.eval, Act.put]) (own1.alloc _) ⟨wa1.heap.size, 0, none⟩ 1 1 [.int .i64 id] (by first | (simp [Act.eval]; done) | simp [Act.eval, Act.put]) rfl (cells_new _ _ _ _) (by simp [Value.oneCell']) (by unfold maxLen; omega) (by omega) ?_; intro a2 c2 wa2 own2 gr2 mv2; have HW2 : Only (fun _ => False) w5 wa2 := (by first | exact HW1.grown gr2 (fun zz hz e => by have := hf1 zz e; omega) | exact (HW1.alloc _).grown gr2 (fun zz hz e => by have := hf1 zz e; omega)); have hf2 : ∀ zz, (Value.slice a2 (c + 1) c2).ownBlock = some zz → w5.heap.size ≤ zz := fun zz hz => by rcases mv2 zz hz with e | e; exact hf1 zz e; have := HW1.size; (try simp at e); omega)
            | (refine step_append_moved _ rfl (.tmp 36) (.tmp 38) 55 rfl 3 i0 _ 1 8 Tryz.underlying55 hi hz0 hz1 hz2 rfl (by decide) (.slice a1 (c) c1) (c) (intsI l) (by first | (simp [Act.eval]; done) | simp [Act.eval, Act.put]) own1 ⟨w5.heap.size, 0, none⟩ 1 1 [.int .i64 id] (by first | (simp [Act.eval]; done) | simp [Act.eval, Act.put]) rfl (cells_later (W := w5.drew) _ _ hq1) (by simp [Value.oneCell']) (by unfold maxLen; omega) (by omega) ?_; intro a2 c2 wa2 own2 gr2 mv2; have HW2 : Only (fun _ => False) w5 wa2 := (by first | exact HW1.grown gr2 (fun zz hz e => by have := hf1 zz e; omega) | exact (HW1.alloc _).grown gr2 (fun zz hz e => by have := hf1 zz e; omega)); have hf2 : ∀ zz, (Value.slice a2 (c + 1) c2).ownBlock = some zz → w5.heap.size ≤ zz := fun zz hz => by rcases mv2 zz hz with e | e; exact hf1 zz e; have := HW1.size; (try simp at e); omega)
            | (refine step_append_any _ rfl (.tmp 39) (.tmp 42) 55 rfl 3 i0 _ 1 8 Tryz.underlying55 hi hz0 hz1 hz2 rfl (by decide) (.slice a2 (c + 1) c2) (c + 1) _ (by first | (simp [Act.eval]; done) | simp [Act.eval, Act.put]) own2 (some (⟨g, off, none⟩ : Addr)) 0 0 [] (by first | (simp [Act.eval]; done) | simp [Act.eval, Act.put]) rfl (fun e => by cases e) (fun ad _ j u hu => by cases hu) (fun u hu => by cases hu) (by unfold maxLen; omega) (by omega) ?_; intro a3 c3 wa3 own3 gr3 mv3; have HWS := Lib.hid HW2.size; have HFIN := Lib.hid (And.intro own3 (And.intro (HW2.grown gr3 (fun zz hz e => by have := hf2 zz e; omega)) (And.intro mv3 hf2))); clear own3 gr3 mv3))
          all_goals
            go_wp2_with fail
            go_ret
            obtain ⟨own3, ow3, mv3, hf2⟩ := HFIN.out
            refine RowIEnds.of (m := l ++ [id]) own3 (by rw [List.length_append, List.length_singleton, HLL.out]) (by simp [intsI]) (HO.out.trans ow3 (fun _ _ q => q)) (fun zz hz => ?_)
            have h9 := HO.out.size
            rcases mv3 zz hz with e | e
            · have := hf2 zz e; omega
            · have := HWS.out; omega
end Go.Proofs.YtklccpaphkpgfaaGreat

namespace Go.Proofs.YtklccpaphkpgfaaGreat
open Go.RowKit

set_option maxRecDepth 100000 in
set_option maxHeartbeats 2000000 in
theorem SameN_is (w : World) (va vb : Value) (l : List Int) (ha : RowAt intE 1 w va l) (hb : RowAt intE 1 w vb l) (hn : l.length ≤ 1000000) : Calls Tryz.prog 27 #[va, vb] w fun e w' => e = .returned (.bool true) ∧ Only (fun _ => False) w w' := by
  obtain ⟨a1, c1, rfl⟩ : ∃ a c, va = .slice a l.length c := by cases ha with
    | none => exact ⟨_, _, rfl⟩
    | some g off cap => exact ⟨_, _, rfl⟩
  obtain ⟨a2, c2, rfl⟩ : ∃ a c, vb = .slice a l.length c := by cases hb with
    | none => exact ⟨_, _, rfl⟩
    | some g off cap => exact ⟨_, _, rfl⟩
  have HA := Lib.hid ha
  have HB := Lib.hid hb
  clear ha hb
  go_enter Tryz.func27, Tryz.ntmps27
  go_wp2_with fail
  go_loopg [5] l.length (fun gh iv wr => ∃ k : Nat, gh + k = l.length ∧ iv = .int .i64 k ∧ Only (fun _ => False) w wr)
  case atStart => exact ⟨0, by omega, rfl, Only.refl _ w⟩
  case round =>
    obtain ⟨k, hgk, rfl, ho⟩ := hrel
    have HO := Lib.hid ho
    clear ho
    by_cases hk : k < l.length
    · have hk1 : (k : Int) < (l.length : Int) := by omega
      have hk0 : (0 : Int) ≤ (k : Int) := by omega
      obtain ⟨x, hx⟩ : ∃ x, l[k]? = some x := ⟨_, List.getElem?_eq_getElem hk⟩
      obtain ⟨g1, off1, rfl, i0⟩ := row_int (row_only HA.out HO.out (fun _ _ => id)) hx
      obtain ⟨g2, off2, rfl, j0⟩ := row_int (row_only HB.out HO.out (fun _ _ => id)) hx
      have hw1 : IntKind.i64.wrap ((k : Int) + 1) = (k : Int) + 1 := by exact IntWalk.i64_in _ (by omega)
      have HH := Lib.hid (HO.out.drew)
      clear hx
      go_wp2_with fail
      go_region
      all_goals
        go_wp2_with fail
        go_roundg (gk - 1)
        case measure => omega
        case rel => exact ⟨k + 1, by omega, by go_num, HH.out⟩
    · obtain rfl : k = l.length := by omega
      have hk1 : ¬ (l.length : Int) < (l.length : Int) := by omega
      go_wp2_with fail
      go_ret
      exact ⟨rfl, HO.out⟩
end Go.Proofs.YtklccpaphkpgfaaGreat
