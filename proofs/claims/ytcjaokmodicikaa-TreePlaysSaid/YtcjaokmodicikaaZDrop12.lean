/- The law's own functions: a list with one item less. Conditions: one goroutine; the list lies in memory, its keys rise; it is short. (Printed by wip/gen/drop12.py.) -/
import Derived.Test.YtcjaokmodicikaaZPut12
namespace Go.Proofs.Ytcjaokmodicikaa
open Go.RowKit

/-- How a list with one item less is told. -/
def DropEnds (w : World) (v : Value) (r : List Item × Bool) : Ending → World → Prop := fun e w' => ∃ v', e = .returned (.tuple #[v', .bool r.2]) ∧ RowC itemC 3 w' v' r.1 ∧ Only (fun _ => False) w w' ∧ ∀ j, rowBlock v' = some j → (w.heap.size ≤ j ∧ j < w'.heap.size) ∨ rowBlock v = some j
theorem DropEnds.of {w w' : World} {v v' : Value} {r : List Item × Bool} {m : List Item} {xs : List Value} {n : Nat} (own : w'.ownsRow 0 35 3 v' n xs) (hr : r = (m, true)) (hn : n = m.length) (hx : xs = m.flatMap itemC) (ho : Only (fun _ => False) w w') (hb : ∀ j, v'.ownBlock = some j → w.heap.size ≤ j) : DropEnds w v r (.returned (.tuple #[v', .bool true])) w' := by
  subst hn hx hr
  refine ⟨v', rfl, ⟨row_own (fun _ => rfl) own, cap_own own⟩, ho, fun j hj => .inl ?_⟩
  rw [rowBlock_own own] at hj
  exact ⟨hb j hj, (own.lt j hj).2⟩

set_option maxRecDepth 100000 in
set_option maxHeartbeats 8000000 in
theorem ldrop_is (w : World) (v : Value) (l : List Item) (key : Bytes) (h : RowC itemC 3 w v l) (hr : Rising l) (hn : l.length ≤ 1000000) :
    Calls Try.prog 26 #[v, str key] w (DropEnds w v (dropL l key)) := by
  obtain ⟨i0, hi, hz0, hz1, hz2⟩ := info_parts itemInfo
  obtain ⟨a, c, rfl⟩ := row_form h.row
  have hcl : l.length ≤ c := h.cap.1
  have HCAP := Lib.hid h.cap
  have HV := Lib.hid h.row
  have HR := Lib.hid hr
  clear h hr
  go_enter Try.func26, Try.ntmps26
  go_wp2_with fail
  go_loopg [6] l.length (fun gh kv wr => ∃ k : Nat, gh + k = l.length ∧ kv = .int .i64 k ∧ Only (fun _ => False) w wr ∧ ∀ (i : Nat) (y : Item), i < k → l[i]? = some y → y.key ≠ key)
  case atStart => exact ⟨0, by omega, rfl, Only.refl _ w, fun i y q => by omega⟩
  case round =>
    obtain ⟨k, hgk, rfl, ho, hbe⟩ := hrel
    have HO := Lib.hid ho
    have HBE := Lib.hid hbe
    clear ho hbe
    by_cases hk : k < l.length
    · have hk1 : (k : Int) < (l.length : Int) := by omega
      have hk0 : (0 : Int) ≤ (k : Int) := by omega
      obtain ⟨y, hy⟩ : ∃ y, l[k]? = some y := ⟨_, List.getElem?_eq_getElem hk⟩
      have hrow := row_only HV.out HO.out (fun _ _ => id)
      obtain ⟨g, off, rfl, y0, _, _⟩ := row_item hrow hy
      have hw1 : IntKind.i64.wrap ((k : Int) + 1) = (k : Int) + 1 := by exact IntWalk.i64_in _ (by omega)
      have HY := Lib.hid hy
      have HRW := Lib.hid hrow
      clear hy hrow
      obtain ⟨beq, hbeq⟩ : ∃ beq, (y.key == key) = beq := ⟨_, rfl⟩
      cases beq with
      | false =>
        go_wp2_with fail
        go_roundg (gk - 1)
        case measure => omega
        case rel => exact ⟨k + 1, by omega, by go_num, HO.out, fun i z hi2 hz => by
          rcases Nat.lt_or_ge i k with q | q
          · exact HBE.out i z q hz
          · obtain rfl : i = k := by omega
            rw [HY.out] at hz
            cases hz
            intro e
            rw [e] at hbeq
            simp at hbeq⟩
      | true =>
        have hyx : y.key = key := by simpa using hbeq
        have hkk : (key == key) = true := by simp
        rw [hyx] at y0
        have HP : Hid (dropL l key = (l.take k ++ l.drop (k + 1), true)) := Lib.hid (by
          obtain ⟨h1, h2⟩ := findAt_eq HR.out HY.out hyx
          have := dropL_cut l key
          rwa [h1, h2, if_pos rfl] at this)
        have hkc : (k : Int) < (c : Int) := by omega
        have hkc2 : k < c := by omega
        have hkc3 : (k : Int) ≤ (c : Int) := by omega
        have hkl : (k : Int) ≤ (l.length : Int) := by omega
        have hlc : (l.length : Int) ≤ (c : Int) := by omega
        have hkq : (0 : Int) ≤ (k : Int) + 1 := by omega
        by_cases hkd : k + 1 < c
        · have hkd2 : (k : Int) + 1 < (c : Int) := by omega
          have hkd3 : (k : Int) + 1 ≤ (l.length : Int) := by omega
          have hkd4 : ¬ c = k + 1 := by omega
          have HTK : Hid (RowAt itemC 3 wr (.slice (some (⟨g, off, none⟩ : Addr)) k c) (l.take (k))) := Lib.hid (row_take (HRW.out) k k (by omega) rfl)
          have HRE : Hid (RowAt itemC 3 wr (.slice (some (⟨g, off + (k + 1) * 3, none⟩ : Addr)) (l.length - (k + 1)) (c - (k + 1))) (l.drop (k + 1))) := Lib.hid (row_drop (HRW.out) (k + 1) _ _ _ rfl rfl)
          have HC1 := Lib.hid (row_read HTK.out)
          have HC3 := Lib.hid (row_read HRE.out)
          have hl1 : ((l.take (k)).flatMap itemC).length = k * 3 := by rw [flatI_length, List.length_take, Nat.min_eq_left (by omega)]
          have hl3 : ((l.drop (k + 1)).flatMap itemC).length = (l.length - (k + 1)) * 3 := by rw [flatI_length, List.length_drop]
          have ho1 : ∀ u ∈ (l.take (k)).flatMap itemC, u.oneCell' = true := one_items _
          have ho3 : ∀ u ∈ (l.drop (k + 1)).flatMap itemC, u.oneCell' = true := one_items _
          go_wp2_with fail
          go_region_law (first
            | (refine step_append_any _ rfl (.const (.slice none 0 0)) (.tmp 22) 22 rfl 35 i0 _ 3 40 Try.underlying22 hi hz0 hz1 hz2 rfl (by decide) (.slice none 0 0) 0 [] (by first | (simp [Act.eval]; done) | simp [Act.eval, Act.put]) ⟨rfl, .inl ⟨rfl, rfl⟩⟩ (some (⟨g, off, none⟩ : Addr)) (k) c ((l.take (k)).flatMap itemC) (by first | (simp [Act.eval]; done) | simp [Act.eval, Act.put]) hl1 (fun e => by cases e) (HC1.out _ (Only.refl _ wr).drew) ho1 (by unfold maxLen; omega) (by omega) ?_; intro a1 c1 wa1 own1 gr1 mv1; rw [Nat.zero_add, List.nil_append] at own1; rw [Nat.zero_add] at mv1; have HW1 : Only (fun _ => False) wr wa1 := ((Only.refl _ wr).drew).trans ((Only.refl (fun _ => False) _).grown gr1 (fun k _ h => by cases h)) (fun _ _ q => q); have hf1 : ∀ zz, (Value.slice a1 (k) c1).ownBlock = some zz → wr.heap.size ≤ zz := fun zz hzz => by rcases mv1 zz hzz with e | e; cases e; simp at e; omega)
            | (refine step_append_any _ rfl (.tmp 23) (.tmp 27) 22 rfl 35 i0 _ 3 40 Try.underlying22 hi hz0 hz1 hz2 rfl (by decide) (.slice a1 (k) c1) (k) _ (by first | (simp [Act.eval]; done) | simp [Act.eval, Act.put]) own1 (some (⟨g, off + (k + 1) * 3, none⟩ : Addr)) ((l.length - (k + 1))) (c - (k + 1)) ((l.drop (k + 1)).flatMap itemC) (by first | (simp [Act.eval]; done) | simp [Act.eval, Act.put]) hl3 (fun e => by cases e) (HC3.out _ HW1) ho3 (by unfold maxLen; omega) (by omega) ?_; intro a3 c3 wa3 own3 gr3 mv3; have HWS := Lib.hid HW1.size; have HFIN := Lib.hid (And.intro own3 (And.intro (HW1.grown gr3 (fun zz hzz e => by have := hf1 zz e; omega)) (And.intro mv3 hf1))); clear own3 gr3 mv3))
          all_goals
            go_wp2_with fail
            go_ret2
            obtain ⟨own3, ow3, mv3, hf2⟩ := HFIN.out
            have hW := HO.out.trans ow3 (fun _ _ q => q)
            have hs5 := HO.out.size
            refine DropEnds.of own3 HP.out (by simp only [List.length_append, List.length_take, List.length_drop]; omega) (by rw [List.flatMap_append]) hW (fun zz hzz => ?_)
            rcases mv3 zz hzz with e | e
            · have := hf2 zz e; omega
            · have := HWS.out; omega
        · obtain rfl : c = k + 1 := by omega
          have hk8 : (k : Int) ≤ (k : Int) + 1 := by omega
          have hk9 : (k : Int) < (k : Int) + 1 := by omega
          have hk7 : k ≤ k + 1 := by omega
          have hk6 : (k : Int) + 1 ≤ (l.length : Int) := by omega
          have hll : Hid (l.length = k + 1) := Lib.hid (by omega)
          have HTK : Hid (RowAt itemC 3 wr (.slice (some (⟨g, off, none⟩ : Addr)) k (k + 1)) (l.take (k))) := Lib.hid (row_take (HRW.out) k k (by omega) rfl)
          have HRE : Hid (RowAt itemC 3 wr (.slice (some (⟨g, off, none⟩ : Addr)) 0 0) (l.drop (k + 1))) := Lib.hid (row_eq (row_none _ _ _ _) (List.drop_eq_nil_of_le (by have := hll.out; omega)).symm)
          have HC1 := Lib.hid (row_read HTK.out)
          have HC3 := Lib.hid (row_read HRE.out)
          have hl1 : ((l.take (k)).flatMap itemC).length = k * 3 := by rw [flatI_length, List.length_take, Nat.min_eq_left (by omega)]
          have hl3 : ((l.drop (k + 1)).flatMap itemC).length = 0 * 3 := by rw [flatI_length, List.length_drop]; have := hll.out; omega
          have ho1 : ∀ u ∈ (l.take (k)).flatMap itemC, u.oneCell' = true := one_items _
          have ho3 : ∀ u ∈ (l.drop (k + 1)).flatMap itemC, u.oneCell' = true := one_items _
          go_wp2_with fail
          go_region_law (first
            | (refine step_append_any _ rfl (.const (.slice none 0 0)) (.tmp 22) 22 rfl 35 i0 _ 3 40 Try.underlying22 hi hz0 hz1 hz2 rfl (by decide) (.slice none 0 0) 0 [] (by first | (simp [Act.eval]; done) | simp [Act.eval, Act.put]) ⟨rfl, .inl ⟨rfl, rfl⟩⟩ (some (⟨g, off, none⟩ : Addr)) (k) (k + 1) ((l.take (k)).flatMap itemC) (by first | (simp [Act.eval]; done) | simp [Act.eval, Act.put]) hl1 (fun e => by cases e) (HC1.out _ (Only.refl _ wr).drew) ho1 (by unfold maxLen; omega) (by omega) ?_; intro a1 c1 wa1 own1 gr1 mv1; rw [Nat.zero_add, List.nil_append] at own1; rw [Nat.zero_add] at mv1; have HW1 : Only (fun _ => False) wr wa1 := ((Only.refl _ wr).drew).trans ((Only.refl (fun _ => False) _).grown gr1 (fun k _ h => by cases h)) (fun _ _ q => q); have hf1 : ∀ zz, (Value.slice a1 (k) c1).ownBlock = some zz → wr.heap.size ≤ zz := fun zz hzz => by rcases mv1 zz hzz with e | e; cases e; simp at e; omega)
            | (refine step_append_any _ rfl (.tmp 23) (.tmp 27) 22 rfl 35 i0 _ 3 40 Try.underlying22 hi hz0 hz1 hz2 rfl (by decide) (.slice a1 (k) c1) (k) _ (by first | (simp [Act.eval]; done) | simp [Act.eval, Act.put]) own1 (some (⟨g, off, none⟩ : Addr)) (0) 0 ((l.drop (k + 1)).flatMap itemC) (by first | (simp [Act.eval]; done) | simp [Act.eval, Act.put]) hl3 (fun e => by cases e) (HC3.out _ HW1) ho3 (by unfold maxLen; omega) (by omega) ?_; intro a3 c3 wa3 own3 gr3 mv3; have HWS := Lib.hid HW1.size; have HFIN := Lib.hid (And.intro own3 (And.intro (HW1.grown gr3 (fun zz hzz e => by have := hf1 zz e; omega)) (And.intro mv3 hf1))); clear own3 gr3 mv3))
          all_goals
            go_wp2_with fail
            go_ret2
            obtain ⟨own3, ow3, mv3, hf2⟩ := HFIN.out
            have hW := HO.out.trans ow3 (fun _ _ q => q)
            have hs5 := HO.out.size
            refine DropEnds.of own3 HP.out (by simp only [List.length_append, List.length_take, List.length_drop]; have := hll.out; omega) (by rw [List.flatMap_append]) hW (fun zz hzz => ?_)
            rcases mv3 zz hzz with e | e
            · have := hf2 zz e; omega
            · have := HWS.out; omega
    · obtain rfl : k = l.length := by omega
      have hk1 : ¬ (l.length : Int) < (l.length : Int) := by omega
      have HF : Hid (DropEnds w (.slice a l.length c) (dropL l key) (.returned (.tuple #[.slice a l.length c, .bool false])) wr) := Lib.hid (by
        have hA : isAt l key = false := isAt_none fun i z hz => HBE.out i z (List.getElem?_eq_some_iff.1 hz).1 hz
        have := dropL_cut l key
        rw [hA, if_neg (by simp)] at this
        rw [this]
        exact ⟨_, rfl, ⟨row_only HV.out HO.out (fun _ _ => id), HCAP.out⟩, HO.out, fun j hj => .inr hj⟩)
      generalize hlz : l.length = z at *
      clear hlz
      go_wp2_with fail
      go_ret2
      exact HF.out
end Go.Proofs.Ytcjaokmodicikaa
