/- ref19.Path: a path's names. Conditions: one goroutine; a path shorter than a million bytes. -/
import Derived.Test.YtbhiamcmiopnoaaGreatDoorZPathX
import Derived.Test.YtbhiamcmiopnoaaGreatDoorZBkS
namespace Go.Proofs.YtbhiamcmiopnoaaGreatDoor.bk
open Go.RowKit
theorem byte_str {l : Bytes} {i : Nat} {x : UInt8} (h : l[i]? = some x) : ∀ h' : i < (⟨l.toArray⟩ : ByteArray).size, (⟨l.toArray⟩ : ByteArray)[i]'h' = x := by
  intro h'
  have hi : i < l.length := by
    have h2 : i < l.toArray.size := h'
    simpa using h2
  have h3 : l[i]'hi = x := by
    rw [List.getElem?_eq_getElem hi] at h
    exact Option.some.inj h
  rw [← h3]
  rfl
structure Cut (s : Bytes) (i a : Nat) (P : List Bytes) : Prop where
  le : a ≤ i ∧ i ≤ s.length + 1
  go : i ≤ s.length → P ++ partsP (s.drop a) = partsP s
  no : ∀ k, a ≤ k → k < i → s[k]? ≠ some (47 : UInt8)
  fin : i = s.length + 1 → P = partsP s
theorem Cut.start (s : Bytes) : Cut s 0 0 [] := ⟨by omega, fun _ => by simp, fun k h1 h2 => by omega, fun h => by omega⟩
theorem Cut.stay {s : Bytes} {i a : Nat} {P : List Bytes} (h : Cut s i a P) (hi : i < s.length) (hc : s[i]? ≠ some (47 : UInt8)) : Cut s (i + 1) a P :=
  ⟨by have := h.le; omega, fun _ => h.go (by omega), fun k h1 h2 => by
    by_cases hk : k = i
    · subst hk; exact hc
    · exact h.no k h1 (by omega), fun q => by omega⟩
theorem Cut.next {s : Bytes} {i a : Nat} {P : List Bytes} (h : Cut s i a P) (ha : a ≤ s.length) (hi : i = s.length ∨ s[i]? = some (47 : UInt8)) (hi2 : i ≤ s.length) : Cut s (i + 1) (i + 1) (P ++ [(s.take i).drop a]) := by
  rw [List.drop_take]
  have h1 := h.le
  have h2 := h.go hi2
  have hno : ∀ k : Nat, k < i - a → (s.drop a)[k]? ≠ some (47 : UInt8) := fun k hk => by
    rw [List.getElem?_drop]
    exact h.no (a + k) (by omega) (by omega)
  refine ⟨by omega, fun h3 => ?_, fun k h3 h4 => by omega, fun h3 => ?_⟩
  · have hc : s[i]? = some (47 : UInt8) := hi.resolve_left (by omega)
    have h4 : (s.drop a)[i - a]? = some (47 : UInt8) := by
      rw [List.getElem?_drop, show a + (i - a) = i by omega]
      exact hc
    rw [partsP_hit h4 hno, List.drop_drop, show a + (i - a + 1) = i + 1 by omega] at h2
    rw [← h2, List.append_assoc]
    rfl
  · have hi3 : i = s.length := by omega
    have hm : partsP (s.drop a) = [s.drop a] := partsP_miss fun k q => by
      have hk : k < (s.drop a).length := (List.getElem?_eq_some_iff.1 q).1
      rw [List.length_drop] at hk
      exact hno k (by omega) q
    rw [hm] at h2
    rw [← h2, List.take_of_length_le (by rw [List.length_drop]; omega)]
def RPathEnds (w : World) (s : Bytes) : Ending → World → Prop := fun e w' => ∃ v P, e = .returned (.tuple #[v, .int .i64 (if s = [] ∨ pathOk s = true then 0 else 1)]) ∧ P = (if s ≠ [] ∧ pathOk s = true then partsP s else []) ∧ RowAt txtC 1 w' v P ∧ Only (fun _ => False) w w' ∧ ∀ j, rowBlock v = some j → w.heap.size ≤ j ∧ j < w'.heap.size
set_option maxRecDepth 100000 in
set_option maxHeartbeats 4000000 in
theorem RPath_is (w : World) (s : Bytes) (hs2 : s.length < 1000000) : Calls Tryz.prog 10 #[str s] w (RPathEnds w s) := by
  by_cases hse : s = []
  · subst hse
    go_enter Tryz.func10, Tryz.ntmps10
    go_wp2_with fail
    go_ret2
    exact ⟨_, [], rfl, rfl, RowAt.none, Only.refl _ _, fun j q => by cases q⟩
  have hsi : s.isEmpty = false := by cases s with | nil => exact absurd rfl hse | cons c r => rfl
  have hne : ((⟨s.toArray⟩ : ByteArray) = ⟨#[]⟩) = False := eq_false (fun q => hse (by
    have := congrArg (fun b : ByteArray => b.data.toList) q
    simpa using this))
  obtain ⟨i0, zz, hi, hz0, hz1, hz2, hz3⟩ := info_split infoT
  have HSE := Lib.hid hse
  clear hse
  go_enter Tryz.func10, Tryz.ntmps10
  go_wp2_with fail
  go_loopg [4, 5, 6] (s.length + 1) (fun gh ov av iv wr => ∃ (i a : Nat) (P : List Bytes), gh + i = s.length + 1 ∧ av = .int .i64 a ∧ iv = .int .i64 i ∧ (Cut s i a P ∧ P.length ≤ i) ∧ wr.ownsRow 0 9 1 ov P.length (P.flatMap txtC) ∧ Only (fun _ => False) w wr ∧ ∀ j, ov.ownBlock = some j → w.heap.size ≤ j)
  case atStart => exact ⟨0, 0, [], by omega, rfl, rfl, ⟨Cut.start s, by simp⟩, ⟨rfl, .inl ⟨rfl, rfl⟩⟩, Only.refl _ w, fun j hj => by simp [Value.ownBlock] at hj⟩
  case round =>
    obtain ⟨i, a, P, hgk, rfl, rfl, ⟨hcut, hpl⟩, hown, ho, hnew⟩ := hrel
    obtain ⟨aO, cO, rfl⟩ := ownsRow_form hown
    have HH := Lib.hid (And.intro hown (And.intro ho hnew))
    have HCUT := Lib.hid hcut
    have hle := hcut.le
    clear hown ho hnew hcut
    by_cases hk : i ≤ s.length
    · have hk1 : (i : Int) ≤ (s.length : Int) := by omega
      have hw1 : IntKind.i64.wrap ((i : Int) + 1) = (i : Int) + 1 := by exact IntWalk.i64_in _ (by omega)
      have hw2 : (0 : Int) ≤ (i : Int) := by omega
      have hw3 : (0 : Int) ≤ (a : Int) := by omega
      have hw4 : (a : Int) ≤ (i : Int) := by omega
      have HCT := Lib.hid (cut_bytes s a i)
      by_cases hc : i = s.length ∨ s[i]? = some (47 : UInt8)
      · have HC := Lib.hid hc
        generalize hN : P.length = N at *
        have HN := Lib.hid hN
        clear hN
        generalize hx : (s.take i).drop a = x at *
        have HX := Lib.hid hx
        have HOWN := Lib.hid (HH.out.1.alloc (.cells #[str x] 9))
        have HCE := Lib.hid (cells_new wr (txtC x) 9 (0, 0))
        have hmax : N + 1 ≤ maxLen := by unfold maxLen; omega
        have hct := HCT.out
        have hil : (i = s.length ∧ ((i : Int) == (s.length : Int)) = true) ∨ (i < s.length ∧ ((i : Int) == (s.length : Int)) = false ∧ (i : Int) < (s.length : Int) ∧ ∀ h' : i < (⟨s.toArray⟩ : ByteArray).size, (⟨s.toArray⟩ : ByteArray)[i]'h' = 47) := by
          by_cases hz : i = s.length
          · exact .inl ⟨hz, by simp [hz]⟩
          · exact .inr ⟨by omega, by simp; omega, by omega, byte_str (hc.resolve_left hz)⟩
        have HGK := Lib.hid hgk
        clear hx hc hgk
        rcases hil with ⟨z1, z2⟩ | ⟨z1, z2, z3, z4⟩
        all_goals
          clear z1
          go_wp2_with (at_builtin; refine wpList_append_moved _ rfl _ _ 37 rfl 9 i0 _ 1 16 Tryz.underlying37 hi hz0 hz1 hz2 hz3 (by decide) _ _ _ rfl HOWN.out ⟨wr.heap.size, 0, none⟩ 1 1 (txtC x) rfl rfl HCE.out (fun u hu => oneT [x] u (by simpa using hu)) hmax (by omega) ?_; intro a' c' wx hown2 hgr hmv; have HG := Lib.hid (And.intro hown2 (And.intro hgr hmv)); clear hown2 hgr hmv)
        all_goals
          go_roundg (s.length + 1 - (i + 1))
          case measure => have := HGK.out; omega
          case rel =>
            obtain ⟨h2, hgr, hmv⟩ := HG.out
            have hnx := HCUT.out.next (by omega) HC.out hk
            rw [HX.out] at hnx
            refine ⟨i + 1, i + 1, P ++ [x], by omega, by go_num, by go_num, ⟨hnx, by rw [List.length_append, HN.out]; simpa using hpl⟩, ?_, (HH.out.2.1.alloc _).grown hgr (fun j hj e => ?_), fun j hj => ?_⟩
            · rw [List.flatMap_append, List.length_append]
              simpa [HN.out] using h2
            · have e2 : (Value.slice aO N cO).ownBlock = some j := e
              have := HH.out.2.2 j e2; omega
            · have h5 := HH.out.2.1.size
              rcases hmv j hj with e | e
              · exact HH.out.2.2 j e
              · rw [World.size_alloc] at e; omega
      · have hi2 : i < s.length := by omega
        have hz : ((i : Int) == (s.length : Int)) = false := by simp; omega
        have hi3 : (i : Int) < (s.length : Int) := by omega
        obtain ⟨c, hcx⟩ : ∃ c, s[i]? = some c := ⟨_, List.getElem?_eq_getElem hi2⟩
        have hc47 : c ≠ 47 := fun e => hc (.inr (by rw [hcx, e]))
        have hb := byte_str hcx
        have hcb : ((c.toNat : Int) == 47) = false := by
          simp
          intro e
          exact hc47 (UInt8.toNat_inj.1 (by have : c.toNat = 47 := by omega
                                            rw [this]; rfl))
        have HC := Lib.hid (show s[i]? ≠ some (47 : UInt8) from fun e => hc (.inr e))
        have HGK := Lib.hid hgk
        clear hc hcx hgk
        go_wp2_with fail
        go_roundg (s.length + 1 - (i + 1))
        case measure => have := HGK.out; omega
        case rel => exact ⟨i + 1, a, P, by omega, rfl, by go_num, ⟨HCUT.out.stay hi2 HC.out, by omega⟩, HH.out⟩
    · obtain rfl : i = s.length + 1 := by omega
      have hk1 : ¬ (((s.length + 1 : Nat) : Int) ≤ (s.length : Int)) := by omega
      have hP := HCUT.out.fin rfl
      subst hP
      have hml : maxLen = 9223372036854775807 := by decide
      have hpm := partsP_many s
      have hpx := partsP_len s
      have hpo : pathOk s = (decide ((partsP s).length ≤ 4) && (partsP s).all wordB) := by
        unfold pathOk
        rw [List.all_eq_not_any_not]
      have hrow := row_own (enc := txtC) (k := 1) (fun _ => rfl) HH.out.1
      have HPO := Lib.hid hpo
      have HROW := Lib.hid hrow
      generalize hl : partsP s = P at *
      have HL := Lib.hid hl
      generalize hN : P.length = N at *
      have HN := Lib.hid hN
      have hd : decide ((N : Int) ≤ 4) = decide (N ≤ 4) := decide_eq_decide.2 (by omega)
      clear hpl hle hgk hl hN hpo hrow hi hz0 hz1 hz2 hz3
      generalize hb : decide (N ≤ 4) = b4 at *
      have HB := Lib.hid hb
      clear hb
      go_wp2_with fail
      go_loopg [7, 8] N (fun gh ok kv wx => ∃ k : Nat, gh + k = N ∧ kv = .int .i64 k ∧ ok = .bool (b4 && (P.take k).all wordB) ∧ wx = wr)
      case atStart => exact ⟨0, by omega, rfl, by simp, rfl⟩
      case round =>
        obtain ⟨k, hgk, rfl, rfl, rfl⟩ := hrel
        by_cases hk : k < N
        · obtain ⟨x, hx⟩ : ∃ x, P[k]? = some x := ⟨_, List.getElem?_eq_getElem (by have := HN.out; omega)⟩
          obtain ⟨g, off, rfl, hcell⟩ := row_at HROW.out hx
          have hc := hcell 0 (str x) rfl
          have hxl := hpx x (List.mem_of_getElem? hx)
          simp only [Nat.mul_one, Nat.add_zero] at hc
          have hk1 : (k : Int) < (N : Int) := by omega
          have hk0 : (0 : Int) ≤ (k : Int) := by omega
          have hw1 : IntKind.i64.wrap ((k : Int) + 1) = (k : Int) + 1 := by exact IntWalk.i64_in _ (by omega)
          have HNX : Hid ((b4 && (P.take (k + 1)).all wordB) = ((b4 && (P.take k).all wordB) && wordB x)) := Lib.hid (by
            rw [List.take_add_one, hx]
            simp [List.all_append, Bool.and_assoc])
          have HGK := Lib.hid hgk
          generalize hok : (b4 && (P.take k).all wordB) = okk at *
          clear hok hcell hx hgk
          cases okk with
          | false =>
            go_wp2_with fail
            go_roundg (N - (k + 1))
            case measure => have := HGK.out; omega
            case rel => exact ⟨k + 1, by omega, by go_num, by rw [HNX.out]; rfl, rfl⟩
          | true =>
            by_cases h1 : 1 ≤ x.length
            · have e1 : decide ((x.length : Int) ≥ 1) = true := decide_eq_true (by omega)
              have e1' : decide (1 ≤ (x.length : Int)) = true := decide_eq_true (by omega)
              by_cases h2 : x.length ≤ 32
              · have e2 : decide ((x.length : Int) ≤ 32) = true := decide_eq_true (by omega)
                have HWB : Hid (wordB x = true) := Lib.hid (by unfold wordB; rw [decide_eq_true h1, decide_eq_true h2]; rfl)
                go_wp2_with fail
                go_roundg (N - (k + 1))
                case measure => have := HGK.out; omega
                case rel => exact ⟨k + 1, by omega, by go_num, by rw [HNX.out, HWB.out]; rfl, rfl⟩
              · have e2 : decide ((x.length : Int) ≤ 32) = false := decide_eq_false (by omega)
                have HWB : Hid (wordB x = false) := Lib.hid (by unfold wordB; rw [decide_eq_true h1, decide_eq_false h2]; rfl)
                go_wp2_with fail
                go_roundg (N - (k + 1))
                case measure => have := HGK.out; omega
                case rel => exact ⟨k + 1, by omega, by go_num, by rw [HNX.out, HWB.out]; rfl, rfl⟩
            · have e1 : decide ((x.length : Int) ≥ 1) = false := decide_eq_false (by omega)
              have e1' : decide (1 ≤ (x.length : Int)) = false := decide_eq_false (by omega)
              have HWB : Hid (wordB x = false) := Lib.hid (by unfold wordB; rw [decide_eq_false h1]; rfl)
              go_wp2_with fail
              go_roundg (N - (k + 1))
              case measure => have := HGK.out; omega
              case rel => exact ⟨k + 1, by omega, by go_num, by rw [HNX.out, HWB.out]; rfl, rfl⟩
        · obtain rfl : k = N := by omega
          have hk1 : ¬ (k : Int) < (k : Int) := by omega
          have hpt : (b4 && (P.take k).all wordB) = pathOk s := by rw [HPO.out, List.take_of_length_le (by rw [HN.out]; exact Nat.le_refl _)]
          have HP := Lib.hid hpt
          rw [hpt]
          generalize hpp : pathOk s = pp at *
          have HPP := Lib.hid hpp
          clear hpt hpp
          cases pp with
          | false =>
            go_wp2_with fail
            go_ret2
            refine ⟨.slice none 0 0, [], ?_, ?_, RowAt.none, HH.out.2.1, fun j q => by cases q⟩
            · rw [if_neg (by rw [HPP.out]; simp [HSE.out])]
              rfl
            · rw [if_neg (by rw [HPP.out]; simp)]
          | true =>
            go_wp2_with fail
            go_ret2
            refine ⟨_, P, ?_, ?_, HROW.out, HH.out.2.1, fun j q => by
              rw [rowBlock_own HH.out.1] at q
              exact ⟨HH.out.2.2 j q, (HH.out.1.lt j q).2⟩⟩
            · rw [if_pos (.inr HPP.out)]
              rfl
            · first | exact (if_pos ⟨HSE.out, HPP.out⟩).symm | (rw [if_pos ⟨HSE.out, HPP.out⟩, HL.out])
end Go.Proofs.YtbhiamcmiopnoaaGreatDoor.bk
namespace Go.Proofs.YtbhiamcmiopnoaaGreatDoor.bk
open Go.RowKit
def pathP (s : Bytes) : List Bytes := if s ≠ [] ∧ pathOk s = true then partsP s else []
def pathE (s : Bytes) : Int := if s = [] ∨ pathOk s = true then 0 else 1
theorem strs_flat (l : List Bytes) : l.flatMap txtC = l.map str := by
  induction l with
  | nil => rfl
  | cons x l ih => rw [List.flatMap_cons, ih]; rfl
theorem strRow_own {w : World} {g : Nat} {l : List Bytes} (h : StrRow w g l) (hn : l.length ≤ maxLen) : w.ownsRow 0 9 1 (.slice (some ⟨g, 0, none⟩) l.length l.length) l.length (l.flatMap txtC) := by
  rw [strs_flat]
  refine ⟨by simp, .inr ⟨g, l.length, (l.map str).toArray, rfl, Nat.zero_le _, h, Nat.le_refl _, hn, by simp, ?_⟩⟩
  show (l.map str).toArray.toList.take (l.length * 1) = l.map str
  rw [Nat.mul_one]
  exact List.take_of_length_le (by simp)
def BPathEnds (w : World) (s : Bytes) : Ending → World → Prop := fun e w' => ∃ v, e = .returned (.tuple #[v, .int .i64 (pathE s)]) ∧ w'.ownsRow 0 9 1 v (pathP s).length ((pathP s).flatMap txtC) ∧ (∀ b, OwnB v b → w.heap.size ≤ b) ∧ Only (fun _ => False) w w'
theorem pathP_few (s : Bytes) : (pathP s).length ≤ 4 := by
  unfold pathP
  split
  · rename_i h
    have h2 := h.2
    unfold pathOk at h2
    simp only [Bool.and_eq_true, decide_eq_true_eq] at h2
    exact h2.1
  · simp
set_option maxRecDepth 100000 in
theorem BPath_is (w : World) (s : Bytes) (hs2 : s.length < 1000000) (hm : MaxAt w) : Calls Tryz.prog 9 #[str s] w (BPathEnds w s) := by
  by_cases hse : s = []
  · subst hse
    go_enter Tryz.func9, Tryz.ntmps9
    go_wp2_with fail
    go_ret2
    exact ⟨.slice none 0 0, by unfold pathE; rw [if_pos (.inl rfl)]; rfl, ⟨rfl, .inl ⟨rfl, rfl⟩⟩, fun b q => by simp [OwnB, Value.ownBlock] at q, Only.refl _ _⟩
  · refine (Path_is w s hse hs2 hm).mono fun e w' h => ?_
    unfold PathEnds at h
    by_cases hp : pathOk s = true
    · rw [if_pos hp] at h
      obtain ⟨g, rfl, hr, hg, ho⟩ := h
      have e1 : pathP s = partsP s := if_pos ⟨hse, hp⟩
      refine ⟨_, by rw [pathE, if_pos (.inr hp)], by rw [e1]; exact strRow_own hr (by have := partsP_many s; unfold maxLen; omega), fun b q => ?_, ho⟩
      cases q
      exact hg
    · rw [if_neg hp] at h
      obtain ⟨rfl, ho⟩ := h
      have e1 : pathP s = [] := if_neg fun q => hp q.2
      refine ⟨.slice none 0 0, by rw [pathE, if_neg (fun q => q.elim hse hp)], by rw [e1]; exact ⟨rfl, .inl ⟨rfl, rfl⟩⟩, fun b q => by simp [OwnB, Value.ownBlock] at q, ho⟩
theorem RPathB_is (w : World) (s : Bytes) (hs2 : s.length < 1000000) : Calls Tryz.prog 10 #[str s] w fun e w' => ∃ v, e = .returned (.tuple #[v, .int .i64 (pathE s)]) ∧ RowAt txtC 1 w' v (pathP s) ∧ Only (fun _ => False) w w' ∧ ∀ j, rowBlock v = some j → w.heap.size ≤ j ∧ j < w'.heap.size :=
  (RPath_is w s hs2).mono fun _ _ ⟨v, _, h1, h2, h3, h4⟩ => ⟨v, h1, by subst h2; exact h3, h4⟩
end Go.Proofs.YtbhiamcmiopnoaaGreatDoor.bk
