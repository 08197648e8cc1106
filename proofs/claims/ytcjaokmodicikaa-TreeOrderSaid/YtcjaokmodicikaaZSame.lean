/- Rows of items: parts of them, to be read. Conditions: the row lies in memory. -/
import Derived.Test.YtcjaokmodicikaaZLeaf6
import Derived.Test.YtcjaokmodicikaaZPages
import Derived.Test.YtcjaokmodicikaaZPlainD
import Derived.BigRegion
namespace Go.Proofs.Ytcjaokmodicikaa
open Go.RowKit

theorem row_form {w : World} {v : Value} {l : List Item} (h : RowAt itemC 3 w v l) : ∃ a c, v = .slice a l.length c := by
  cases h with
  | none => exact ⟨_, _, rfl⟩
  | some g off cap => exact ⟨_, _, rfl⟩
theorem row_cut {w : World} {g off n c : Nat} {l : List Item} (h : RowAt itemC 3 w (.slice (some ⟨g, off, none⟩) n c) l) (i m n' o' c' : Nat) (hn : n' = ((l.drop i).take m).length) (ho : o' = off + i * 3) :
    RowAt itemC 3 w (.slice (some ⟨g, o', none⟩) n' c') ((l.drop i).take m) := by
  subst hn ho
  refine .some g (off + i * 3) c' _ fun j x k u hx hu => ?_
  rw [List.getElem?_take] at hx
  split at hx
  · rw [List.getElem?_drop] at hx
    cases h with
    | some _ _ _ _ hc =>
      have := hc (i + j) x k u hx hu
      rwa [show off + ((i + j) * 3 + k) = off + i * 3 + (j * 3 + k) by rw [Nat.add_mul]; omega] at this
  · cases hx
theorem row_drop {w : World} {g off n c : Nat} {l : List Item} (h : RowAt itemC 3 w (.slice (some ⟨g, off, none⟩) n c) l) (i n' o' c' : Nat) (hn : n' = l.length - i) (ho : o' = off + i * 3) :
    RowAt itemC 3 w (.slice (some ⟨g, o', none⟩) n' c') (l.drop i) := by
  have := row_cut h i l.length n' o' c' (by rw [List.length_take, List.length_drop]; omega) ho
  rwa [List.take_of_length_le (by rw [List.length_drop]; omega)] at this
theorem row_take {w : World} {a : Option Addr} {n c : Nat} {l : List Item} (h : RowAt itemC 3 w (.slice a n c) l) (i n' : Nat) (hi : i ≤ l.length) (hn : n' = i) :
    RowAt itemC 3 w (.slice a n' c) (l.take i) := by
  subst hn
  cases h with
  | none => obtain rfl : n' = 0 := by simpa using hi
            exact .none
  | some g off cap _ hc =>
    have := row_cut (.some g off c _ hc) 0 n' n' off c (by rw [List.drop_zero, List.length_take]; omega) (by omega)
    rwa [List.drop_zero] at this
theorem row_none (w : World) (g off c : Nat) : RowAt itemC 3 w (.slice (some ⟨g, off, none⟩) 0 c) [] := .some g off c [] fun i x j u hx => by cases hx
/-- A row's cells, as a copy of it wants them. -/
theorem row_read {w : World} {a : Option Addr} {n c : Nat} {l : List Item} (h : RowAt itemC 3 w (.slice a n c) l) : ∀ W, Only (fun _ => False) w W → ∀ ad, a = some ad → ∀ j u, (l.flatMap itemC)[j]? = some u → W.cell? (ad.add j) = some u := by
  intro W hW ad e j u hu
  subst e
  cases h with
  | some g off cap _ hc => exact row_cells (row_only (.some g off c _ hc) hW (fun _ _ => id)) j u hu
theorem row_nil {w : World} {a : Option Addr} {n c : Nat} {l : List Item} (h : RowAt itemC 3 w (.slice a n c) l) : a = none → n = 0 ∧ c = 0 := by
  intro e
  subst e
  cases h with
  | none => exact ⟨rfl, rfl⟩
theorem row_addr {w : World} {ad : Addr} {n c : Nat} {l : List Item} (h : RowAt itemC 3 w (.slice (some ad) n c) l) : ∃ g off, ad = ⟨g, off, none⟩ := by
  cases h with
  | some g off => exact ⟨g, off, rfl⟩
theorem row_eq {w : World} {v : Value} {l m : List Item} (h : RowAt itemC 3 w v l) (e : l = m) : RowAt itemC 3 w v m := e ▸ h
theorem findAt_eq {l : List Item} (hr : Rising l) {key : Bytes} {k : Nat} {x : Item} (hx : l[k]? = some x) (hk : x.key = key) : findAt l key = k ∧ isAt l key = true := by
  have h1 : ¬ k < findAt l key := fun q => by
    have := (lt_findAt hr key k x hx).1 q
    rw [← hk] at this
    exact List.lt_irrefl _ this
  have h2 : ¬ findAt l key < k := fun q => by
    obtain ⟨hl, hlx⟩ := List.getElem?_eq_some_iff.1 hx
    have hy : l[findAt l key]? = some (l[findAt l key]'(by omega)) := List.getElem?_eq_getElem (by omega)
    have h3 := (lt_findAt hr key _ _ hy).2
    have h4 : Keyed.key (l[findAt l key]'(by omega)) < Keyed.key x := by
      have := List.pairwise_iff_getElem.1 hr (findAt l key) k (by omega) hl q
      rwa [hlx] at this
    have h5 : Keyed.key x = key := hk
    rw [h5] at h4
    exact Nat.lt_irrefl _ (h3 h4)
  have h3 : findAt l key = k := by omega
  refine ⟨h3, ?_⟩
  unfold isAt
  rw [h3, hx]
  simp [hk]
theorem isAt_none {l : List Item} {key : Bytes} (h : ∀ (k : Nat) (x : Item), l[k]? = some x → x.key ≠ key) : isAt l key = false := by
  unfold isAt
  cases hx : l[findAt l key]? with
  | none => rfl
  | some x => simpa using h _ _ hx
end Go.Proofs.Ytcjaokmodicikaa

namespace Go.Proofs.Ytcjaokmodicikaa
open Go.RowKit

set_option maxRecDepth 100000 in
set_option maxHeartbeats 2000000 in
theorem bits_is (w : World) (n : Nat) (hn : n ≤ 1000000) : Calls Try.prog 50 #[.int .i64 n] w fun e w' => e = .returned (.int .i64 (bitsOf n : Nat)) ∧ Only (fun _ => False) w w' := by
  go_enter Try.func50, Try.ntmps50
  go_wp2_with fail
  go_loopg [0, 3] n (fun gh nv kv wr => ∃ m k : Nat, gh = m ∧ nv = .int .i64 m ∧ kv = .int .i64 k ∧ k + bitsOf m = bitsOf n ∧ m ≤ n ∧ k + m ≤ n ∧ Only (fun _ => False) w wr)
  case atStart => exact ⟨n, 0, rfl, rfl, rfl, by omega, by omega, by omega, Only.refl _ w⟩
  case round =>
    obtain ⟨m, k, hgm, rfl, rfl, hb, hm, hk, ho⟩ := hrel
    have HGM := Lib.hid hgm
    clear hgm
    have HO := Lib.hid ho
    have HB := Lib.hid hb
    clear ho hb
    by_cases h0 : 0 < m
    · have h1 : (0 : Int) < (m : Int) := by omega
      have hq : (m : Int).tdiv 2 = ((m / 2 : Nat) : Int) := by rw [Int.tdiv_eq_ediv_of_nonneg (by omega)]; rfl
      have hw1 : IntKind.i64.wrap ((m / 2 : Nat) : Int) = ((m / 2 : Nat) : Int) := by exact IntWalk.i64_in _ (by omega)
      have hw2 : IntKind.i64.wrap ((k : Int) + 1) = (k : Int) + 1 := by exact IntWalk.i64_in _ (by omega)
      have hbm := Lib.hid (bitsOf_pos h0)
      go_wp2_with fail
      go_roundg (m / 2)
      case measure => have := HGM.out; omega
      case rel => exact ⟨m / 2, k + 1, rfl, by first | rfl | go_num, by go_num, by have := HB.out; have := hbm.out; omega, by omega, by omega, HO.out⟩
    · obtain rfl : m = 0 := by omega
      have hz : Hid (bitsOf n = k) := Lib.hid (by have := HB.out; rw [bitsOf_zero] at this; omega)
      go_wp2_with fail
      go_ret
      exact ⟨by rw [hz.out]; rfl, HO.out⟩

theorem eql_same (a b : Bytes) (n : Int) (w : World) : (binOp .eql 35 (.agg #[.string ⟨a.toArray⟩, .string ⟨b.toArray⟩, .int .i64 n]) (.agg #[.string ⟨a.toArray⟩, .string ⟨b.toArray⟩, .int .i64 n])).run Try.prog w = .ok (.bool true) w := by
  simp [go_sem]
set_option maxRecDepth 100000 in
set_option maxHeartbeats 2000000 in
theorem SameI_is (w : World) (va vb : Value) (l : List Item) (ha : RowAt itemC 3 w va l) (hb : RowAt itemC 3 w vb l) (hn : l.length ≤ 1000000) : Calls Try.prog 32 #[va, vb] w fun e w' => e = .returned (.bool true) ∧ Only (fun _ => False) w w' := by
  obtain ⟨a1, c1, rfl⟩ : ∃ a c, va = .slice a l.length c := by cases ha with
    | none => exact ⟨_, _, rfl⟩
    | some g off cap => exact ⟨_, _, rfl⟩
  obtain ⟨a2, c2, rfl⟩ : ∃ a c, vb = .slice a l.length c := by cases hb with
    | none => exact ⟨_, _, rfl⟩
    | some g off cap => exact ⟨_, _, rfl⟩
  have HA := Lib.hid ha
  have HB := Lib.hid hb
  clear ha hb
  go_enter Try.func32, Try.ntmps32
  go_wp2_with fail
  go_loopg [5] l.length (fun gh iv wr => ∃ k : Nat, gh + k = l.length ∧ iv = .int .i64 k ∧ Only (fun _ => False) w wr)
  case atStart => exact ⟨0, by omega, rfl, Only.refl _ w⟩
  case round =>
    obtain ⟨k, hgk, rfl, ho⟩ := hrel
    have HO := Lib.hid ho
    clear ho
    by_cases hk : k < l.length
    · have hk1 : (k : Int) < (l.length : Int) := by omega
      have hk0 : (0 : Int) ≤ (k : Int) := by omega
      obtain ⟨x, hx⟩ : ∃ x, l[k]? = some x := ⟨_, List.getElem?_eq_getElem hk⟩
      obtain ⟨g1, off1, rfl, i0, i1, i2⟩ := row_item (row_only HA.out HO.out (fun _ _ => id)) hx
      obtain ⟨g2, off2, rfl, j0, j1, j2⟩ := row_item (row_only HB.out HO.out (fun _ _ => id)) hx
      have hw1 : IntKind.i64.wrap ((k : Int) + 1) = (k : Int) + 1 := by exact IntWalk.i64_in _ (by omega)
      have heq := eql_same x.key x.val x.kind
      have HH := Lib.hid (HO.out.drew)
      clear hx
      go_wp2_with fail
      go_region
      all_goals
        go_wp2_with fail
        go_roundg (gk - 1)
        case measure => omega
        case rel => exact ⟨k + 1, by omega, by go_num, HH.out⟩
    · obtain rfl : k = l.length := by omega
      have hk1 : ¬ (l.length : Int) < (l.length : Int) := by omega
      go_wp2_with fail
      go_ret
      exact ⟨rfl, HO.out⟩

set_option maxRecDepth 100000 in
set_option maxHeartbeats 2000000 in
theorem holds_is (w : World) (low high : Bytes) (bd : Bool) (key : Bytes) : Calls Try.prog 69 #[.agg #[str low, str high, .bool bd], str key] w fun e w' => e = .returned (.bool (holdsB low high bd key)) ∧ Only (fun _ => False) w w' := by
  have o1 := (Only.refl (fun _ => False) w).alloc (.cells #[str low, str high, .bool bd] 105)
  have hN := heap_alloc_new w (.cells #[str low, str high, .bool bd] 105)
  have n0 := heap_cell hN 0
  have n1 := heap_cell hN 1
  have n2 := heap_cell hN 2
  simp only [List.getElem?_toArray, List.getElem?_cons_zero, List.getElem?_cons_succ] at n0 n1 n2
  have HO := Lib.hid o1
  clear hN o1
  have e1 : Op.bytesLess key low = decide (key < low) := bytesLess_eq key low
  have e2 : Op.bytesLess key high = decide (key < high) := bytesLess_eq key high
  have hH : holdsB low high bd key = (!decide (key < low) && (!bd || decide (key < high))) := rfl
  have HH := Lib.hid hH
  clear hH
  go_enter Try.func69, Try.ntmps69
  cases h1 : decide (key < low) with
  | true =>
    rw [h1] at e1
    go_wp2_with fail
    go_ret
    exact ⟨by rw [HH.out, h1]; rfl, HO.out⟩
  | false =>
    rw [h1] at e1
    cases bd with
    | false =>
      go_wp2_with fail
      go_ret
      exact ⟨by rw [HH.out, h1]; rfl, HO.out⟩
    | true =>
      go_wp2_with fail
      go_ret
      exact ⟨by rw [HH.out, h1]; simp, HO.out⟩
end Go.Proofs.Ytcjaokmodicikaa

namespace Go.Proofs.Ytcjaokmodicikaa
open Go.RowKit

/-- How the items from a key on are told. -/
def FromEnds (w : World) (v : Value) (m : List Item) : Ending → World → Prop := fun e w' => ∃ v', e = .returned v' ∧ RowAt itemC 3 w' v' m ∧ Only (fun _ => False) w w' ∧ ∀ j, rowBlock v' = some j → rowBlock v = some j

set_option maxRecDepth 100000 in
set_option maxHeartbeats 4000000 in
theorem from_is (w : World) (v : Value) (l : List Item) (key : Bytes) (most : Int) (r : Nat) (h : RowC itemC 3 w v l) (hr : Rising l) (hn : l.length ≤ 1000000) (hm : most ≤ 1000) (hrr : r = most.toNat) :
    Calls Try.prog 49 #[v, str key, .int .i64 most] w (FromEnds w v ((l.drop (findAt l key)).take r)) := by
  obtain ⟨a, c, rfl⟩ := row_form h.row
  have hcap := h.cap
  have hcl : l.length ≤ c := hcap.1
  have HV := Lib.hid h.row
  have HR := Lib.hid hr
  have hle := findAt_le l key
  have hmx : max most 0 = (r : Int) := by omega
  have hr1 : r ≤ 1000 := by omega
  clear h hcap hr hrr
  go_enter Try.func49, Try.ntmps49
  go_wp2_with fail
  go_loopg [7] (findAt l key) (fun gh kv wr => ∃ k : Nat, gh + k = findAt l key ∧ kv = .int .i64 k ∧ Only (fun _ => False) w wr)
  case atStart => exact ⟨0, by omega, rfl, Only.refl _ w⟩
  case round =>
    obtain ⟨k, hgk, rfl, ho⟩ := hrel
    have HO := Lib.hid ho
    clear ho
    by_cases hk : k < l.length
    · have hk1 : (k : Int) < (l.length : Int) := by omega
      have hk0 : (0 : Int) ≤ (k : Int) := by omega
      obtain ⟨x, hx⟩ : ∃ x, l[k]? = some x := ⟨_, List.getElem?_eq_getElem hk⟩
      have hrow := row_only HV.out HO.out (fun _ _ => id)
      obtain ⟨g, off, rfl, i0, _, _⟩ := row_item hrow hx
      have hlt : k < findAt l key ↔ x.key < key := lt_findAt HR.out key k x hx
      have hb : Op.bytesLess x.key key = decide (x.key < key) := bytesLess_eq x.key key
      have hw1 : IntKind.i64.wrap ((k : Int) + 1) = (k : Int) + 1 := by exact IntWalk.i64_in _ (by omega)
      by_cases hkf : k < findAt l key
      · rw [decide_eq_true (hlt.1 hkf)] at hb
        clear hx hrow hlt
        go_wp2_with fail
        go_roundg (gk - 1)
        case measure => omega
        case rel => exact ⟨k + 1, by omega, by go_num, HO.out⟩
      · rw [decide_eq_false (fun q => hkf (hlt.2 q))] at hb
        obtain ⟨q, hq1, hq2⟩ : ∃ q, q = min (l.length - k) r ∧ k + q ≤ l.length := ⟨_, rfl, by omega⟩
        have hw2 : IntKind.i64.wrap ((k : Int) + (r : Int)) = (k : Int) + (r : Int) := by exact IntWalk.i64_in _ (by omega)
        have hmn : min (l.length : Int) ((k : Int) + (r : Int)) = ((k + q : Nat) : Int) := by omega
        have hkc : (k : Int) < (c : Int) := by omega
        have hkc2 : k < c := by omega
        have hq3 : (k : Int) ≤ ((k + q : Nat) : Int) := by omega
        have hq4 : ((k + q : Nat) : Int) ≤ (c : Int) := by omega
        have HFIN : Hid (RowAt itemC 3 wr (.slice (some ⟨g, off + k * 3, none⟩) q (c - k)) ((l.drop (findAt l key)).take r)) := Lib.hid (by
          rw [show findAt l key = k by omega]
          exact row_cut hrow k r q _ _ (by rw [List.length_take, List.length_drop]; omega) rfl)
        clear hx hrow hlt hq1
        go_wp2_with fail
        go_ret
        refine ⟨_, rfl, ?_, HO.out, fun j hj => hj⟩
        have := HFIN.out
        simpa using this
    · obtain rfl : k = l.length := by omega
      have hk1 : ¬ (l.length : Int) < (l.length : Int) := by omega
      have hw2 : IntKind.i64.wrap ((l.length : Int) + (r : Int)) = (l.length : Int) + (r : Int) := by exact IntWalk.i64_in _ (by omega)
      have hmn : min (l.length : Int) ((l.length : Int) + (r : Int)) = (l.length : Int) := by omega
      have hrow := row_only HV.out HO.out (fun _ _ => id)
      have hnil : Hid ((l.drop (findAt l key)).take r = []) := Lib.hid (by rw [show findAt l key = l.length by omega, List.drop_length, List.take_nil])
      rcases a with _ | ad
      · obtain ⟨h0, rfl⟩ := row_nil hrow rfl
        obtain rfl : l = [] := List.eq_nil_of_length_eq_zero h0
        have hmn0 : min (0 : Int) (r : Int) = 0 := by omega
        have hw0 : IntKind.i64.wrap (r : Int) = (r : Int) := by exact IntWalk.i64_in _ (by omega)
        clear hmn hw2 hk1 hrow h0 hk
        simp only [List.length_nil] at *
        go_wp2_with fail
        go_ret
        exact ⟨_, rfl, by rw [hnil.out]; exact .none, HO.out, fun j hj => by cases hj⟩
      · obtain ⟨g, off, rfl⟩ := row_addr hrow
        clear hrow
        by_cases hlc : l.length < c
        · have hlc2 : (l.length : Int) < (c : Int) := by omega
          go_wp2_with fail
          go_ret
          exact ⟨_, rfl, by rw [hnil.out]; exact row_none _ _ _ _, HO.out, fun j hj => hj⟩
        · obtain rfl : c = l.length := by omega
          go_wp2_with fail
          go_ret
          exact ⟨_, rfl, by rw [hnil.out]; exact row_none _ _ _ _, HO.out, fun j hj => hj⟩
end Go.Proofs.Ytcjaokmodicikaa
