/- Rows of items: parts of them, to be read. Conditions: the row lies in memory. -/
import Derived.Test.YtklccpaphkpgfaaGreatZLeaf6
import Derived.Test.YtklccpaphkpgfaaGreatZPages
import Derived.Test.YtklccpaphkpgfaaGreatZPlainD
import Derived.BigRegion
namespace Go.Proofs.YtklccpaphkpgfaaGreat
open Go.RowKit

theorem row_form {w : World} {v : Value} {l : List Item} (h : RowAt itemC 3 w v l) : ∃ a c, v = .slice a l.length c := by
  cases h with
  | none => exact ⟨_, _, rfl⟩
  | some g off cap => exact ⟨_, _, rfl⟩
theorem row_cut {w : World} {g off n c : Nat} {l : List Item} (h : RowAt itemC 3 w (.slice (some ⟨g, off, none⟩) n c) l) (i m n' o' c' : Nat) (hn : n' = ((l.drop i).take m).length) (ho : o' = off + i * 3) :
    RowAt itemC 3 w (.slice (some ⟨g, o', none⟩) n' c') ((l.drop i).take m) := by
  subst hn ho
  refine .some g (off + i * 3) c' _ fun j x k u hx hu => ?_
  rw [List.getElem?_take] at hx
  split at hx
  · rw [List.getElem?_drop] at hx
    cases h with
    | some _ _ _ _ hc =>
      have := hc (i + j) x k u hx hu
      rwa [show off + ((i + j) * 3 + k) = off + i * 3 + (j * 3 + k) by rw [Nat.add_mul]; omega] at this
  · cases hx
theorem row_drop {w : World} {g off n c : Nat} {l : List Item} (h : RowAt itemC 3 w (.slice (some ⟨g, off, none⟩) n c) l) (i n' o' c' : Nat) (hn : n' = l.length - i) (ho : o' = off + i * 3) :
    RowAt itemC 3 w (.slice (some ⟨g, o', none⟩) n' c') (l.drop i) := by
  have := row_cut h i l.length n' o' c' (by rw [List.length_take, List.length_drop]; omega) ho
  rwa [List.take_of_length_le (by rw [List.length_drop]; omega)] at this
theorem row_take {w : World} {a : Option Addr} {n c : Nat} {l : List Item} (h : RowAt itemC 3 w (.slice a n c) l) (i n' : Nat) (hi : i ≤ l.length) (hn : n' = i) :
    RowAt itemC 3 w (.slice a n' c) (l.take i) := by
  subst hn
  cases h with
  | none => obtain rfl : n' = 0 := by simpa using hi
            exact .none
  | some g off cap _ hc =>
    have := row_cut (.some g off c _ hc) 0 n' n' off c (by rw [List.drop_zero, List.length_take]; omega) (by omega)
    rwa [List.drop_zero] at this
theorem row_none (w : World) (g off c : Nat) : RowAt itemC 3 w (.slice (some ⟨g, off, none⟩) 0 c) [] := .some g off c [] fun i x j u hx => by cases hx
/-- A row's cells, as a copy of it wants them. -/
theorem row_read {w : World} {a : Option Addr} {n c : Nat} {l : List Item} (h : RowAt itemC 3 w (.slice a n c) l) : ∀ W, Only (fun _ => False) w W → ∀ ad, a = some ad → ∀ j u, (l.flatMap itemC)[j]? = some u → W.cell? (ad.add j) = some u := by
  intro W hW ad e j u hu
  subst e
  cases h with
  | some g off cap _ hc => exact row_cells (row_only (.some g off c _ hc) hW (fun _ _ => id)) j u hu
theorem row_nil {w : World} {a : Option Addr} {n c : Nat} {l : List Item} (h : RowAt itemC 3 w (.slice a n c) l) : a = none → n = 0 ∧ c = 0 := by
  intro e
  subst e
  cases h with
  | none => exact ⟨rfl, rfl⟩
theorem row_addr {w : World} {ad : Addr} {n c : Nat} {l : List Item} (h : RowAt itemC 3 w (.slice (some ad) n c) l) : ∃ g off, ad = ⟨g, off, none⟩ := by
  cases h with
  | some g off => exact ⟨g, off, rfl⟩
theorem row_eq {w : World} {v : Value} {l m : List Item} (h : RowAt itemC 3 w v l) (e : l = m) : RowAt itemC 3 w v m := e ▸ h
theorem findAt_eq {l : List Item} (hr : Rising l) {key : Bytes} {k : Nat} {x : Item} (hx : l[k]? = some x) (hk : x.key = key) : findAt l key = k ∧ isAt l key = true := by
  have h1 : ¬ k < findAt l key := fun q => by
    have := (lt_findAt hr key k x hx).1 q
    rw [← hk] at this
    exact List.lt_irrefl _ this
  have h2 : ¬ findAt l key < k := fun q => by
    obtain ⟨hl, hlx⟩ := List.getElem?_eq_some_iff.1 hx
    have hy : l[findAt l key]? = some (l[findAt l key]'(by omega)) := List.getElem?_eq_getElem (by omega)
    have h3 := (lt_findAt hr key _ _ hy).2
    have h4 : Keyed.key (l[findAt l key]'(by omega)) < Keyed.key x := by
      have := List.pairwise_iff_getElem.1 hr (findAt l key) k (by omega) hl q
      rwa [hlx] at this
    have h5 : Keyed.key x = key := hk
    rw [h5] at h4
    exact Nat.lt_irrefl _ (h3 h4)
  have h3 : findAt l key = k := by omega
  refine ⟨h3, ?_⟩
  unfold isAt
  rw [h3, hx]
  simp [hk]
theorem isAt_none {l : List Item} {key : Bytes} (h : ∀ (k : Nat) (x : Item), l[k]? = some x → x.key ≠ key) : isAt l key = false := by
  unfold isAt
  cases hx : l[findAt l key]? with
  | none => rfl
  | some x => simpa using h _ _ hx
end Go.Proofs.YtklccpaphkpgfaaGreat

namespace Go.Proofs.YtklccpaphkpgfaaGreat
open Go.RowKit

theorem eql_same (a b : Bytes) (n : Int) (w : World) : (binOp .eql 29 (.agg #[.string ⟨a.toArray⟩, .string ⟨b.toArray⟩, .int .i64 n]) (.agg #[.string ⟨a.toArray⟩, .string ⟨b.toArray⟩, .int .i64 n])).run Tryz.prog w = .ok (.bool true) w := by
  simp [go_sem]
set_option maxRecDepth 100000 in
set_option maxHeartbeats 2000000 in
theorem SameI_is (w : World) (va vb : Value) (l : List Item) (ha : RowAt itemC 3 w va l) (hb : RowAt itemC 3 w vb l) (hn : l.length ≤ 1000000) : Calls Tryz.prog 12 #[va, vb] w fun e w' => e = .returned (.bool true) ∧ Only (fun _ => False) w w' := by
  obtain ⟨a1, c1, rfl⟩ : ∃ a c, va = .slice a l.length c := by cases ha with
    | none => exact ⟨_, _, rfl⟩
    | some g off cap => exact ⟨_, _, rfl⟩
  obtain ⟨a2, c2, rfl⟩ : ∃ a c, vb = .slice a l.length c := by cases hb with
    | none => exact ⟨_, _, rfl⟩
    | some g off cap => exact ⟨_, _, rfl⟩
  have HA := Lib.hid ha
  have HB := Lib.hid hb
  clear ha hb
  go_enter Tryz.func12, Tryz.ntmps12
  go_wp2_with fail
  go_loopg [5] l.length (fun gh iv wr => ∃ k : Nat, gh + k = l.length ∧ iv = .int .i64 k ∧ Only (fun _ => False) w wr)
  case atStart => exact ⟨0, by omega, rfl, Only.refl _ w⟩
  case round =>
    obtain ⟨k, hgk, rfl, ho⟩ := hrel
    have HO := Lib.hid ho
    clear ho
    by_cases hk : k < l.length
    · have hk1 : (k : Int) < (l.length : Int) := by omega
      have hk0 : (0 : Int) ≤ (k : Int) := by omega
      obtain ⟨x, hx⟩ : ∃ x, l[k]? = some x := ⟨_, List.getElem?_eq_getElem hk⟩
      obtain ⟨g1, off1, rfl, i0, i1, i2⟩ := row_item (row_only HA.out HO.out (fun _ _ => id)) hx
      obtain ⟨g2, off2, rfl, j0, j1, j2⟩ := row_item (row_only HB.out HO.out (fun _ _ => id)) hx
      have hw1 : IntKind.i64.wrap ((k : Int) + 1) = (k : Int) + 1 := by exact IntWalk.i64_in _ (by omega)
      have heq := eql_same x.key x.val x.kind
      have HH := Lib.hid (HO.out.drew)
      clear hx
      go_wp2_with fail
      go_region
      all_goals
        go_wp2_with fail
        go_roundg (gk - 1)
        case measure => omega
        case rel => exact ⟨k + 1, by omega, by go_num, HH.out⟩
    · obtain rfl : k = l.length := by omega
      have hk1 : ¬ (l.length : Int) < (l.length : Int) := by omega
      go_wp2_with fail
      go_ret
      exact ⟨rfl, HO.out⟩

set_option maxRecDepth 100000 in
set_option maxHeartbeats 2000000 in
theorem holds_is (w : World) (low high : Bytes) (bd : Bool) (key : Bytes) : Calls Tryz.prog 110 #[.agg #[str low, str high, .bool bd], str key] w fun e w' => e = .returned (.bool (holdsB low high bd key)) ∧ Only (fun _ => False) w w' := by
  have o1 := (Only.refl (fun _ => False) w).alloc (.cells #[str low, str high, .bool bd] 117)
  have hN := heap_alloc_new w (.cells #[str low, str high, .bool bd] 117)
  have n0 := heap_cell hN 0
  have n1 := heap_cell hN 1
  have n2 := heap_cell hN 2
  simp only [List.getElem?_toArray, List.getElem?_cons_zero, List.getElem?_cons_succ] at n0 n1 n2
  have HO := Lib.hid o1
  clear hN o1
  have e1 : Op.bytesLess key low = decide (key < low) := bytesLess_eq key low
  have e2 : Op.bytesLess key high = decide (key < high) := bytesLess_eq key high
  have hH : holdsB low high bd key = (!decide (key < low) && (!bd || decide (key < high))) := rfl
  have HH := Lib.hid hH
  clear hH
  go_enter Tryz.func110, Tryz.ntmps110
  cases h1 : decide (key < low) with
  | true =>
    rw [h1] at e1
    go_wp2_with fail
    go_ret
    exact ⟨by rw [HH.out, h1]; rfl, HO.out⟩
  | false =>
    rw [h1] at e1
    cases bd with
    | false =>
      go_wp2_with fail
      go_ret
      exact ⟨by rw [HH.out, h1]; rfl, HO.out⟩
    | true =>
      go_wp2_with fail
      go_ret
      exact ⟨by rw [HH.out, h1]; simp, HO.out⟩
end Go.Proofs.YtklccpaphkpgfaaGreat
