/- Rows of items: parts of them, to be read. Conditions: the row lies in memory. -/
import Derived.Test.YtbhiamcmiopnoaaGreatDoorZLeaf6
import Derived.Test.YtbhiamcmiopnoaaGreatDoorZTreeB
namespace Go.Proofs.YtbhiamcmiopnoaaGreatDoor
section
open Go.RowKit
theorem row_form {w : World} {v : Value} {l : List Item} (h : RowAt itemC 3 w v l) : ∃ a c, v = .slice a l.length c := by
  cases h with
  | none => exact ⟨_, _, rfl⟩
  | some g off cap => exact ⟨_, _, rfl⟩
theorem row_read {w : World} {a : Option Addr} {n c : Nat} {l : List Item} (h : RowAt itemC 3 w (.slice a n c) l) : ∀ W, Only (fun _ => False) w W → ∀ ad, a = some ad → ∀ j u, (l.flatMap itemC)[j]? = some u → W.cell? (ad.add j) = some u := by
  intro W hW ad e j u hu
  subst e
  cases h with
  | some g off cap _ hc => exact row_cells (row_only (.some g off c _ hc) hW (fun _ _ => id)) j u hu
theorem row_nil {w : World} {a : Option Addr} {n c : Nat} {l : List Item} (h : RowAt itemC 3 w (.slice a n c) l) : a = none → n = 0 ∧ c = 0 := by
  intro e
  subst e
  cases h with
  | none => exact ⟨rfl, rfl⟩
end
section
open Go.RowKit
set_option maxRecDepth 100000 in
set_option maxHeartbeats 2000000 in
theorem In_is (w : World) (v : Value) (l : List Int) (id : Int) (h : RowAt intE 1 w v l) (hn : l.length ≤ 1000000) : Calls Tryz.prog 22 #[v, .int .i64 id] w fun e w' => e = .returned (.bool (decide (id ∈ l))) ∧ Only (fun _ => False) w w' := by
  obtain ⟨a1, c1, rfl⟩ : ∃ a c, v = .slice a l.length c := by cases h with
    | none => exact ⟨_, _, rfl⟩
    | some g off cap => exact ⟨_, _, rfl⟩
  have HA := Lib.hid h
  clear h
  go_enter Tryz.func22, Tryz.ntmps22
  go_wp2_with fail
  go_loopg [5] l.length (fun gh iv wr => ∃ k : Nat, gh + k = l.length ∧ iv = .int .i64 k ∧ Only (fun _ => False) w wr ∧ id ∉ l.take k)
  case atStart => exact ⟨0, by omega, rfl, Only.refl _ w, by simp⟩
  case round =>
    obtain ⟨k, hgk, rfl, ho, hne⟩ := hrel
    have HO := Lib.hid ho
    have HNE := Lib.hid hne
    clear ho hne
    by_cases hk : k < l.length
    · have hk1 : (k : Int) < (l.length : Int) := by omega
      have hk0 : (0 : Int) ≤ (k : Int) := by omega
      obtain ⟨x, hx⟩ : ∃ x, l[k]? = some x := ⟨_, List.getElem?_eq_getElem hk⟩
      obtain ⟨g1, off1, rfl, i0⟩ := row_int (row_only HA.out HO.out (fun _ _ q => q)) hx
      have hw1 : IntKind.i64.wrap ((k : Int) + 1) = (k : Int) + 1 := by exact IntWalk.i64_in _ (by omega)
      have HX := Lib.hid hx
      clear hx
      by_cases hxi : x = id
      · subst hxi
        have HIN : Hid (decide (x ∈ l) = true) := Lib.hid (decide_eq_true (List.mem_of_getElem? HX.out))
        go_wp2_with fail
        go_ret
        exact ⟨by rw [HIN.out]; rfl, HO.out⟩
      · have hd : (x == id) = false := by simpa using hxi
        have HND : Hid (id ∉ l.take (k + 1)) := Lib.hid (by
          rw [List.take_add_one, HX.out]
          intro q
          rcases List.mem_append.1 q with q | q
          · exact HNE.out q
          · rw [Option.toList_some, List.mem_singleton] at q
            exact hxi q.symm)
        go_wp2_with fail
        go_roundg (gk - 1)
        case measure => omega
        case rel => exact ⟨k + 1, by omega, by go_num, HO.out, HND.out⟩
    · obtain rfl : k = l.length := by omega
      have hk1 : ¬ (l.length : Int) < (l.length : Int) := by omega
      have HIN : Hid (decide (id ∈ l) = false) := Lib.hid (decide_eq_false (by have := HNE.out; rwa [List.take_length] at this))
      go_wp2_with fail
      go_ret
      exact ⟨by rw [HIN.out]; rfl, HO.out⟩
end
end Go.Proofs.YtbhiamcmiopnoaaGreatDoor
