/- Package bucket: a path's names. Conditions: one goroutine; the path is no longer than 4 GB; the library's bound MaxLen is some number. -/
import Derived.Test.YtlkknekflgclgaaDoorZPathL
import Derived.Test.YtlkknekflgclgaaDoorZCmd2
import Derived.Test.YtlkknekflgclgaaDoorZShel
import Derived.Deep.LoopGhost
import Derived.Deep.RegionWith
import Derived.Conc.MuLone
namespace Go.Proofs.YtlkknekflgclgaaDoor
open Go.RowKit Go.MuLone

/-- A row of texts in a block of its own. -/
def StrRow (w : World) (g : Nat) (l : List Bytes) : Prop := w.heap[g]? = some (.cells (l.map str).toArray 9 (0, 0))
theorem StrRow.cell {w : World} {g : Nat} {l : List Bytes} (h : StrRow w g l) (i : Nat) (x : Bytes) (hx : l[i]? = some x) : w.cell? ⟨g, i, none⟩ = some (str x) := by
  have h2 := blk_cell h i
  rw [h2]
  simp [hx]
theorem StrRow.still {w w' : World} {g : Nat} {l : List Bytes} (h : StrRow w g l) (ho : Only (fun _ => False) w w') : StrRow w' g l := (ho.block g (blk_lt h) id).trans h
/-- May a name be? -/
def wordB (s : Bytes) : Bool := decide (1 ≤ s.length) && decide (s.length ≤ 32)
theorem word_is (w : World) (s : Bytes) (hs : s.length ≤ maxLen) : Calls Tryd.prog 34 #[str s] w fun e w' => e = .returned (.bool (wordB s)) ∧ w = w' := by
  have hm : maxLen = 9223372036854775807 := by decide
  by_cases h1 : 1 ≤ s.length
  · have g1 : decide ((s.length : Int) ≥ 1) = true := decide_eq_true (by omega)
    have g1' : decide (1 ≤ (s.length : Int)) = true := decide_eq_true (by omega)
    have hw : wordB s = decide ((s.length : Int) ≤ 32) := by
      unfold wordB
      rw [decide_eq_true h1, Bool.true_and]
      exact decide_eq_decide.2 (by omega)
    rw [hw]
    clear hw
    go_enter Tryd.func34, Tryd.ntmps34
    go_wp2_with fail
    go_ret
    all_goals exact ⟨rfl, rfl⟩
  · have g1 : decide ((s.length : Int) ≥ 1) = false := decide_eq_false (by omega)
    have g1' : decide (1 ≤ (s.length : Int)) = false := decide_eq_false (by omega)
    have hw : wordB s = false := by
      unfold wordB
      rw [decide_eq_false h1, Bool.false_and]
    rw [hw]
    clear hw
    go_enter Tryd.func34, Tryd.ntmps34
    go_wp2_with fail
    go_ret
    all_goals exact ⟨rfl, rfl⟩
theorem wordF_is (w : World) (s : Bytes) (hs : s.length ≤ maxLen) : Calls Tryd.prog 33 #[str s] w fun e w' => e = .returned (.bool (!wordB s)) ∧ w = w' := by
  have HW := Lib.hid (word_is w s hs)
  go_enter Tryd.func33, Tryd.ntmps33
  go_wp2_with fail
  (with_reducible refine HW.out.mono ?_)
  rintro e _ ⟨rfl, rfl⟩
  go_wp2_with fail
  go_ret
  exact ⟨rfl, rfl⟩
/-- What IndexFunc tells. -/
def IndexEnds (w : World) (l : List Bytes) : Ending → World → Prop := fun e w' => ∃ r : Int, e = .returned (.int .i64 r) ∧ decide (r ≥ 0) = l.any (fun x => !wordB x) ∧ w = w'
set_option maxRecDepth 100000 in
theorem Index_is (w : World) (g : Nat) (l : List Bytes) (hl : StrRow w g l) (hn : l.length ≤ 1000000) (hs : ∀ x ∈ l, x.length ≤ maxLen) :
    Calls Tryd.prog 44 #[.slice (some ⟨g, 0, none⟩) l.length l.length, .func (.func 33) #[] #[]] w (IndexEnds w l) := by
  have hcf : ∀ cap w, (callFunc 33 cap).run Tryd.prog w = .ok (.enter 33 cap) w := fun cap w => run_callFunc_enter Tryd.func33 (by kernel_rfl) rfl cap w
  have HL := Lib.hid hl
  clear hl
  go_enter Tryd.func44, Tryd.ntmps44
  go_wp2_with fail
  go_loopg [8] l.length (fun gh iv wr => ∃ i : Nat, gh + i = l.length ∧ iv = .int .i64 i ∧ wr = w ∧ ∀ x ∈ l.take i, wordB x = true)
  case atStart => exact ⟨0, by omega, rfl, rfl, by simp⟩
  case round =>
    obtain ⟨i, hgk, rfl, rfl, hall⟩ := hrel
    have HA := Lib.hid hall
    clear hall
    by_cases hi : i < l.length
    · obtain ⟨x, hx⟩ : ∃ x, l[i]? = some x := ⟨_, List.getElem?_eq_getElem hi⟩
      have c0 := HL.out.cell i x hx
      have hi1 : (i : Int) < (l.length : Int) := by omega
      have hwi : IntKind.i64.wrap ((i : Int) + 1) = (i : Int) + 1 := IntWalk.i64_in _ (by omega)
      have HW := Lib.hid (wordF_is wr x (hs x (List.mem_of_getElem? hx)))
      have HX := Lib.hid hx
      clear hx
      go_wp2_with fail
      (with_reducible refine HW.out.mono ?_)
      rintro e _ ⟨rfl, rfl⟩
      cases hb : wordB x with
      | true =>
        go_wp2_with fail
        go_roundg (gk - 1)
        case measure => omega
        case rel =>
          refine ⟨i + 1, by omega, by go_num, rfl, fun y hy => ?_⟩
          rw [List.take_add_one, HX.out] at hy
          simp at hy
          rcases hy with hy | rfl
          · exact HA.out y hy
          · exact hb
      | false =>
        go_wp2_with fail
        go_ret
        refine ⟨_, rfl, ?_, rfl⟩
        have h1 : l.any (fun x => !wordB x) = true := by
          rw [List.any_eq_true]
          exact ⟨x, List.mem_of_getElem? HX.out, by rw [hb]; rfl⟩
        rw [h1]
        exact decide_eq_true (by omega)
    · obtain rfl : i = l.length := by omega
      have hi1 : ¬ ((l.length : Int) < (l.length : Int)) := by omega
      go_wp2_with fail
      go_ret
      refine ⟨_, rfl, ?_, rfl⟩
      have h1 : l.any (fun x => !wordB x) = false := by
        rw [List.any_eq_false]
        intro y hy
        have := HA.out y (by rw [List.take_length]; exact hy)
        rw [this]
        simp
      rw [h1]
      rfl
end Go.Proofs.YtlkknekflgclgaaDoor
