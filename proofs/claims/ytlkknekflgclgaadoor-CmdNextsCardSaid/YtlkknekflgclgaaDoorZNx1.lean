/- Package cmd: buckets one below the root: found, told, made, dropped, counted. Conditions: one goroutine; the names hold no slash. -/
import Derived.Test.YtlkknekflgclgaaDoorZPath2
import Derived.Test.YtlkknekflgclgaaDoorZCmd9
import Derived.Deep.RegionHeld3
namespace Go.Proofs.YtlkknekflgclgaaDoor
open Go.RowKit Go.MuLone

/-- A name that may be, of no bucket within one. -/
structure Named (p : Bytes) : Prop where
  ne : p ≠ []
  short : p.length ≤ 32
  flat : ∀ k : Nat, p[k]? ≠ some (47 : UInt8)
  free : ownS p = false
theorem Named.parts {p : Bytes} (h : Named p) : partsP p = [p] := partsP_miss h.flat
theorem Named.word {p : Bytes} (h : Named p) : wordB p = true := by
  have h1 : 1 ≤ p.length := List.length_pos_iff.2 h.ne
  unfold wordB
  rw [decide_eq_true h1, decide_eq_true h.short]
  rfl
theorem Named.ok {p : Bytes} (h : Named p) : pathOk p = true := by
  unfold pathOk
  rw [h.parts]
  simp [h.word]
theorem Path_one (w : World) (p : Bytes) (h : Named p) (hm : MaxAt w) : Calls Tryd.prog 23 #[str p] w fun e w' => ∃ g, e = .returned (.tuple #[.slice (some ⟨g, 0, none⟩) 1 1, .int .i64 0]) ∧ w'.cell? ⟨g, 0, none⟩ = some (str p) ∧ Only (fun _ => False) w w' := by
  refine (Path_is w p h.ne (by have := h.short; omega) hm).mono ?_
  intro e w' q
  unfold PathEnds at q
  rw [if_pos h.ok, h.parts] at q
  obtain ⟨g, he, hr, _, ho⟩ := q
  exact ⟨g, he, hr.cell 0 p rfl, ho⟩
set_option maxRecDepth 100000 in
theorem names_one (w : World) (p : Bytes) (h : Named p) (hm : MaxAt w) : Calls Tryd.prog 15 #[str p] w fun e w' => ∃ g, e = .returned (.tuple #[.slice (some ⟨g, 0, none⟩) 1 1, .int .i64 0]) ∧ Only (fun _ => False) w w' := by
  have HP := Lib.hid (Path_one w p h hm)
  have HO : Hid (∀ W, Calls Tryd.prog 24 #[str p] W fun e w' => e = .returned (.bool false) ∧ W = w') := Lib.hid (fun W => h.free ▸ own_is W p)
  clear h hm
  go_enter Tryd.func15, Tryd.ntmps15
  go_wp2_with fail
  (with_reducible refine HP.out.mono ?_)
  rintro e w2 ⟨g, rfl, hc, ho⟩
  have HC := Lib.hid hc
  have HO2 := Lib.hid ho
  clear hc ho HP
  go_wp2_with fail
  go_loopg [15] 1 (fun gh iv wr => ∃ i : Nat, gh + i = 1 ∧ iv = .int .i64 i ∧ wr = w2)
  case atStart => exact ⟨0, by omega, rfl, rfl⟩
  case round =>
    obtain ⟨i, hgk, rfl, rfl⟩ := hrel
    by_cases hi : i = 0
    · subst hi
      have c0 := HC.out
      go_wp2_with fail
      (with_reducible refine (HO.out _).mono ?_)
      rintro e _ ⟨rfl, rfl⟩
      go_wp2_with fail
      go_roundg 0
      case measure => omega
      case rel => exact ⟨1, by omega, by go_num, rfl⟩
    · obtain rfl : i = 1 := by omega
      go_wp2_with fail
      go_ret2
      exact ⟨g, rfl, HO2.out⟩
set_option maxRecDepth 100000 in
theorem find_one (w : World) (root ra : Nat) (p : Bytes) (R : Box) (hR : BoxAt w root R) (h : Named p) (hm : MaxAt w) (hV : R.V p = none) (hI : R.I p = some (some ra)) :
    Calls Tryd.prog 99 #[.agg #[.pointer (some ⟨root, 0, none⟩)], str p] w fun e w' => e = .returned (.tuple #[.pointer (some ⟨ra, 0, none⟩), .int .i64 0]) ∧ Only (fun _ => False) w w' := by
  obtain ⟨ho, c0⟩ := recv_laid w root
  have hp : p.length ≤ maxLen := by have := h.short; have : maxLen = 9223372036854775807 := by decide
                                    omega
  have HP := Lib.hid (Path_one _ p h (hm.still ho))
  have HB := Lib.hid (hR.still ho)
  have HO := Lib.hid ho
  clear ho hR h hm
  go_enter Tryd.func99, Tryd.ntmps99
  go_wp2_with fail
  (with_reducible refine HP.out.mono ?_)
  rintro e w2 ⟨g, rfl, hc, ho⟩
  have HC := Lib.hid hc
  have HB2 := Lib.hid (HB.out.still ho)
  have HO2 := Lib.hid (HO.out.trans ho (fun _ _ q => q))
  have d0 := (ho.cell (p := ⟨w.heap.size, 0, none⟩) (lt_of_cell c0) id).trans c0
  clear hc ho HP HB HO c0
  go_wp2_with fail
  go_loopg [8, 27] 1 (fun gh bv iv wr => ∃ i : Nat, gh + i = 1 ∧ iv = .int .i64 i ∧ wr = w2 ∧ bv = .pointer (some ⟨if i = 0 then root else ra, 0, none⟩))
  case atStart => exact ⟨0, by omega, rfl, rfl, rfl⟩
  case round =>
    obtain ⟨i, hgk, rfl, rfl, rfl⟩ := hrel
    by_cases hi : i = 0
    · subst hi
      have c0 := HC.out
      obtain ⟨_, c1, c2⟩ := HB2.out.cells
      have hl := HB2.out.ins.look (t := 51) (by kernel_rfl) (by kernel_rfl) true p hp
      have hl2 := HB2.out.vals.look (t := 37) (by kernel_rfl) (by kernel_rfl) true p hp
      rw [hI] at hl
      rw [hV] at hl2
      simp only [if_true, Option.getD_some, Option.isSome_some, Option.getD_none, Option.isSome_none] at hl hl2
      have hz : CP.val (some ra) = .pointer (some ⟨ra, 0, none⟩) := rfl
      have hz2 : CS.val CS.zero = str [] := rfl
      rw [hz] at hl
      rw [hz2] at hl2
      have hI2 := Lib.hid hI
      clear hI hV hz hz2
      go_wp2_with fail
      go_roundg 0
      case measure => omega
      case rel => exact ⟨1, by omega, by go_num, rfl, rfl⟩
    · obtain rfl : i = 1 := by omega
      go_wp2_with fail
      go_ret2
      exact ⟨rfl, HO2.out⟩
set_option maxRecDepth 100000 in
theorem find_none (w : World) (root : Nat) (p : Bytes) (R : Box) (hR : BoxAt w root R) (h : Named p) (hm : MaxAt w) (hV : R.V p = none) (hI : R.I p = none) :
    Calls Tryd.prog 99 #[.agg #[.pointer (some ⟨root, 0, none⟩)], str p] w fun e w' => e = .returned (.tuple #[.pointer none, .int .i64 8]) ∧ Only (fun _ => False) w w' := by
  obtain ⟨ho, c0⟩ := recv_laid w root
  have hp : p.length ≤ maxLen := by have := h.short; have : maxLen = 9223372036854775807 := by decide
                                    omega
  have HP := Lib.hid (Path_one _ p h (hm.still ho))
  have HB := Lib.hid (hR.still ho)
  have HO := Lib.hid ho
  clear ho hR h hm
  go_enter Tryd.func99, Tryd.ntmps99
  go_wp2_with fail
  (with_reducible refine HP.out.mono ?_)
  rintro e w2 ⟨g, rfl, hc, ho⟩
  have HC := Lib.hid hc
  have HB2 := Lib.hid (HB.out.still ho)
  have HO2 := Lib.hid (HO.out.trans ho (fun _ _ q => q))
  have d0 := (ho.cell (p := ⟨w.heap.size, 0, none⟩) (lt_of_cell c0) id).trans c0
  clear hc ho HP HB HO c0
  go_wp2_with fail
  go_loopg [8, 27] 1 (fun gh bv iv wr => iv = .int .i64 0 ∧ wr = w2 ∧ bv = .pointer (some ⟨root, 0, none⟩))
  case atStart => exact ⟨rfl, rfl, rfl⟩
  case round =>
    obtain ⟨rfl, rfl, rfl⟩ := hrel
    have c0 := HC.out
    obtain ⟨_, c1, c2⟩ := HB2.out.cells
    have hl := HB2.out.ins.look (t := 51) (by kernel_rfl) (by kernel_rfl) true p hp
    have hl2 := HB2.out.vals.look (t := 37) (by kernel_rfl) (by kernel_rfl) true p hp
    rw [hI] at hl
    rw [hV] at hl2
    simp only [if_true, Option.getD_none, Option.isSome_none] at hl hl2
    have hz : CP.val CP.zero = .pointer none := rfl
    have hz2 : CS.val CS.zero = str [] := rfl
    rw [hz] at hl
    rw [hz2] at hl2
    clear hI hV hz hz2
    go_wp2_with fail
    go_ret2
    exact ⟨rfl, HO2.out⟩
end Go.Proofs.YtlkknekflgclgaaDoor
