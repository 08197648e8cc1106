/- The arguments of the laws on commands, as they lie in memory: rows of numbers, of bools. Conditions: none but those of the statements themselves. -/
import Derived.Test.YtlkknekflgclgaaDoorZBase
import Derived.OpenShut
import Derived.ProofKit
import Derived.Deep.Slices
namespace Go.Proofs.YtlkknekflgclgaaDoor
open Go.RowKit Go.ChangeShapes Go.WideShapes Go.Deep

theorem okWide_place {P : Program} {w : World} {r : Reach} {base : Nat} {t e : TypeId} {a : Addr} {len cap : Nat} (ht : P.underlying t = some (.slice e)) (h : Value.okWide P w r base t (.slice (some a) len cap)) : a.spot = none ∧ a.block < w.heap.size := by
  simp only [Value.okWide, ht, Cell.okWide, Cell.ok] at h
  obtain ⟨_, _, _, hs, row, cells, hsh, _⟩ := h
  refine ⟨hs, ?_⟩
  apply Classical.byContradiction
  intro q
  unfold World.shape? at hsh
  rw [Array.getElem?_eq_none (by omega)] at hsh
  cases hsh

/-- A row that came in: each cell's value, by what it says. -/
structure IsArg {α : Type} (val : α → Value) (w : World) (a : Option Addr) (len : Nat) (l : List α) : Prop where
  many : l.length = len
  few : len ≤ 9223372036854775807
  cells : ∀ i, i < len → ∃ g off, a = some ⟨g, off, none⟩ ∧ ∃ x, l[i]? = some x ∧ w.cell? ⟨g, off + i, none⟩ = some (val x)
theorem IsArg.only {α : Type} {val : α → Value} {w w' : World} {a : Option Addr} {len : Nat} {l : List α} (h : IsArg val w a len l) (ho : Only (fun _ => False) w w') : IsArg val w' a len l := by
  refine ⟨h.many, h.few, fun i hi => ?_⟩
  obtain ⟨g, off, e, x, hx, hc⟩ := h.cells i hi
  exact ⟨g, off, e, x, hx, (ho.cell (p := ⟨g, off + i, none⟩) (lt_of_cell hc) id).trans hc⟩
def IsInts (w : World) (a : Option Addr) (len _cap : Nat) (l : List Int) : Prop := IsArg (fun z : Int => .int .i64 z) w a len l
def IsBools (w : World) (a : Option Addr) (len _cap : Nat) (l : List Bool) : Prop := IsArg Value.bool w a len l
set_option maxRecDepth 100000 in
theorem ints_of {H : Type} {enc : TypeId × Value → H} {W : World} {r : Reach} {base : Nat} {a : Option Addr} {len cap : Nat} {d : DataW H} {p : List MemPlace} (hval : Value.okWide Tryd.prog W r base 22 (.slice a len cap))
    (h : DataW.Trod enc Tryd.prog W 0 (fun _ => true) true 22 (.slice a len cap) d p) : ∃ l, IsInts W a len cap l := by
  obtain ⟨fuel, hf⟩ := h
  have hO : Tryd.prog.cellsOf 3 = 1 := by kernel_rfl
  rcases open_slice Tryd.underlying22 hf with ⟨hcs, _⟩ | ⟨x, l, c, m, n, D, Pl, hcs, _, hl, hc, hm, _, hi⟩
  · simp [Value.cells] at hcs
    obtain ⟨rfl, rfl, rfl⟩ := hcs
    exact ⟨[], rfl, by omega, fun i hi => by omega⟩
  · simp [Value.cells] at hcs
    obtain ⟨rfl, rfl, rfl⟩ := hcs
    rw [if_pos rfl] at hm
    obtain ⟨hsp, hlt⟩ := okWide_place Tryd.underlying22 hval
    obtain ⟨g, off, sp⟩ := x
    simp only at hsp hlt
    subst hsp
    have key : ∀ i, i < len → ∃ q : Int, W.cell? ⟨g, off + i, none⟩ = some (.int .i64 q) := by
      intro i hlt
      obtain ⟨cs', hc', ht'⟩ := hi i (by omega)
      rw [hO] at hc'
      obtain ⟨_, hcl, hat⟩ := World.cells?_some hc'
      match cs', hcl with
      | [c0], _ =>
        obtain ⟨q, e, _, w2⟩ := DataW.trod_int Tryd.underlying3 ht'
        simp only [List.cons.injEq, and_true] at e
        subst e
        have := hat 0 (by simp)
        rw [Go.WideShapes.add_plain, Go.WideShapes.add_plain] at this
        refine ⟨q, ?_⟩
        simpa using this
    have hall : ∃ f : Nat → Int, ∀ i, i < len → W.cell? ⟨g, off + i, none⟩ = some (.int .i64 (f i)) :=
      ⟨fun i => if h : i < len then (key i h).choose else 0, fun i h => by simp only [dif_pos h]; exact (key i h).choose_spec⟩
    obtain ⟨f, hf⟩ := hall
    have hc9 : len ≤ 9223372036854775807 := by
      have : maxLen = 9223372036854775807 := by decide
      omega
    refine ⟨(List.range len).map f, by simp, hc9, fun i hi => ⟨g, off, rfl, f i, ?_, hf i hi⟩⟩
    rw [List.getElem?_map, List.getElem?_range hi]
    rfl
set_option maxRecDepth 100000 in
theorem bools_of {H : Type} {enc : TypeId × Value → H} {W : World} {r : Reach} {base : Nat} {a : Option Addr} {len cap : Nat} {d : DataW H} {p : List MemPlace} (hval : Value.okWide Tryd.prog W r base 34 (.slice a len cap))
    (h : DataW.Trod enc Tryd.prog W 0 (fun _ => true) true 34 (.slice a len cap) d p) : ∃ l, IsBools W a len cap l := by
  obtain ⟨fuel, hf⟩ := h
  have hO : Tryd.prog.cellsOf 4 = 1 := by kernel_rfl
  rcases open_slice Tryd.underlying34 hf with ⟨hcs, _⟩ | ⟨x, l, c, m, n, D, Pl, hcs, _, hl, hc, hm, _, hi⟩
  · simp [Value.cells] at hcs
    obtain ⟨rfl, rfl, rfl⟩ := hcs
    exact ⟨[], rfl, by omega, fun i hi => by omega⟩
  · simp [Value.cells] at hcs
    obtain ⟨rfl, rfl, rfl⟩ := hcs
    rw [if_pos rfl] at hm
    obtain ⟨hsp, hlt⟩ := okWide_place Tryd.underlying34 hval
    obtain ⟨g, off, sp⟩ := x
    simp only at hsp hlt
    subst hsp
    have key : ∀ i, i < len → ∃ q : Bool, W.cell? ⟨g, off + i, none⟩ = some (.bool q) := by
      intro i hlt
      obtain ⟨cs', hc', ht'⟩ := hi i (by omega)
      rw [hO] at hc'
      obtain ⟨_, hcl, hat⟩ := World.cells?_some hc'
      match cs', hcl with
      | [c0], _ =>
        obtain ⟨q, e, _⟩ := DataW.trod_bool Tryd.underlying4 ht'
        simp only [List.cons.injEq, and_true] at e
        subst e
        have := hat 0 (by simp)
        rw [Go.WideShapes.add_plain, Go.WideShapes.add_plain] at this
        refine ⟨q, ?_⟩
        simpa using this
    have hall : ∃ f : Nat → Bool, ∀ i, i < len → W.cell? ⟨g, off + i, none⟩ = some (.bool (f i)) :=
      ⟨fun i => if h : i < len then (key i h).choose else false, fun i h => by simp only [dif_pos h]; exact (key i h).choose_spec⟩
    obtain ⟨f, hf⟩ := hall
    have hc9 : len ≤ 9223372036854775807 := by
      have : maxLen = 9223372036854775807 := by decide
      omega
    refine ⟨(List.range len).map f, by simp, hc9, fun i hi => ⟨g, off, rfl, f i, ?_, hf i hi⟩⟩
    rw [List.getElem?_map, List.getElem?_range hi]
    rfl
end Go.Proofs.YtlkknekflgclgaaDoor
