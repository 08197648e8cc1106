/- The arguments of the laws on walks, as they lie in memory: rows of items, rows of moves. Conditions: none but those of the statements themselves. -/
import Derived.Test.YtklccpaphkpgfaaGreatZLeafA
import Derived.Test.YtklccpaphkpgfaaGreatZOpen
import Derived.OpenShut
namespace Go.Proofs.YtklccpaphkpgfaaGreat
open Go.RowKit Go.ChangeShapes Go.WideShapes Go.Deep

/-- A row that came in stands at a plain address, in a block that is there. -/
theorem okWide_place {P : Program} {w : World} {r : Reach} {base : Nat} {t e : TypeId} {a : Addr} {len cap : Nat} (ht : P.underlying t = some (.slice e)) (h : Value.okWide P w r base t (.slice (some a) len cap)) : a.spot = none ∧ a.block < w.heap.size := by
  simp only [Value.okWide, ht, Cell.okWide, Cell.ok] at h
  obtain ⟨_, _, _, hs, row, cells, hsh, _⟩ := h
  refine ⟨hs, ?_⟩
  apply Classical.byContradiction
  intro q
  unfold World.shape? at hsh
  rw [Array.getElem?_eq_none (by omega)] at hsh
  cases hsh

/-- A row of items that came in. -/
structure IsItems (w : World) (a : Option Addr) (len cap : Nat) (l : List Item) : Prop where
  many : l.length = len
  row : RowAt itemC 3 w (.slice a len cap) l
  lt : ∀ j, rowBlock (.slice a len cap) = some j → j < w.heap.size
  few : len ≤ 9223372036854775807
  short : ∀ x ∈ l, x.key.length ≤ 9223372036854775807 ∧ x.val.length ≤ 9223372036854775807
  kinds : ∀ x ∈ l, -9223372036854775808 ≤ x.kind ∧ x.kind ≤ 9223372036854775807

set_option maxRecDepth 100000 in
theorem items_of {H : Type} {enc : TypeId × Value → H} {W : World} {r : Reach} {base : Nat} {a : Option Addr} {len cap : Nat} {d : DataW H} {p : List MemPlace} (hval : Value.okWide Tryz.prog W r base 22 (.slice a len cap))
    (h : DataW.Trod enc Tryz.prog W 0 (fun _ => true) true 22 (.slice a len cap) d p) : ∃ l, IsItems W a len cap l := by
  obtain ⟨fuel, hf⟩ := h
  rcases open_slice_fields Tryz.underlying22 Tryz.underlying29 (by kernel_rfl) (by kernel_rfl) hf with ⟨hcs, _⟩ | ⟨x, l, c, m, D, Pl, hcs, _, hl, hc, hm, _, hi⟩
  · simp [Value.cells] at hcs
    obtain ⟨rfl, rfl, rfl⟩ := hcs
    exact ⟨[], ⟨rfl, .none, (fun j hj => by cases hj), by omega, (fun x hx => by cases hx), fun x hx => by cases hx⟩⟩
  · simp [Value.cells] at hcs
    obtain ⟨rfl, rfl, rfl⟩ := hcs
    rw [if_pos rfl] at hm
    obtain ⟨hsp, hlt⟩ := okWide_place Tryz.underlying22 hval
    obtain ⟨g, off, sp⟩ := x
    simp only at hsp hlt
    subst hsp
    have key : ∀ i, i < len → ∃ q : Item, W.cell? ⟨g, off + i * 3, none⟩ = some (str q.key) ∧ W.cell? ⟨g, off + (i * 3 + 1), none⟩ = some (str q.val) ∧ W.cell? ⟨g, off + (i * 3 + 2), none⟩ = some (.int .i64 q.kind) ∧
        (q.key.length ≤ 9223372036854775807 ∧ q.val.length ≤ 9223372036854775807) ∧ -9223372036854775808 ≤ q.kind ∧ q.kind ≤ 9223372036854775807 := by
      intro i hlt
      obtain ⟨ys, n, _, _, _, hf⟩ := hi i (by omega)
      obtain ⟨v0, y0, c0, _, t0⟩ := hf 0 _ rfl
      obtain ⟨v1, y1, c1, _, t1⟩ := hf 1 _ rfl
      obtain ⟨v2, y2, c2, _, t2⟩ := hf 2 _ rfl
      obtain ⟨s0, e0, _, z0⟩ := DataW.trod_string Tryz.underlying9 t0
      obtain ⟨s1, e1, _, z1⟩ := DataW.trod_string Tryz.underlying9 t1
      obtain ⟨q2, e2, _, w2⟩ := DataW.trod_int Tryz.underlying3 t2
      simp only [List.cons.injEq, and_true] at e0 e1 e2
      subst e0 e1 e2
      rw [Go.WideShapes.add_plain] at c0 c1 c2
      have hb := bounds_i64 w2
      refine ⟨⟨s0.data.toList, s1.data.toList, q2⟩, ?_, ?_, c2, ⟨z0, z1⟩, hb⟩
      · rw [Nat.add_zero] at c0
        exact c0.trans (by simp [str])
      · exact c1.trans (by simp [str])
    have hall : ∃ f : Nat → Item, ∀ i, i < len → W.cell? ⟨g, off + i * 3, none⟩ = some (str (f i).key) ∧ W.cell? ⟨g, off + (i * 3 + 1), none⟩ = some (str (f i).val) ∧ W.cell? ⟨g, off + (i * 3 + 2), none⟩ = some (.int .i64 (f i).kind) ∧
        ((f i).key.length ≤ 9223372036854775807 ∧ (f i).val.length ≤ 9223372036854775807) ∧ -9223372036854775808 ≤ (f i).kind ∧ (f i).kind ≤ 9223372036854775807 :=
      ⟨fun i => if h : i < len then (key i h).choose else ⟨[], [], 0⟩, fun i h => by simp only [dif_pos h]; exact (key i h).choose_spec⟩
    obtain ⟨f, hf⟩ := hall
    have hlen : ((List.range len).map f).length = len := by simp
    have hget : ∀ i x, ((List.range len).map f)[i]? = some x → i < len ∧ x = f i := fun i x hx => by
      have hlt := (List.getElem?_eq_some_iff.1 hx).1
      rw [hlen] at hlt
      rw [List.getElem?_map, List.getElem?_range hlt] at hx
      exact ⟨hlt, (Option.some.inj hx).symm⟩
    refine ⟨(List.range len).map f, ⟨hlen, ?_, (fun j hj => by cases hj; exact hlt), ?_, fun x hx => ?_, fun x hx => ?_⟩⟩
    · have := RowAt.some (enc := itemC) (k := 3) (w := W) g off cap ((List.range len).map f) fun i x j u hx hu => by
        obtain ⟨hlt, rfl⟩ := hget i x hx
        obtain ⟨c0, c1, c2, _⟩ := hf i hlt
        match j, hu with
        | 0, hu => cases hu; exact c0
        | 1, hu => cases hu; exact c1
        | 2, hu => cases hu; exact c2
        | j + 3, hu => cases hu
      rwa [hlen] at this
    · have : maxLen = 9223372036854775807 := by decide
      omega
    · obtain ⟨i, hi⟩ := List.getElem?_of_mem hx
      obtain ⟨hlt, rfl⟩ := hget i x hi
      exact (hf i hlt).2.2.2.1
    · obtain ⟨i, hi⟩ := List.getElem?_of_mem hx
      obtain ⟨hlt, rfl⟩ := hget i x hi
      exact (hf i hlt).2.2.2.2
end Go.Proofs.YtklccpaphkpgfaaGreat
