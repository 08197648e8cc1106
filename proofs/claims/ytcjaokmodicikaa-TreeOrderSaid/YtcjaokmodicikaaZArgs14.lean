/- The arguments of the laws on trees, as they lie in memory: rows of numbers. Conditions: none but those of the statements themselves. -/
import Derived.Test.YtcjaokmodicikaaZArgs
import Derived.Test.YtcjaokmodicikaaZTree3
namespace Go.Proofs.Ytcjaokmodicikaa
open Go.RowKit Go.ChangeShapes Go.WideShapes Go.Deep

/-- A row of numbers that came in. -/
structure IsInts (w : World) (a : Option Addr) (len cap : Nat) (l : List Int) : Prop where
  many : l.length = len
  row : RowAt intE 1 w (.slice a len cap) l
  few : len ≤ 9223372036854775807
  bounds : ∀ x ∈ l, -9223372036854775808 ≤ x ∧ x ≤ 9223372036854775807

set_option maxRecDepth 100000 in
theorem numbers_of {H : Type} {enc : TypeId × Value → H} {W : World} {r : Reach} {base : Nat} {a : Option Addr} {len cap : Nat} {d : DataW H} {p : List MemPlace} (hval : Value.okWide Try.prog W r base 42 (.slice a len cap))
    (h : DataW.Trod enc Try.prog W 0 (fun _ => true) true 42 (.slice a len cap) d p) : ∃ l, IsInts W a len cap l := by
  obtain ⟨fuel, hf⟩ := h
  have hO : Try.prog.cellsOf 3 = 1 := by kernel_rfl
  rcases open_slice Try.underlying42 hf with ⟨hcs, _⟩ | ⟨x, l, c, m, n, D, Pl, hcs, _, hl, hc, hm, _, hi⟩
  · simp [Value.cells] at hcs
    obtain ⟨rfl, rfl, rfl⟩ := hcs
    exact ⟨[], ⟨rfl, .none, by omega, fun x hx => by cases hx⟩⟩
  · simp [Value.cells] at hcs
    obtain ⟨rfl, rfl, rfl⟩ := hcs
    rw [if_pos rfl] at hm
    obtain ⟨hsp, hlt⟩ := okWide_place Try.underlying42 hval
    obtain ⟨g, off, sp⟩ := x
    simp only at hsp hlt
    subst hsp
    have key : ∀ i, i < len → ∃ q : Int, W.cell? ⟨g, off + i, none⟩ = some (.int .i64 q) ∧ -9223372036854775808 ≤ q ∧ q ≤ 9223372036854775807 := by
      intro i hlt
      obtain ⟨cs', hc', ht'⟩ := hi i (by omega)
      rw [hO] at hc'
      obtain ⟨_, hcl, hat⟩ := World.cells?_some hc'
      match cs', hcl with
      | [c0], _ =>
        obtain ⟨q, e, _, w2⟩ := DataW.trod_int Try.underlying3 ht'
        simp only [List.cons.injEq, and_true] at e
        subst e
        have hb := bounds_i64 w2
        have := hat 0 (by simp)
        rw [Go.WideShapes.add_plain, Go.WideShapes.add_plain] at this
        refine ⟨q, ?_, hb⟩
        simpa using this
    have hall : ∃ f : Nat → Int, ∀ i, i < len → W.cell? ⟨g, off + i, none⟩ = some (.int .i64 (f i)) ∧ -9223372036854775808 ≤ f i ∧ f i ≤ 9223372036854775807 :=
      ⟨fun i => if h : i < len then (key i h).choose else 0, fun i h => by simp only [dif_pos h]; exact (key i h).choose_spec⟩
    obtain ⟨f, hf⟩ := hall
    have hlen : ((List.range len).map f).length = len := by simp
    have hget : ∀ i x, ((List.range len).map f)[i]? = some x → i < len ∧ x = f i := fun i x hx => by
      have hlt := (List.getElem?_eq_some_iff.1 hx).1
      rw [hlen] at hlt
      rw [List.getElem?_map, List.getElem?_range hlt] at hx
      exact ⟨hlt, (Option.some.inj hx).symm⟩
    refine ⟨(List.range len).map f, ⟨hlen, ?_, ?_, fun x hx => ?_⟩⟩
    · have := RowAt.some (enc := intE) (k := 1) (w := W) g off cap ((List.range len).map f) fun i x j u hx hu => by
        obtain ⟨hlt, rfl⟩ := hget i x hx
        match j, hu with
        | 0, hu => cases hu; simpa using (hf i hlt).1
        | j + 1, hu => cases hu
      rwa [hlen] at this
    · have : maxLen = 9223372036854775807 := by decide
      omega
    · obtain ⟨i, hi⟩ := List.getElem?_of_mem hx
      obtain ⟨hlt, rfl⟩ := hget i x hi
      exact (hf i hlt).2
end Go.Proofs.Ytcjaokmodicikaa
