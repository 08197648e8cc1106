/- The arguments of the laws on trees, as they lie in memory: rows of acts. Conditions: none but those of the statements themselves. -/
import Derived.Test.YtklccpaphkpgfaaGreatZLight12
import Derived.Test.YtklccpaphkpgfaaGreatZArgs
namespace Go.Proofs.YtklccpaphkpgfaaGreat
open Go.RowKit Go.ChangeShapes Go.WideShapes Go.Deep

/-- A row of acts that came in. -/
structure IsDos (w : World) (a : Option Addr) (len cap : Nat) (l : List Do) : Prop where
  many : l.length = len
  row : RowAt doC 4 w (.slice a len cap) l
  lt : ∀ j, rowBlock (.slice a len cap) = some j → j < w.heap.size
  few : len ≤ 9223372036854775807
  short : ∀ x ∈ l, x.item.key.length ≤ 9223372036854775807 ∧ x.item.val.length ≤ 9223372036854775807

set_option maxRecDepth 100000 in
theorem do_of {H : Type} {enc : TypeId × Value → H} {W : World} {n : Nat} {cs : List Value} {x : DataW H × List MemPlace} {sp : Nat → Bool} {hd : Bool} (h : DataW.trod enc Tryz.prog W 0 sp hd n 53 cs = some x) :
    ∃ q : Do, cs = doC q ∧ q.item.key.length ≤ 9223372036854775807 ∧ q.item.val.length ≤ 9223372036854775807 := by
  have hI : Tryz.prog.cellsOf 3 = 1 := by kernel_rfl
  have hS : Tryz.prog.cellsOf 9 = 1 := by kernel_rfl
  have hA : Tryz.prog.cellsOf 29 = 3 := by kernel_rfl
  have hO : Tryz.prog.cellsOf 53 = 4 := by kernel_rfl
  obtain ⟨ys, n', _, _, hcl, hyl, hf⟩ := DataW.trod_struct Tryz.underlying53 h
  rw [hO] at hcl
  match cs, hcl with
  | [c0, c1, c2, c3], _ =>
    have t0 := hf 0 _ rfl
    have t1 := hf 1 _ rfl
    change DataW.trod enc Tryz.prog W 0 sp hd n' 3 (([c0, c1, c2, c3].drop 0).take (Tryz.prog.cellsOf 3)) = ys[0]? at t0
    change DataW.trod enc Tryz.prog W 0 sp hd n' 29 (([c0, c1, c2, c3].drop 1).take (Tryz.prog.cellsOf 29)) = ys[1]? at t1
    simp only [hI, hA, List.drop_zero, List.take_succ_cons, List.take_zero, List.drop_succ_cons] at t0 t1
    match ys, hyl with
    | [y0, y1], _ =>
      simp only [List.getElem?_cons_zero, List.getElem?_cons_succ] at t0 t1
      obtain ⟨q0, e0, _, w0⟩ := DataW.trod_int Tryz.underlying3 t0
      obtain ⟨zs, n2, _, _, _, hzl, hg⟩ := DataW.trod_struct Tryz.underlying29 t1
      have s0 := hg 0 _ rfl
      have s1 := hg 1 _ rfl
      have s2 := hg 2 _ rfl
      change DataW.trod enc Tryz.prog W 0 sp hd n2 9 (([c1, c2, c3].drop 0).take (Tryz.prog.cellsOf 9)) = zs[0]? at s0
      change DataW.trod enc Tryz.prog W 0 sp hd n2 9 (([c1, c2, c3].drop 1).take (Tryz.prog.cellsOf 9)) = zs[1]? at s1
      change DataW.trod enc Tryz.prog W 0 sp hd n2 3 (([c1, c2, c3].drop 2).take (Tryz.prog.cellsOf 3)) = zs[2]? at s2
      simp only [hI, hS, List.drop_zero, List.take_succ_cons, List.take_zero, List.drop_succ_cons] at s0 s1 s2
      match zs, hzl with
      | [z0, z1, z2], _ =>
        simp only [List.getElem?_cons_zero, List.getElem?_cons_succ] at s0 s1 s2
        obtain ⟨k1, e1, _, u1⟩ := DataW.trod_string Tryz.underlying9 s0
        obtain ⟨k2, e2, _, u2⟩ := DataW.trod_string Tryz.underlying9 s1
        obtain ⟨k3, e3, _, u3⟩ := DataW.trod_int Tryz.underlying3 s2
        simp only [List.cons.injEq, and_true] at e0 e1 e2 e3
        subst e0 e1 e2 e3
        exact ⟨⟨q0, ⟨k1.data.toList, k2.data.toList, k3⟩⟩, by simp [doC, itemC, str], u1, u2⟩

set_option maxRecDepth 100000 in
theorem dos_of {H : Type} {enc : TypeId × Value → H} {W : World} {r : Reach} {base : Nat} {a : Option Addr} {len cap : Nat} {d : DataW H} {p : List MemPlace} (hval : Value.okWide Tryz.prog W r base 48 (.slice a len cap))
    (h : DataW.Trod enc Tryz.prog W 0 (fun _ => true) true 48 (.slice a len cap) d p) : ∃ l, IsDos W a len cap l := by
  obtain ⟨fuel, hf⟩ := h
  have hO : Tryz.prog.cellsOf 53 = 4 := by kernel_rfl
  rcases open_slice Tryz.underlying48 hf with ⟨hcs, _⟩ | ⟨x, l, c, m, n, D, Pl, hcs, _, hl, hc, hm, _, hi⟩
  · simp [Value.cells] at hcs
    obtain ⟨rfl, rfl, rfl⟩ := hcs
    exact ⟨[], ⟨rfl, .none, (fun j hj => by cases hj), by omega, fun x hx => by cases hx⟩⟩
  · simp [Value.cells] at hcs
    obtain ⟨rfl, rfl, rfl⟩ := hcs
    rw [if_pos rfl] at hm
    obtain ⟨hsp, hlt⟩ := okWide_place Tryz.underlying48 hval
    obtain ⟨g, off, sp⟩ := x
    simp only at hsp hlt
    subst hsp
    have key : ∀ i, i < len → ∃ q : Do, (∀ (j : Nat) (u : Value), (doC q)[j]? = some u → W.cell? ⟨g, off + (i * 4 + j), none⟩ = some u) ∧ q.item.key.length ≤ 9223372036854775807 ∧ q.item.val.length ≤ 9223372036854775807 := by
      intro i hlt
      obtain ⟨cs', hc', ht'⟩ := hi i (by omega)
      rw [hO] at hc'
      obtain ⟨_, hcl, hat⟩ := World.cells?_some hc'
      obtain ⟨q, hq, h1, h2⟩ := do_of ht'
      refine ⟨q, fun j u hu => ?_, h1, h2⟩
      rw [← hq] at hu
      obtain ⟨hj, rfl⟩ := List.getElem?_eq_some_iff.1 hu
      have := hat j (by omega)
      rw [Go.WideShapes.add_plain, Go.WideShapes.add_plain] at this
      rw [← Nat.add_assoc]
      exact this.trans (List.getElem?_eq_getElem _)
    have hall : ∃ f : Nat → Do, ∀ i, i < len → (∀ (j : Nat) (u : Value), (doC (f i))[j]? = some u → W.cell? ⟨g, off + (i * 4 + j), none⟩ = some u) ∧ (f i).item.key.length ≤ 9223372036854775807 ∧ (f i).item.val.length ≤ 9223372036854775807 :=
      ⟨fun i => if h : i < len then (key i h).choose else ⟨0, ⟨[], [], 0⟩⟩, fun i h => by simp only [dif_pos h]; exact (key i h).choose_spec⟩
    obtain ⟨f, hf⟩ := hall
    have hlen : ((List.range len).map f).length = len := by simp
    have hget : ∀ i x, ((List.range len).map f)[i]? = some x → i < len ∧ x = f i := fun i x hx => by
      have hlt := (List.getElem?_eq_some_iff.1 hx).1
      rw [hlen] at hlt
      rw [List.getElem?_map, List.getElem?_range hlt] at hx
      exact ⟨hlt, (Option.some.inj hx).symm⟩
    refine ⟨(List.range len).map f, ⟨hlen, ?_, (fun j hj => by cases hj; exact hlt), ?_, fun x hx => ?_⟩⟩
    · have := RowAt.some (enc := doC) (k := 4) (w := W) g off cap ((List.range len).map f) fun i x j u hx hu => by
        obtain ⟨hlt, rfl⟩ := hget i x hx
        exact (hf i hlt).1 j u hu
      rwa [hlen] at this
    · have : maxLen = 9223372036854775807 := by decide
      omega
    · obtain ⟨i, hi⟩ := List.getElem?_of_mem hx
      obtain ⟨hlt, rfl⟩ := hget i x hi
      exact (hf i hlt).2
end Go.Proofs.YtklccpaphkpgfaaGreat
