/- A slice of structs that came in, opened to its cells, for any program. Conditions: each field is one cell. -/
import Derived.Deep.Slices
import Derived.Deep.Fields
import Derived.ChangeSame
import Derived.Test.YtbhiamcmiopnoaaGreatDoorZBase
import Derived.OpenShut
import Derived.ProofKit
import Derived.Deep.Strs
import Derived.Test.YtbhiamcmiopnoaaGreatDoorZTel2
import Derived.Test.YtbhiamcmiopnoaaGreatDoorZPathX
namespace Go.Proofs.YtbhiamcmiopnoaaGreatDoor
open Go.ChangeShapes Go.WideShapes Go.Deep

section
variable {H : Type} {enc : TypeId × Value → H} {P : Program} {w : World} {base : Nat} {spare : Nat → Bool} {held : Bool}
theorem open_slice_fields {t e : TypeId} {fs : Array Field} {fuel : Nat} {cs : List Value} {x : DataW H × List MemPlace} (ht : P.underlying t = some (.slice e)) (he : P.underlying e = some (.struct fs))
    (hone : oneCellFields P fs = true) (hC : P.cellsOf e = fs.size) (h : DataW.trod enc P w base spare held fuel t cs = some x) :
    (cs = [.slice none 0 0] ∧ x = (.nil, [])) ∨
    ∃ (a : Addr) (len cap m : Nat) (D : Nat → DataW H) (Pl : Nat → List MemPlace), cs = [.slice (some a) len cap] ∧ base ≤ a.block ∧ len ≤ cap ∧ cap ≤ maxLen ∧ m = (if spare a.block then cap else len) ∧
      x = (.slice ((List.range len).map D) ((List.range (m - len)).map fun j => D (len + j)), MemPlace.row a (m * fs.size) ++ (List.range m).flatMap Pl) ∧
      ∀ i, i < m → ∃ (ys : List (DataW H × List MemPlace)) (n : Nat), D i = .agg (ys.map (·.1)) ∧ Pl i = ys.flatMap (·.2) ∧ ys.length = fs.size ∧
        ∀ (j : Nat) (f : Field), fs[j]? = some f → ∃ (v : Value) (y : DataW H × List MemPlace), w.cell? (a.add (i * fs.size + j)) = some v ∧ ys[j]? = some y ∧ DataW.trod enc P w base spare held n f.type [v] = some y := by
  rcases open_slice ht h with h0 | ⟨a, len, cap, m, n, D, Pl, hcs, hb, hl, hm, hmm, hx, hi⟩
  · exact .inl h0
  · refine .inr ⟨a, len, cap, m, D, Pl, hcs, hb, hl, hm, hmm, by rw [hC] at hx; exact hx, fun i him => ?_⟩
    obtain ⟨cs', hc, ht'⟩ := hi i him
    rw [hC] at hc
    obtain ⟨ys, n', hn', hy, hlen, hyl, hf⟩ := DataW.trod_struct he ht'
    obtain ⟨_, hcl, hat⟩ := World.cells?_some hc
    simp only [Prod.mk.injEq] at hy
    refine ⟨ys, n', hy.1, hy.2, hyl, fun j f hj => ?_⟩
    obtain ⟨ho, hk⟩ := hone_of hone j f hj
    have hjl : j < fs.size := (Array.getElem?_eq_some_iff.1 hj).1
    have hcell := hat j hjl
    have hv : cs'[j]? = some (cs'[j]'(by omega)) := List.getElem?_eq_getElem (by omega)
    have h1 := hf j f hj
    rw [ho, hk] at h1
    have hone' : (cs'.drop j).take 1 = [cs'[j]'(by omega)] := by
      rw [List.drop_eq_getElem_cons (by omega)]
      rfl
    rw [hone'] at h1
    have hys : ys[j]? = some (ys[j]'(by omega)) := List.getElem?_eq_getElem (by omega)
    refine ⟨_, _, ?_, hys, h1.trans hys⟩
    rw [← Go.Deep.add_add, hcell, hv]
end

/-- A cell of a row that came in stands at a plain address. -/
theorem plain_at {w : World} {x : Addr} {i : Nat} {v : Value} (h0 : ∃ u, w.cell? (x.add 0) = some u) (h : w.cell? (x.add i) = some v) : x = ⟨x.block, x.off, none⟩ ∧ w.cell? ⟨x.block, x.off + i, none⟩ = some v := by
  obtain ⟨b, off, sp⟩ := x
  obtain ⟨u, hu⟩ := h0
  have hs : sp = none := by simpa [Addr.add] using World.cell?_spot hu
  subst hs
  exact ⟨rfl, by rw [← Go.WideShapes.add_plain]; exact h⟩
end Go.Proofs.YtbhiamcmiopnoaaGreatDoor

namespace Go.Proofs.YtbhiamcmiopnoaaGreatDoor
open Go.RowKit Go.ChangeShapes Go.WideShapes Go.Deep

set_option maxRecDepth 100000 in
theorem bkt_of {H : Type} {enc : TypeId × Value → H} {W : World} {r : Reach} {base : Nat} {v : Value} {d : DataW H} {p : List MemPlace} (hval : Value.okWide Tryz.prog W r base 23 v)
    (h : DataW.Trod enc Tryz.prog W 0 (fun _ => true) true 23 v d p) : ∃ z : Int × Int, v = .agg #[.int .i64 z.1, .int .i64 z.2] ∧ z = z := by
  obtain ⟨fuel, hf⟩ := h
  simp only [Value.okWide, Tryz.underlying23] at hval
  obtain ⟨cs, rfl, hs, ts, hts, _, hc⟩ := hval
  have hs3 : Tryz.prog.cellsOf 23 = 2 := by kernel_rfl
  rw [hs3] at hs
  obtain ⟨x0, x1, rfl⟩ : ∃ x0 x1, cs = #[x0, x1] := by
    obtain ⟨l⟩ := cs
    match l, hs with
    | [a, b], _ => exact ⟨a, b, rfl⟩
  obtain ⟨y0, y1, n, _, _, t0, t1⟩ := trod_struct2 Tryz.underlying23 hf
  have n1 : Tryz.prog.cellsOf 3 = 1 := by kernel_rfl
  simp only [Value.cells, n1, List.drop_zero, List.drop_succ_cons, List.take_succ_cons, List.take_zero] at t0 t1
  obtain ⟨q0, e0, _, _⟩ := DataW.trod_int Tryz.underlying3 t0
  obtain ⟨q1, e1, _, _⟩ := DataW.trod_int Tryz.underlying3 t1
  simp only [List.cons.injEq, and_true] at e0 e1
  subst e0 e1
  exact ⟨(q0, q1), rfl, rfl⟩
end Go.Proofs.YtbhiamcmiopnoaaGreatDoor

namespace Go.Proofs.YtbhiamcmiopnoaaGreatDoor.bucketTells
open Go.RowKit

theorem walk (z : Int × Int) (s path : ByteArray) (w : World) (hm : MaxAt w) (_ : z = z) (_ : s.size ≤ maxLen) (_ : path.size ≤ maxLen) :
    Calls Tryz.prog 3 #[.agg #[.int .i64 z.1, .int .i64 z.2], .string s, .string path] w fun e w' => e = .returned (.bool true) ∧ Below w.heap.size w w' := by
  have main := bk.tells_is w hm z.1 z.2 s.data.toList path.data.toList
  have e1 : str s.data.toList = .string s := by simp [str]
  have e2 : str path.data.toList = .string path := by simp [str]
  rw [e1, e2] at main
  exact main.mono fun e w' hq => ⟨hq.1, hq.2.below (Nat.le_refl _) fun _ _ q => q⟩
end Go.Proofs.YtbhiamcmiopnoaaGreatDoor.bucketTells
