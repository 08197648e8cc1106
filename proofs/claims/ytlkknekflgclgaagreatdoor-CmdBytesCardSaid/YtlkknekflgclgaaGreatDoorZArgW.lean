/- A row of replies that came in, as it lies in memory. Conditions: none but those of the statements themselves. -/
import Derived.Test.YtlkknekflgclgaaGreatDoorZArgQ
import Derived.Test.YtlkknekflgclgaaGreatDoorZCyRep
import Derived.Test.YtlkknekflgclgaaGreatDoorZCyL
namespace Go.Proofs.YtlkknekflgclgaaGreatDoor
open Go.RowKit Go.ChangeShapes Go.WideShapes Go.Deep

/-- A row of replies that came in. -/
def IsReps (w : World) (v : Value) : Prop := ∃ (a : Option Addr) (cap : Nat) (l : List Rp), v = .slice a l.length cap ∧ RowAt rpC 2 w (.slice a l.length cap) l ∧ l.length ≤ cap ∧ l.length ≤ 9223372036854775807 ∧ ∀ x ∈ l, ErrOk x.err
set_option maxRecDepth 100000 in
theorem reps_of {H : Type} {enc : TypeId × Value → H} {W : World} {r : Reach} {base : Nat} {v : Value} {fuel : Nat} {x : DataW H × List MemPlace} (hval : Cell.okWide Tryz.prog W r base 65 v)
    (hf : DataW.trod enc Tryz.prog W 0 (fun _ => true) true fuel 65 [v] = some x) : IsReps W v := by
  rcases open_slice_fields Tryz.underlying65 Tryz.underlying68 (by kernel_rfl) (by kernel_rfl) hf with ⟨hcs, _⟩ | ⟨a, len, cap, m, D, Pl, hcs, _, hl, hc, hm, _, hi⟩
  · simp only [List.cons.injEq, and_true] at hcs
    subst hcs
    exact ⟨none, 0, [], rfl, .none, Nat.le_refl _, by simp, fun x hx => by cases hx⟩
  · simp only [List.cons.injEq, and_true] at hcs
    subst hcs
    rw [if_pos rfl] at hm
    obtain ⟨hsp, hlt⟩ := okWide_place Tryz.underlying65 hval
    obtain ⟨g, off, sp⟩ := a
    simp only at hsp hlt
    subst hsp
    have key : ∀ i, i < len → ∃ q : Rp, W.cell? ⟨g, off + i * 2, none⟩ = some (.int .i64 q.err) ∧ W.cell? ⟨g, off + (i * 2 + 1), none⟩ = some (str q.val) ∧ ErrOk q.err := by
      intro i hlt
      obtain ⟨ys, n, _, _, _, hf⟩ := hi i (by omega)
      obtain ⟨v0, y0, c0, _, t0⟩ := hf 0 _ rfl
      obtain ⟨v1, y1, c1, _, t1⟩ := hf 1 _ rfl
      obtain ⟨q0, e0, _, wf⟩ := DataW.trod_int Tryz.underlying38 t0
      obtain ⟨s1, e1, _, _⟩ := DataW.trod_string Tryz.underlying9 t1
      simp only [List.cons.injEq, and_true] at e0 e1
      subst e0 e1
      rw [Go.WideShapes.add_plain] at c0 c1
      refine ⟨⟨q0, s1.data.toList⟩, ?_, ?_, ?_⟩
      · rw [Nat.add_zero] at c0
        exact c0
      · exact c1.trans (by simp [str])
      · have h2 : IntKind.i64.min ≤ q0 ∧ q0 ≤ 9223372036854775807 := by simpa [Lit.wf] using wf
        exact h2.2
    have hall : ∃ f : Nat → Rp, ∀ i, i < len → W.cell? ⟨g, off + i * 2, none⟩ = some (.int .i64 (f i).err) ∧ W.cell? ⟨g, off + (i * 2 + 1), none⟩ = some (str (f i).val) ∧ ErrOk (f i).err :=
      ⟨fun i => if h : i < len then (key i h).choose else ⟨0, []⟩, fun i h => by simp only [dif_pos h]; exact (key i h).choose_spec⟩
    obtain ⟨f, hf⟩ := hall
    have hlen : ((List.range len).map f).length = len := by simp
    have hget : ∀ i x, ((List.range len).map f)[i]? = some x → i < len ∧ x = f i := fun i x hx => by
      have hlt := (List.getElem?_eq_some_iff.1 hx).1
      rw [hlen] at hlt
      rw [List.getElem?_map, List.getElem?_range hlt] at hx
      exact ⟨hlt, (Option.some.inj hx).symm⟩
    have hr := RowAt.some (enc := rpC) (k := 2) (w := W) g off cap ((List.range len).map f) fun i x j u hx hu => by
      obtain ⟨hlt, rfl⟩ := hget i x hx
      obtain ⟨c0, c1, _⟩ := hf i hlt
      match j, hu with
      | 0, hu => cases hu; exact c0
      | 1, hu => cases hu; exact c1
      | j + 2, hu => cases hu
    have : maxLen = 9223372036854775807 := by decide
    refine ⟨some ⟨g, off, none⟩, cap, (List.range len).map f, by rw [hlen], hr, by rw [hlen]; exact hl, by rw [hlen]; omega, fun x hx => ?_⟩
    obtain ⟨i, hi⟩ := List.getElem?_of_mem hx
    obtain ⟨hlt, rfl⟩ := hget i x hi
    exact (hf i hlt).2.2
set_option maxRecDepth 100000 in
theorem reps_of2 {H : Type} {enc : TypeId × Value → H} {W : World} {r : Reach} {base : Nat} {a : Option Addr} {len cap : Nat} {d : DataW H} {p : List MemPlace} (hval : Value.okWide Tryz.prog W r base 65 (.slice a len cap))
    (h : DataW.Trod enc Tryz.prog W 0 (fun _ => true) true 65 (.slice a len cap) d p) : IsReps W (.slice a len cap) := by
  obtain ⟨fuel, hf⟩ := h
  simp only [Value.okWide, Tryz.underlying65] at hval
  exact reps_of hval hf
end Go.Proofs.YtlkknekflgclgaaGreatDoor

namespace Go.Proofs.YtlkknekflgclgaaGreatDoor.cmdBytes
open Go.RowKit

theorem walk (z : Int × Int × Value) (ix tm : Int) (v : Value) (b : ByteArray) (w : World) (nt : Nat) (hT : Tab nt w) (hnt : nt ≤ w.heap.size) (hz : IsReq w z) (_ : (Lit.int .i64 ix).wf = true) (_ : (Lit.int .i64 tm).wf = true) (hv : IsReps w v) (_ : b.size ≤ maxLen) :
    Calls Tryz.prog 5 #[reqV z, .int .i64 ix, .int .i64 tm, v, .string b] w fun e w' => e = .returned (.bool true) ∧ Below w.heap.size w w' := by
  obtain ⟨l, hl, hn⟩ := hz
  obtain ⟨a, cap, rs, rfl, h1, h2, h3, h4⟩ := hv
  have main := bytes_is w nt hT hnt z.1 z.2.1 l z.2.2 hl hn ix tm a cap rs h1 h2 h3 h4 b.data.toList
  have e1 : str b.data.toList = .string b := by simp [str]
  rw [e1] at main
  exact main.mono fun e w' hq => ⟨hq.1, hq.2.below (Nat.le_refl _) fun _ _ q => q⟩
end Go.Proofs.YtlkknekflgclgaaGreatDoor.cmdBytes
