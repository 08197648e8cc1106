/- A request that came in, as it lies in memory. Conditions: none but those of the statements themselves. -/
import Derived.Test.YtlkknekflgclgaaGreatDoorZOpen
import Derived.Test.YtlkknekflgclgaaGreatDoorZCqP
import Derived.Test.YtlkknekflgclgaaGreatDoorZRowG
import Derived.OpenShut
import Derived.ProofKit
import Derived.Deep.Strs
namespace Go.Proofs.YtlkknekflgclgaaGreatDoor
open Go.RowKit Go.ChangeShapes Go.WideShapes Go.Deep

theorem okWide_place {P : Program} {w : World} {r : Reach} {base : Nat} {t e : TypeId} {a : Addr} {len cap : Nat} (ht : P.underlying t = some (.slice e)) (h : Cell.okWide P w r base t (.slice (some a) len cap)) : a.spot = none ∧ a.block < w.heap.size := by
  simp only [ht, Cell.okWide, Cell.ok] at h
  obtain ⟨_, _, _, hs, row, cells, hsh, _⟩ := h
  refine ⟨hs, ?_⟩
  apply Classical.byContradiction
  intro q
  unfold World.shape? at hsh
  rw [Array.getElem?_eq_none (by omega)] at hsh
  cases hsh

/-- A row of commands that came in. -/
def IsCmds (w : World) (v : Value) (l : List Cq) : Prop := RowAt cmdC 5 w v l ∧ l.length ≤ 9223372036854775807
set_option maxRecDepth 100000 in
theorem cmds_of {H : Type} {enc : TypeId × Value → H} {W : World} {r : Reach} {base : Nat} {v : Value} {fuel : Nat} {x : DataW H × List MemPlace} (hval : Cell.okWide Tryz.prog W r base 50 v)
    (hf : DataW.trod enc Tryz.prog W 0 (fun _ => true) true fuel 50 [v] = some x) : ∃ l, IsCmds W v l := by
  rcases open_slice_fields Tryz.underlying50 Tryz.underlying119 (by kernel_rfl) (by kernel_rfl) hf with ⟨hcs, _⟩ | ⟨a, len, cap, m, D, Pl, hcs, _, hl, hc, hm, _, hi⟩
  · simp only [List.cons.injEq, and_true] at hcs
    subst hcs
    exact ⟨[], .none, by simp⟩
  · simp only [List.cons.injEq, and_true] at hcs
    subst hcs
    rw [if_pos rfl] at hm
    obtain ⟨hsp, hlt⟩ := okWide_place Tryz.underlying50 hval
    obtain ⟨g, off, sp⟩ := a
    simp only at hsp hlt
    subst hsp
    have key : ∀ i, i < len → ∃ q : Cq, W.cell? ⟨g, off + i * 5, none⟩ = some (.int .i64 q.kind) ∧ W.cell? ⟨g, off + (i * 5 + 1), none⟩ = some (str q.path) ∧ W.cell? ⟨g, off + (i * 5 + 2), none⟩ = some (str q.key) ∧
        W.cell? ⟨g, off + (i * 5 + 3), none⟩ = some (str q.val) ∧ W.cell? ⟨g, off + (i * 5 + 4), none⟩ = some (str q.old) := by
      intro i hlt
      obtain ⟨ys, n, _, _, _, hf⟩ := hi i (by omega)
      obtain ⟨v0, y0, c0, _, t0⟩ := hf 0 _ rfl
      obtain ⟨v1, y1, c1, _, t1⟩ := hf 1 _ rfl
      obtain ⟨v2, y2, c2, _, t2⟩ := hf 2 _ rfl
      obtain ⟨v3, y3, c3, _, t3⟩ := hf 3 _ rfl
      obtain ⟨v4, y4, c4, _, t4⟩ := hf 4 _ rfl
      obtain ⟨q0, e0, _, _⟩ := DataW.trod_int Tryz.underlying3 t0
      obtain ⟨s1, e1, _, _⟩ := DataW.trod_string Tryz.underlying9 t1
      obtain ⟨s2, e2, _, _⟩ := DataW.trod_string Tryz.underlying9 t2
      obtain ⟨s3, e3, _, _⟩ := DataW.trod_string Tryz.underlying9 t3
      obtain ⟨s4, e4, _, _⟩ := DataW.trod_string Tryz.underlying9 t4
      simp only [List.cons.injEq, and_true] at e0 e1 e2 e3 e4
      subst e0 e1 e2 e3 e4
      rw [Go.WideShapes.add_plain] at c0 c1 c2 c3 c4
      refine ⟨⟨q0, s1.data.toList, s2.data.toList, s3.data.toList, s4.data.toList⟩, ?_, ?_, ?_, ?_, ?_⟩
      · rw [Nat.add_zero] at c0
        exact c0
      · exact c1.trans (by simp [str])
      · exact c2.trans (by simp [str])
      · exact c3.trans (by simp [str])
      · exact c4.trans (by simp [str])
    have hall : ∃ f : Nat → Cq, ∀ i, i < len → W.cell? ⟨g, off + i * 5, none⟩ = some (.int .i64 (f i).kind) ∧ W.cell? ⟨g, off + (i * 5 + 1), none⟩ = some (str (f i).path) ∧ W.cell? ⟨g, off + (i * 5 + 2), none⟩ = some (str (f i).key) ∧
        W.cell? ⟨g, off + (i * 5 + 3), none⟩ = some (str (f i).val) ∧ W.cell? ⟨g, off + (i * 5 + 4), none⟩ = some (str (f i).old) :=
      ⟨fun i => if h : i < len then (key i h).choose else ⟨0, [], [], [], []⟩, fun i h => by simp only [dif_pos h]; exact (key i h).choose_spec⟩
    obtain ⟨f, hf⟩ := hall
    have hlen : ((List.range len).map f).length = len := by simp
    have hget : ∀ i x, ((List.range len).map f)[i]? = some x → i < len ∧ x = f i := fun i x hx => by
      have hlt := (List.getElem?_eq_some_iff.1 hx).1
      rw [hlen] at hlt
      rw [List.getElem?_map, List.getElem?_range hlt] at hx
      exact ⟨hlt, (Option.some.inj hx).symm⟩
    refine ⟨(List.range len).map f, ?_, ?_⟩
    · have := RowAt.some (enc := cmdC) (k := 5) (w := W) g off cap ((List.range len).map f) fun i x j u hx hu => by
        obtain ⟨hlt, rfl⟩ := hget i x hx
        obtain ⟨c0, c1, c2, c3, c4⟩ := hf i hlt
        match j, hu with
        | 0, hu => cases hu; exact c0
        | 1, hu => cases hu; exact c1
        | 2, hu => cases hu; exact c2
        | 3, hu => cases hu; exact c3
        | 4, hu => cases hu; exact c4
        | j + 5, hu => cases hu
      rwa [hlen] at this
    · have : maxLen = 9223372036854775807 := by decide
      omega
/-- A request that came in. -/
def IsReq (w : World) (z : Int × Int × Value) : Prop := ∃ l, IsCmds w z.2.2 l
def reqV (z : Int × Int × Value) : Value := .agg #[.int .i64 z.1, .int .i64 z.2.1, z.2.2]
set_option maxRecDepth 100000 in
theorem req_of {H : Type} {enc : TypeId × Value → H} {W : World} {r : Reach} {base : Nat} {v : Value} {d : DataW H} {p : List MemPlace} (hval : Value.okWide Tryz.prog W r base 52 v)
    (h : DataW.Trod enc Tryz.prog W 0 (fun _ => true) true 52 v d p) : ∃ z, v = reqV z ∧ IsReq W z := by
  obtain ⟨fuel, hf⟩ := h
  simp only [Value.okWide, Tryz.underlying52] at hval
  obtain ⟨cs, rfl, hs, ts, hts, _, hc⟩ := hval
  have hs3 : Tryz.prog.cellsOf 52 = 3 := by kernel_rfl
  have ht3 : Tryz.prog.cellTypes Tryz.prog.depth 52 = some [3, 3, 50] := by kernel_rfl
  rw [ht3] at hts
  obtain rfl := Option.some.inj hts
  rw [hs3] at hs
  obtain ⟨x0, x1, x2, rfl⟩ : ∃ x0 x1 x2, cs = #[x0, x1, x2] := by
    obtain ⟨l⟩ := cs
    match l, hs with
    | [a, b, c], _ => exact ⟨a, b, c, rfl⟩
  obtain ⟨u2, hu2, hok⟩ := hc 2 x2 rfl
  cases hu2
  obtain ⟨y0, y1, y2, n, _, _, t0, t1, t2⟩ := trod_struct3 Tryz.underlying52 hf
  have n1 : Tryz.prog.cellsOf 3 = 1 := by kernel_rfl
  have n2 : Tryz.prog.cellsOf 50 = 1 := by kernel_rfl
  simp only [Value.cells, n1, n2, List.drop_zero, List.drop_succ_cons, List.take_succ_cons, List.take_zero] at t0 t1 t2
  obtain ⟨q0, e0, _, _⟩ := DataW.trod_int Tryz.underlying3 t0
  obtain ⟨q1, e1, _, _⟩ := DataW.trod_int Tryz.underlying3 t1
  simp only [List.cons.injEq, and_true] at e0 e1
  subst e0 e1
  obtain ⟨l, hl⟩ := cmds_of hok t2
  exact ⟨(q0, q1, x2), rfl, l, hl⟩
end Go.Proofs.YtlkknekflgclgaaGreatDoor
