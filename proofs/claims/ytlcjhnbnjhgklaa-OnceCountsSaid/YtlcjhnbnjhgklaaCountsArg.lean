/- OnceCounts: the acts that come in, as they lie in memory. Conditions: none but those of the statement itself. -/
import Derived.Test.YtlcjhnbnjhgklaaCounts
import Derived.Test.YtlcjhnbnjhgklaaOpen
namespace Go.Proofs.Ytlcjhnbnjhgklaa.onceCounts
open Go.RowKit Go.MuLone Go.ChangeShapes Go.WideShapes Go.Deep

def IsOps (w : World) (a : Option Addr) (len _cap : Nat) (l : List (Int × Int)) : Prop := l.length = len ∧ ArgAt w a l

theorem walk (a : Option Addr) (len cap : Nat) (l : List (Int × Int)) (w : World) (h : IsOps w a len cap l) :
    Calls Try.prog 7 #[.slice a len cap] w fun e w' => e = .returned (.bool true) ∧ Below w.heap.size w w' := by
  by_cases hn : len ≤ 100
  · exact walk_in a len cap l h.1 hn w h.2
  · exact walk_out a len cap hn w

theorem ops_of {H : Type} {enc : TypeId × Value → H} {W : World} {a : Option Addr} {len cap : Nat} {d : DataW H} {p : List MemPlace} (h : DataW.Trod enc Try.prog W 0 (fun _ => true) true 59 (.slice a len cap) d p) : ∃ l, IsOps W a len cap l := by
  obtain ⟨fuel, hf⟩ := h
  rcases open_slice_fields Try.underlying59 Try.underlying66 (by kernel_rfl) (by kernel_rfl) hf with ⟨hcs, _⟩ | ⟨x, l, c, m, D, Pl, hcs, _, hl, hc, hm, _, hi⟩
  · simp [Value.cells] at hcs
    obtain ⟨rfl, rfl, rfl⟩ := hcs
    exact ⟨[], rfl, fun i h => by simp at h⟩
  · simp [Value.cells] at hcs
    obtain ⟨rfl, rfl, rfl⟩ := hcs
    rw [if_pos rfl] at hm
    have key : ∀ i, i < len → ∃ q : Int × Int, W.cell? (x.add (i * 2)) = some (.int .i64 q.1) ∧ W.cell? (x.add (i * 2 + 1)) = some (.int .i64 q.2) ∧ W64 q.2 := by
      intro i hlt
      obtain ⟨ys, n, _, _, _, hf⟩ := hi i (by omega)
      obtain ⟨v0, y0, c0, _, t0⟩ := hf 0 _ rfl
      obtain ⟨v1, y1, c1, _, t1⟩ := hf 1 _ rfl
      obtain ⟨q0, e0, _, _⟩ := DataW.trod_int Try.underlying3 t0
      obtain ⟨q1, e1, _, w1⟩ := DataW.trod_int Try.underlying3 t1
      simp at e0 e1
      subst e0 e1
      exact ⟨(q0, q1), c0, c1, bounds_i64 w1⟩
    have hall : ∃ f : Nat → Int × Int, ∀ i, i < len → W.cell? (x.add (i * 2)) = some (.int .i64 (f i).1) ∧ W.cell? (x.add (i * 2 + 1)) = some (.int .i64 (f i).2) ∧ W64 (f i).2 :=
      ⟨fun i => if h : i < len then (key i h).choose else (0, 0), fun i h => by simp only [dif_pos h]; exact (key i h).choose_spec⟩
    obtain ⟨f, hf⟩ := hall
    refine ⟨(List.range len).map f, by simp, fun i hlt => ?_⟩
    have hlt' : i < len := by simpa using hlt
    obtain ⟨c0, c1, cw⟩ := hf i hlt'
    have hz : ∃ u, W.cell? (x.add 0) = some u := ⟨_, by simpa using (hf 0 (by omega)).1⟩
    have hg : ((List.range len).map f).getD i (0, 0) = f i := by simp [List.getD, hlt']
    rw [hg]
    obtain ⟨e, p0⟩ := plain_at hz c0
    exact ⟨x.block, x.off, by rw [← e], p0, (plain_at hz c1).2, cw⟩
end Go.Proofs.Ytlcjhnbnjhgklaa.onceCounts
