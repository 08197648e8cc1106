/- OnceMakes: a cell is made by the first function that it is handed. Conditions: none but those of the statement itself. -/
import Derived.Test.YtlcjhnbnjhgklaaCellS
import Derived.Deep.LoopGhost
import Derived.OpenShut
import Derived.ProofKit
namespace Go.Proofs.Ytlcjhnbnjhgklaa.onceMakes
open Go.RowKit Go.MuLone

def Num (w : World) (b : Nat) (x : Int) : Prop := w.cell? ⟨b, 0, none⟩ = some (.int .i64 x) ∧ w.frozen? ⟨b, 0, none⟩ = false
theorem Num.only {w w' : World} {b : Nat} {x : Int} {S : Nat → Prop} (h : Num w b x) (ho : Only S w w') (hb : ¬ S b) : Num w' b x :=
  ⟨(ho.cell (lt_of_cell h.1) hb).trans h.1, (ho.frozen (lt_of_cell h.1) hb).trans h.2⟩
theorem Num.set {w : World} {b : Nat} {x : Int} (h : Num w b x) (y : Int) : Num (w.setCell ⟨b, 0, none⟩ (.int .i64 y)) b y := ⟨same_cell h.1 _, by simpa using h.2⟩

theorem enters12 (cap : Array Value) (w : World) : (callFunc 12 cap).run Try.prog w = .ok (.enter 12 cap) w := run_callFunc_enter Try.func12 (by kernel_rfl) rfl cap w

theorem fn12 (C L X b off n cap i : Nat) (s : ByteArray) (w : World) (hC : Num w C 0) (hL : w.cell? ⟨L, 0, none⟩ = some (.slice (some ⟨b, off, none⟩) n cap)) (hX : w.cell? ⟨X, 0, none⟩ = some (.int .i64 i)) (hs : w.cell? ⟨b, off + i, none⟩ = some (.string s)) (hi : i < n)
    (n1 : L ≠ C) (n2 : X ≠ C) (n3 : b ≠ C) :
    Calls Try.prog 12 #[.pointer (some ⟨C, 0, none⟩), .pointer (some ⟨L, 0, none⟩), .pointer (some ⟨X, 0, none⟩)] w fun e w' => e = .returned (.string s) ∧ Only (fun k => k = C) w w' ∧ Num w' C 1 := by
  have o1 : Only (fun k => k = C) w (w.setCell ⟨C, 0, none⟩ (.int .i64 1)) := (Only.refl (fun k => k = C) w).put C 0 rfl _
  have gL := (o1.cell (p := ⟨L, 0, none⟩) (lt_of_cell hL) n1).trans hL
  have gX := (o1.cell (p := ⟨X, 0, none⟩) (lt_of_cell hX) n2).trans hX
  have gs := (o1.cell (p := ⟨b, off + i, none⟩) (lt_of_cell hs) n3).trans hs
  have hN := hC.set 1
  obtain ⟨c1, c2⟩ := hC
  have w4 : (i : Int) < (n : Int) := by omega
  clear hL hX hs
  go_enter Try.func12, Try.ntmps12
  go_wp2
  go_ret
  exact ⟨rfl, o1, hN⟩

theorem newCellS (w : World) : CellIs (w.alloc (.cells #[.int .u32 0, .int .i32 0, .int .u32 0, .int .u32 0, .string ⟨#[]⟩] 38)) w.heap.size 0 0 (.string ⟨#[]⟩) := by
  refine ⟨?_, ?_, ?_, ?_, ?_, ?_, ?_, ?_⟩ <;> simp

/-- The cell and the count of calls, once it is settled what the cell tells. -/
def St (wr : World) (K C : Nat) (v : ByteArray) (c : Int) : Prop := CellIs wr K 0 1 (.string v) ∧ Num wr C c
theorem St.cell {w : World} {K C : Nat} {v : ByteArray} {c : Int} (h : St w K C v c) : CellIs w K 0 1 (.string v) := And.left h
theorem St.num {w : World} {K C : Nat} {v : ByteArray} {c : Int} (h : St w K C v c) : Num w C c := And.right h
theorem St.only {w w' : World} {K C : Nat} {v : ByteArray} {c : Int} {S : Nat → Prop} (h : St w K C v c) (ho : Only S w w') (hK : ¬ S K) (hC : ¬ S C) : St w' K C v c := ⟨h.1.only ho hK, h.2.only ho hC⟩

/-- 'Get' in a round: of a cell that is made, or of one that is not, in the first round. -/
def Fst (wr : World) (K C : Nat) (k : Nat) (v : ByteArray) (c : Int) : Prop := (St wr K C v c) ∨ (k = 0 ∧ c = 1 ∧ CellIs wr K 0 0 (.string ⟨#[]⟩) ∧ Num wr C 0)

theorem get_round (K C L X b off n cap k : Nat) (v s : ByteArray) (c : Int) (wr : World) (h : Fst wr K C k v c) (hv : k = 0 → c = 1 → s = v) (hL : wr.cell? ⟨L, 0, none⟩ = some (.slice (some ⟨b, off, none⟩) n cap)) (hX : wr.cell? ⟨X, 0, none⟩ = some (.int .i64 k)) (hs : wr.cell? ⟨b, off + k, none⟩ = some (.string s)) (hk : k < n)
    (n0 : K ≠ C) (n1 : L ≠ C) (n2 : X ≠ C) (n3 : b ≠ C) (m1 : L ≠ K) (m2 : X ≠ K) (m3 : b ≠ K) :
    Calls Try.prog 11 #[.pointer (some ⟨K, 0, none⟩), .func (.func 12) #[] #[.pointer (some ⟨C, 0, none⟩), .pointer (some ⟨L, 0, none⟩), .pointer (some ⟨X, 0, none⟩)]] wr fun e w' => e = .returned (.string v) ∧ St w' K C v c ∧ Only (fun k => k = K ∨ k = C) wr w' := by
  rcases h with ⟨h1, h2⟩ | ⟨rfl, rfl, h1, h2⟩
  · refine (s_done K 0 _ _ _ _ wr h1).mono ?_
    rintro e w' ⟨rfl, o⟩
    exact ⟨rfl, ⟨h1.only o id, h2.only o id⟩, o.mono fun _ _ h => h.elim⟩
  · obtain rfl := hv rfl rfl
    refine (s_get_facts K 0 12 _ s _ wr (fun k => k = C) (fun w2 => Num w2 C 1) (enters12 _) h1 n0 (fun k q => by subst q; exact lt_of_cell h2.1) (fun w1 o _ => ?_) (fun w2 w' f o => f.only o n0.symm)).mono ?_
    · exact fn12 C L X b off n cap 0 s w1 (h2.only o n0.symm) ((o.cell (lt_of_cell hL) m1).trans hL) ((o.cell (lt_of_cell hX) m2).trans hX) ((o.cell (lt_of_cell hs) m3).trans hs) hk n1 n2 n3
    · rintro e w' ⟨rfl, q1, q2, q3⟩
      exact ⟨rfl, ⟨q1, q2⟩, q3⟩

def ArgAt (w : World) (a : Option Addr) (l : List ByteArray) : Prop := ∀ i, i < l.length → ∃ b off, a = some ⟨b, off, none⟩ ∧ w.cell? ⟨b, off + i, none⟩ = some (.string (l.getD i ByteArray.empty))

/-- The loop's relation: X: the round's variable. -/
def Rel (w : World) (a : Option Addr) (n cap L K C : Nat) (v : ByteArray) (c : Int) (x : Value) (k : Nat) (wr : World) : Prop :=
  ∃ X, x = .pointer (some ⟨X, 0, none⟩) ∧ k ≤ n ∧ C < X ∧ Num wr X k ∧ wr.cell? ⟨L, 0, none⟩ = some (.slice a n cap) ∧ Below w.heap.size w wr ∧ Fst wr K C k v c

end Go.Proofs.Ytlcjhnbnjhgklaa.onceMakes
