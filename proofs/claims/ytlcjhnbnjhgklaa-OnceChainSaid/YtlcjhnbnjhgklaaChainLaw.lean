/- OnceChain: the law itself. Conditions: none but those of the statement itself. -/
import Derived.Test.YtlcjhnbnjhgklaaChain
import Derived.Deep.LoopGhost
import Derived.OpenShut
import Derived.ProofKit
namespace Go.Proofs.Ytlcjhnbnjhgklaa.onceChain
open Go.RowKit Go.MuLone

/-- What a chain of cells comes to. -/
def cv : List Int → Int
  | [] => 5
  | x :: l => bits .xor .i64 (cv l) x
theorem cv_step (l : List Int) (j : Nat) (h : j < l.length) : cv (l.drop j) = bits .xor .i64 (cv (l.drop (j + 1))) (l.getD j 0) := by
  rw [List.drop_eq_getElem_cons h, cv]
  congr 1
  simp [List.getD, h]

def zc : Array Value := #[.int .u32 0, .int .i32 0, .int .u32 0, .int .u32 0, .int .i64 0]
def row (n : Nat) : Array Value := madeCells zc ((n + 1) * 5)
theorem row_get (n j r : Nat) (h : j ≤ n) (hr : r < 5) : (row n)[j * 5 + r]? = some (zc.getD r undef) := by
  have h1 : j * 5 + r < (row n).size := by unfold row; rw [size_madeCells]; omega
  have h2 : zc.size = 5 := rfl
  rw [Array.getElem?_eq_getElem h1]
  simp only [row, madeCells, Array.getElem_map, Array.getElem_range]
  rw [h2, show (j * 5 + r) % 5 = r from by omega]
  match r, hr with
  | 0, _ => rfl
  | 1, _ => rfl
  | 2, _ => rfl
  | 3, _ => rfl
  | 4, _ => rfl

theorem row_cell (w : World) (n j r : Nat) (o : Nat) (h : j ≤ n) (hr : r < 5) (ho : o = j * 5 + r) : (w.alloc (.cells (row n) 44)).cell? ⟨w.heap.size, o, none⟩ = some (zc.getD r undef) := by
  subst ho
  simp only [World.cell?, heap_alloc_new]
  simpa using row_get n j r h hr
theorem row_frozen (w : World) (n o : Nat) : (w.alloc (.cells (row n) 44)).frozen? ⟨w.heap.size, o, none⟩ = false := by
  simp only [World.frozen?, heap_alloc_new]
  simp
theorem row_is (w : World) (n j : Nat) (h : j ≤ n) : CellIs (w.alloc (.cells (row n) 44)) w.heap.size (j * 5) 0 (.int .i64 0) :=
  ⟨row_cell w n j 0 _ h (by omega) rfl, row_cell w n j 1 _ h (by omega) rfl, row_cell w n j 3 _ h (by omega) rfl, row_cell w n j 4 _ h (by omega) rfl, row_frozen _ _ _, row_frozen _ _ _, row_frozen _ _ _, row_frozen _ _ _⟩

theorem cellInfo : (Try.prog.info? 44).map (fun i => (i.zero, i.size, i.bytes)) = some (some (.agg zc), 5, 24) := by kernel_rfl

def Num (w : World) (b : Nat) (x : Int) : Prop := w.cell? ⟨b, 0, none⟩ = some (.int .i64 x) ∧ w.frozen? ⟨b, 0, none⟩ = false
theorem Num.only {w w' : World} {b : Nat} {x : Int} {S : Nat → Prop} (h : Num w b x) (ho : Only S w w') (hb : ¬ S b) : Num w' b x :=
  ⟨(ho.cell (lt_of_cell h.1) hb).trans h.1, (ho.frozen (lt_of_cell h.1) hb).trans h.2⟩
structure Env (wr w0 : World) (a : Option Addr) (n cap L C K : Nat) : Prop where
  hL : wr.cell? ⟨L, 0, none⟩ = some (.slice a n cap)
  hC : wr.cell? ⟨C, 0, none⟩ = some (.slice (some ⟨K, 0, none⟩) (n + 1) (n + 1))
  hB : Below w0.heap.size w0 wr
theorem Env.only {wr wr' w0 : World} {a : Option Addr} {n cap L C K : Nat} {S : Nat → Prop} (h : Env wr w0 a n cap L C K) (ho : Only S wr wr') (hL : ¬ S L) (hC : ¬ S C) (hS : ∀ k, S k → w0.heap.size ≤ k) : Env wr' w0 a n cap L C K :=
  ⟨(ho.cell (lt_of_cell h.hL) hL).trans h.hL, (ho.cell (lt_of_cell h.hC) hC).trans h.hC, h.hB.trans (ho.below h.hB.size fun k hk q => by have := hS k q; omega)⟩

/-- The row of cells, those from i on made. -/
structure RowSt (wr : World) (K : Nat) (l : List Int) (i : Nat) : Prop where
  made : ∀ j, i ≤ j → j ≤ l.length → CellIs wr K (j * 5) 1 (.int .i64 (cv (l.drop j)))
  new : ∀ j, j < i → CellIs wr K (j * 5) 0 (.int .i64 0)
theorem RowSt.only {wr wr' : World} {K : Nat} {l : List Int} {i : Nat} {S : Nat → Prop} (h : RowSt wr K l i) (ho : Only S wr wr') (hK : ¬ S K) : RowSt wr' K l i :=
  ⟨fun j h1 h2 => (h.made j h1 h2).only ho hK, fun j h1 => (h.new j h1).only ho hK⟩
theorem RowSt.got {wr wr' : World} {K : Nat} {l : List Int} {i : Nat} (h : RowSt wr K l (i + 1)) (hg : RowGot K (i * 5) (.int .i64 (cv (l.drop i))) wr wr') : RowSt wr' K l i := by
  refine ⟨fun j h1 h2 => ?_, fun j h1 => hg.2.1 _ _ _ (.inl (by omega)) (h.new j (by omega))⟩
  by_cases e : j = i
  · subst e; exact hg.1
  · exact hg.2.1 _ _ _ (.inr (by omega)) (h.made j (by omega) h2)

def ArgAt (w : World) (a : Option Addr) (l : List Int) : Prop := ∀ i, i < l.length → ∃ b off, a = some ⟨b, off, none⟩ ∧ w.cell? ⟨b, off + i, none⟩ = some (.int .i64 (l.getD i 0))

set_option maxRecDepth 100000 in
set_option maxHeartbeats 1000000 in
theorem walk_in (a : Option Addr) (n cap : Nat) (l : List Int) (hl : l.length = n) (hn : n ≤ 30) (w : World) (ha : ArgAt w a l) :
    Calls Try.prog 5 #[.slice a n cap] w fun e w' => e = .returned (.bool true) ∧ Below w.heap.size w w' := by
  have hmf : ∀ (fn : Fn) (first cap : Array Value) (w : World), (Instr.makeFunc fn first cap).run Try.prog w = .ok (.func fn first cap) w := fun _ _ _ _ => rfl
  have hmk : ∀ w, (Instr.makeSlice 49 (.int .i64 ((n : Int) + 1)) (.int .i64 ((n : Int) + 1))).run Try.prog w = .ok (.slice (some ⟨w.heap.size, 0, none⟩) (n + 1) (n + 1)) (w.alloc (.cells (row n) 44)) := fun w => by
    obtain ⟨i0, hi, hz0, hz1, hz2⟩ := info_parts cellInfo
    have h := run_make (P := Try.prog) w 49 44 i0 (.agg zc) Try.underlying49 hi hz0 .i64 .i64 ((n : Int) + 1) ((n : Int) + 1) (by omega) (by omega) (by rw [hz2]; omega) (by omega)
    rw [hz1, show ((n : Int) + 1).toNat = n + 1 from by omega] at h
    exact h
  have HA := Lib.hid ha
  have HL := Lib.hid hl
  clear ha hl
  go_enter Try.func5, Try.ntmps5
  go_wp2_with fail
  refine (alive_true _).mono ?_
  rintro e w1 ⟨rfl, hb⟩
  have n1 := hb.size
  simp at n1
  have cL := hb.cell (p := ⟨w.heap.size, 0, none⟩) (by simp)
  simp at cL
  have oW : Only (fun _ => False) w1 ((w1.alloc (.cells (row n) 44)).alloc (.cells #[.slice (some ⟨w1.heap.size, 0, none⟩) (n + 1) (n + 1)] 49)) := ((Only.refl _ w1).alloc _).alloc _
  have eL := (oW.cell (p := ⟨w.heap.size, 0, none⟩) (by show w.heap.size < _; omega) id).trans cL
  have hS : RowSt ((w1.alloc (.cells (row n) 44)).alloc (.cells #[.slice (some ⟨w1.heap.size, 0, none⟩) (n + 1) (n + 1)] 49)) w1.heap.size l (n + 1) :=
    ⟨fun j h1 h2 => by rw [HL.out] at h2; omega, fun j h1 => (row_is w1 n j (by omega)).only ((Only.refl (fun _ => False) _).alloc _) id⟩
  have hE : Env ((w1.alloc (.cells (row n) 44)).alloc (.cells #[.slice (some ⟨w1.heap.size, 0, none⟩) (n + 1) (n + 1)] 49)) w a n cap w.heap.size (w1.heap.size + 1) w1.heap.size :=
    ⟨eL, by go_simp, ((Below.refl _ w).alloc (Nat.le_refl _) _).trans ((hb.mono (by simp)).trans (oW.below (by omega) fun _ _ => id))⟩
  have w1' : (0 : Int) ≤ (n : Int) := by omega
  have hget := get_row w1.heap.size (n * 5) 17 #[] 5 _ _ (enters17 #[]) (hS.new n (by omega)) (fun w2 _ _ => (fn17 w2).mono fun e w' ⟨h1, h2⟩ => ⟨h1, by subst h2; exact Only.refl _ _⟩)
  have HS := Lib.hid hS
  have HE := Lib.hid hE
  have HG := Lib.hid hget
  clear hS hE hget oW
  go_wp2_with fail
  (with_reducible refine HG.out.mono ?_)
  rintro e w2 ⟨rfl, hg⟩
  have hS := HS.out.got (i := n) (by rw [List.drop_of_length_le (by rw [HL.out]; omega)]; exact hg)
  have hE := HE.out.only hg.2.2 (by omega) (by omega) (fun k h => by omega)
  clear HS HE HG hg eL hb cL
  have eL := hE.hL
  have c0 : cv (l.drop n) = 5 := by rw [List.drop_of_length_le (by rw [HL.out]; omega)]; rfl
  have C0 := Lib.hid c0
  clear c0
  go_wp2_with fail
  go_loop [5, 6] (fun t i => ∃ x : Int, -1 ≤ x ∧ x < n ∧ i = .int .i64 x ∧ t = .int .i64 (cv (l.drop (x + 1).toNat))) (fun _ i => (intOf i + 1).toNat)
  case atStart => exact ⟨(n : Int) - 1, by omega, by omega, rfl, by rw [show ((n : Int) - 1 + 1).toNat = n from by omega, C0.out]⟩
  case round =>
    obtain ⟨x, hx1, hx2, rfl, rfl⟩ := hrel
    by_cases hx : 0 ≤ x
    · obtain ⟨j, rfl⟩ := Int.eq_ofNat_of_zero_le hx
      rw [show ((j : Int) + 1).toNat = j + 1 from by omega]
      obtain ⟨b, off, rfl, hc⟩ := HA.out j (by rw [HL.out]; omega)
      have hc2 := (hE.hB.cell (p := ⟨b, off + j, none⟩) (lt_of_cell hc)).trans hc
      have HV := Lib.hid (cv_step l j (by rw [HL.out]; omega))
      clear hc
      go_wp2_with fail
      go_round
      case rel => exact ⟨(j : Int) - 1, by omega, by omega, rfl, by rw [show ((j : Int) - 1 + 1).toNat = j from by omega, HV.out]; simp⟩
      case measure => simp [intOf]
    · obtain rfl : x = -1 := by omega
      rw [show ((-1 : Int) + 1).toNat = 0 from rfl, List.drop_zero]
      clear C0
      go_wp2_with fail
      go_loopg [7] n (fun g x wr => ∃ (y : Int) (X : Nat), (g : Int) = y + 1 ∧ y < n ∧ x = .pointer (some ⟨X, 0, none⟩) ∧ w1.heap.size + 1 < X ∧ Num wr X y ∧ Env wr w a n cap w.heap.size (w1.heap.size + 1) w1.heap.size ∧ RowSt wr w1.heap.size l (y + 1).toNat)
      case atStart =>
        have o : Only (fun _ => False) w2 (w2.alloc (.cells #[.int .i64 ((n : Int) - 1)] 3)) := (Only.refl _ w2).alloc _
        exact ⟨(n : Int) - 1, w2.heap.size, by omega, by omega, rfl, by have := lt_of_cell hE.hC; omega, ⟨by simp, by simp⟩, hE.only o id id (fun _ h => h.elim), by rw [show ((n : Int) - 1 + 1).toNat = n from by omega]; exact hS.only o id⟩
      case round =>
        obtain ⟨y, X, hg, hy, rfl, hX1, hX, hE1, hS1⟩ := hrel
        clear hE hS eL
        have eX := hX.1
        have eL := hE1.hL
        have eC := hE1.hC
        by_cases hy0 : 0 ≤ y
        · obtain ⟨j, rfl⟩ := Int.eq_ofNat_of_zero_le hy0
          rw [show ((j : Int) + 1).toNat = j + 1 from by omega] at hS1
          obtain ⟨b, off, rfl, hc⟩ := HA.out j (by rw [HL.out]; omega)
          have hc2 := (hE1.hB.cell (p := ⟨b, off + j, none⟩) (lt_of_cell hc)).trans hc
          have ls := lt_of_cell hc
          have nC : ¬ w1.heap.size + 1 = w1.heap.size := by omega
          have nX : ¬ X = w1.heap.size := by omega
          have nL : ¬ w.heap.size = w1.heap.size := by omega
          have nb : ¬ b = w1.heap.size := by omega
          have hget := get_row w1.heap.size (j * 5) 18 #[.pointer (some ⟨w1.heap.size + 1, 0, none⟩), .pointer (some ⟨X, 0, none⟩), .pointer (some ⟨w.heap.size, 0, none⟩)] (cv (l.drop j)) _ wr (enters18 _) (hS1.new j (by omega)) (fun w3 o3 a3 => by
            rw [cv_step l j (by rw [HL.out]; omega)]
            exact fn18 _ X _ w1.heap.size b off j n cap _ _ w3 ((o3.cell (lt_of_cell eC) nC).trans eC) ((o3.cell (lt_of_cell eX) nX).trans eX) ((o3.cell (lt_of_cell eL) nL).trans eL) ((o3.cell (lt_of_cell hc2) nb).trans hc2) (by omega) hn (a3 _ _ _ (.inr (by omega)) (hS1.made (j + 1) (by omega) (by rw [HL.out]; omega))))
          have HG := Lib.hid hget
          clear hget hc hc2
          go_wp2_with fail
          (with_reducible refine HG.out.mono ?_)
          rintro e w3 ⟨rfl, hgot⟩
          have hS3 := hS1.got hgot
          have hE3 := hE1.only hgot.2.2 (by omega) (by omega) (fun k h => by omega)
          have hX3 := hX.only hgot.2.2 (by omega)
          clear hS1 hE1 hX HG hgot eX eL eC
          have eX := hX3.1
          go_wp2_with fail
          go_roundg j
          case measure => omega
          case rel =>
            refine ⟨(j : Int) - 1, w3.heap.size, by omega, by omega, rfl, by have := lt_of_cell eX; omega, ⟨by simp, by simp⟩, hE3.only ((Only.refl (fun _ => False) w3).alloc _) id id (fun _ h => h.elim), ?_⟩
            rw [show ((j : Int) - 1 + 1).toNat = j from by omega]
            exact hS3.only ((Only.refl (fun _ => False) w3).alloc _) id
        · obtain rfl : y = -1 := by omega
          have h0 := hS1.made 0 (by simp) (by omega)
          rw [List.drop_zero] at h0
          clear hS1
          go_wp2_with fail
          (with_reducible refine (got_done _ _ _ _ _ _ _ h0).mono ?_)
          rintro e w3 ⟨rfl, o3⟩
          go_wp2_with fail
          go_ret
          exact ⟨rfl, hE1.hB.trans (o3.below hE1.hB.size fun _ _ => id)⟩

theorem walk_out (a : Option Addr) (n cap : Nat) (hn : ¬ n ≤ 30) (hm : n ≤ maxLen) (w : World) :
    Calls Try.prog 5 #[.slice a n cap] w fun e w' => e = .returned (.bool true) ∧ Below w.heap.size w w' := by
  have h : (30 : Int) < (n : Int) := by omega
  have _hm : (n : Int) ≤ 9223372036854775807 := by unfold maxLen at hm; omega
  go_enter Try.func5, Try.ntmps5
  go_wp2_with (go_at_call 9; refine (alive_true _).mono ?_; rintro e w' ⟨rfl, hb⟩)
  go_ret
  exact ⟨rfl, ((Below.refl _ w).alloc (Nat.le_refl _) _).trans (hb.mono (by simp))⟩

def IsInts (w : World) (a : Option Addr) (len cap : Nat) (zs : List Int) : Prop :=
  (a = none ∧ len = 0 ∧ cap = 0 ∧ zs = []) ∨
  ∃ x, a = some x ∧ len ≤ cap ∧ cap ≤ maxLen ∧ zs.length = cap ∧ (∀ i, i < zs.length → w.cell? (x.add i) = some (.int .i64 (zs.getD i 0))) ∧ ∀ n ∈ zs, (Lit.int .i64 n).wf = true

theorem walk (a : Option Addr) (len cap : Nat) (zs : List Int) (w : World) (h : IsInts w a len cap zs) :
    Calls Try.prog 5 #[.slice a len cap] w fun e w' => e = .returned (.bool true) ∧ Below w.heap.size w w' := by
  have hm : len ≤ maxLen := by rcases h with ⟨_, rfl, _⟩ | ⟨x, _, h1, h2, _⟩; simp; omega
  by_cases hn : len ≤ 30
  · refine walk_in a len cap (zs.take len) ?_ hn w ?_
    · rcases h with ⟨_, rfl, _, rfl⟩ | ⟨x, _, h1, h2, h3, _⟩
      · rfl
      · simp; omega
    · intro i hi
      rcases h with ⟨_, rfl, _, rfl⟩ | ⟨x, rfl, h1, h2, h3, h4, _⟩
      · simp at hi
      · have hi' : i < len := by simp at hi; omega
        obtain ⟨b, off, rfl, hc⟩ := ints_at h4 (by omega)
        refine ⟨b, off, rfl, ?_⟩
        rw [hc i (by omega)]
        simp [hi']
  · exact walk_out a len cap hn hm w

open Go.ChangeShapes Go.WideShapes Go.ChangeAt in
theorem ints_of {H : Type} {enc : TypeId × Value → H} {W : World} {a : Option Addr} {len cap : Nat} {d : DataW H} {p : List MemPlace} (h : DataW.Trod enc Try.prog W 0 (fun _ => true) true 48 (.slice a len cap) d p) : ∃ zs, IsInts W a len cap zs := by
  obtain ⟨fuel, hf⟩ := h
  rcases open_ints Try.underlying48 Try.underlying3 (by kernel_rfl) hf with ⟨hcs, _⟩ | ⟨x, l, c, zs, hcs, _, hl, hm, hz, _, hcell, hwz⟩
  · simp [Value.cells] at hcs
    obtain ⟨rfl, rfl, rfl⟩ := hcs
    exact ⟨[], .inl ⟨rfl, rfl, rfl, rfl⟩⟩
  · simp [Value.cells] at hcs
    obtain ⟨rfl, rfl, rfl⟩ := hcs
    exact ⟨zs, .inr ⟨_, rfl, hl, hm, by simpa using hz, hcell, hwz⟩⟩
end Go.Proofs.Ytlcjhnbnjhgklaa.onceChain
