/- OnceMakes: the law itself. Conditions: none but those of the statement itself. -/
import Derived.Test.YtlcjhnbnjhgklaaMakes
namespace Go.Proofs.Ytlcjhnbnjhgklaa.onceMakes
open Go.RowKit Go.MuLone


set_option maxRecDepth 100000 in
set_option maxHeartbeats 1000000 in
theorem walk_B (a : Option Addr) (n cap : Nat) (l : List ByteArray) (hl : l.length = n) (hn : n ≤ 50) (hp : 0 < n) (w : World) (ha : ArgAt w a l) :
    Calls Try.prog 3 #[.slice a n cap, .bool false] w fun e w' => e = .returned (.bool true) ∧ Below w.heap.size w w' := by
  have hmf : ∀ (fn : Fn) (first cap : Array Value) (w : World), (Instr.makeFunc fn first cap).run Try.prog w = .ok (.func fn first cap) w := fun _ _ _ _ => rfl
  have HA := Lib.hid ha
  have HL := Lib.hid hl
  clear ha hl
  go_enter Try.func3, Try.ntmps3
  go_wp2_with fail
  refine (alive_true _).mono ?_
  rintro e w1 ⟨rfl, hb⟩
  have n1 := hb.size
  simp at n1
  have cL := hb.cell (p := ⟨w.heap.size, 0, none⟩) (by simp)
  simp at cL
  have hB : Below w.heap.size w w1 := ((Below.refl _ w).alloc (Nat.le_refl _) _).trans (hb.mono (by simp))
  have oW : Only (fun _ => False) w1 ((w1.alloc (.cells #[.int .u32 0, .int .i32 0, .int .u32 0, .int .u32 0, .string ⟨#[]⟩] 38)).alloc (.cells #[.int .i64 0] 3)) := ((Only.refl _ w1).alloc _).alloc _
  have eL := (oW.cell (p := ⟨w.heap.size, 0, none⟩) (by show w.heap.size < _; omega) id).trans cL
  have gK := (newCellS w1).only ((Only.refl (fun _ => False) _).alloc (.cells #[.int .i64 0] 3)) id
  have gC : Num ((w1.alloc (.cells #[.int .u32 0, .int .i32 0, .int .u32 0, .int .u32 0, .string ⟨#[]⟩] 38)).alloc (.cells #[.int .i64 0] 3)) (w1.heap.size + 1) 0 := ⟨by go_simp, by go_simp⟩
  have gB := hB.trans (oW.below (by omega) (fun _ _ => id))
  clear hb hB oW
  go_wp2_with fail
  (with_reducible refine (s_made _ 0 0 false _ gK.c3 rfl).mono ?_)
  rintro e w' ⟨rfl, rfl⟩
  obtain ⟨b0, off0, rfl, hc⟩ := HA.out 0 (by rw [HL.out]; omega)
  have hc2 := (gB.cell (p := ⟨b0, off0 + 0, none⟩) (lt_of_cell hc)).trans hc
  rw [Nat.add_zero] at hc2
  have w4 : (0 : Int) < (n : Int) := by omega
  have r0 : Rel w (some ⟨b0, off0, none⟩) n cap w.heap.size w1.heap.size (w1.heap.size + 1) (l.getD 0 ByteArray.empty) 1 (.pointer (some ⟨w1.heap.size + 1 + 1, 0, none⟩)) 0 (((w1.alloc (.cells #[.int .u32 0, .int .i32 0, .int .u32 0, .int .u32 0, .string ⟨#[]⟩] 38)).alloc (.cells #[.int .i64 0] 3)).alloc (.cells #[.int .i64 0] 3)) := by
    have o4 := (Only.refl (fun _ => False) ((w1.alloc (.cells #[.int .u32 0, .int .i32 0, .int .u32 0, .int .u32 0, .string ⟨#[]⟩] 38)).alloc (.cells #[.int .i64 0] 3))).alloc (.cells #[.int .i64 0] 3)
    exact ⟨_, rfl, by omega, by omega, ⟨by go_simp, by go_simp⟩, (o4.cell (p := ⟨w.heap.size, 0, none⟩) (lt_of_cell eL) id).trans eL, gB.trans (o4.below gB.size fun _ _ => id), .inr ⟨rfl, rfl, gK.only o4 id, gC.only o4 id⟩⟩
  have R0 := Lib.hid r0
  clear r0 gK gC
  go_wp2_with fail
  clear hc hc2 gB eL cL w4
  go_loopg [8] n (fun g x wr => ∃ k : Nat, g + k = n ∧ Rel w (some ⟨b0, off0, none⟩) n cap w.heap.size w1.heap.size (w1.heap.size + 1) (l.getD 0 ByteArray.empty) 1 x k wr)
  case atStart => exact ⟨0, by omega, R0.out⟩
  case round =>
    obtain ⟨k, hg, X, rfl, hk, hX1, hX, eL, hB, hF⟩ := hrel
    clear R0
    have eX := hX.1
    by_cases hlt : k < n
    · obtain ⟨b, off, q, hc⟩ := HA.out k (by rw [HL.out]; omega)
      obtain ⟨rfl, rfl⟩ : b0 = b ∧ off0 = off := by simpa using q
      have hc2 := (hB.cell (p := ⟨b0, off0 + k, none⟩) (lt_of_cell hc)).trans hc
      have lb := lt_of_cell hc
      have hget := get_round w1.heap.size (w1.heap.size + 1) w.heap.size X _ _ n cap k _ _ _ wr hF (by intro q _; subst q; rfl) eL eX hc2 hlt (by omega) (by omega) (by omega) (by omega) (by omega) (by omega) (by omega)
      have HG := Lib.hid hget
      have w4 : (k : Int) < (n : Int) := by omega
      clear hget hc hc2 hF
      go_wp2_with fail
      (with_reducible refine HG.out.mono ?_)
      rintro e w3 ⟨rfl, hS, o3⟩
      have hX3 := hX.only o3 (by omega)
      have eL3 := (o3.cell (p := ⟨w.heap.size, 0, none⟩) (lt_of_cell eL) (by show ¬ (w.heap.size = _ ∨ w.heap.size = _); omega)).trans eL
      have hB3 := hB.trans (o3.below hB.size fun k _ q => by omega)
      clear hX eX eL hB o3 HG
      have eX := hX3.1
      go_wp2_with fail
      (with_reducible refine (s_made _ 0 1 true _ hS.cell.c3 rfl).mono ?_)
      rintro e w' ⟨rfl, rfl⟩
      go_wp2_with fail
      go_roundg (gk - 1)
      case measure => omega
      case rel =>
        have o4 : Only (fun _ => False) w3 (w3.alloc (.cells #[.int .i64 ((k : Int) + 1)] 3)) := (Only.refl _ w3).alloc _
        refine ⟨k + 1, by omega, w3.heap.size, rfl, by omega, by have := lt_of_cell eX; omega, ⟨by simp, by simp⟩, (o4.cell (p := ⟨w.heap.size, 0, none⟩) (lt_of_cell eL3) id).trans eL3, hB3.trans (o4.below hB3.size fun _ _ => id), .inl (hS.only o4 id id)⟩
    · obtain rfl : k = n := by omega
      rcases hF with hF | ⟨rfl, _⟩
      · have eC := hF.num.1
        clear hF
        go_wp2_with fail
        go_ret
        exact ⟨rfl, hB⟩
      · omega

set_option maxRecDepth 100000 in
set_option maxHeartbeats 1000000 in
theorem walk_A (a : Option Addr) (n cap : Nat) (l : List ByteArray) (hl : l.length = n) (hn : n ≤ 50) (w : World) (ha : ArgAt w a l) :
    Calls Try.prog 3 #[.slice a n cap, .bool true] w fun e w' => e = .returned (.bool true) ∧ Below w.heap.size w w' := by
  have hmf : ∀ (fn : Fn) (first cap : Array Value) (w : World), (Instr.makeFunc fn first cap).run Try.prog w = .ok (.func fn first cap) w := fun _ _ _ _ => rfl
  have HA := Lib.hid ha
  have HL := Lib.hid hl
  clear ha hl
  go_enter Try.func3, Try.ntmps3
  go_wp2_with fail
  refine (alive_true _).mono ?_
  rintro e w1 ⟨rfl, hb⟩
  have n1 := hb.size
  simp at n1
  have cL := hb.cell (p := ⟨w.heap.size, 0, none⟩) (by simp)
  simp at cL
  have hB : Below w.heap.size w w1 := ((Below.refl _ w).alloc (Nat.le_refl _) _).trans (hb.mono (by simp))
  have oW : Only (fun _ => False) w1 ((w1.alloc (.cells #[.int .u32 0, .int .i32 0, .int .u32 0, .int .u32 0, .string ⟨#[]⟩] 38)).alloc (.cells #[.int .i64 0] 3)) := ((Only.refl _ w1).alloc _).alloc _
  have eL := (oW.cell (p := ⟨w.heap.size, 0, none⟩) (by show w.heap.size < _; omega) id).trans cL
  have gK := (newCellS w1).only ((Only.refl (fun _ => False) _).alloc (.cells #[.int .i64 0] 3)) id
  have gC : Num ((w1.alloc (.cells #[.int .u32 0, .int .i32 0, .int .u32 0, .int .u32 0, .string ⟨#[]⟩] 38)).alloc (.cells #[.int .i64 0] 3)) (w1.heap.size + 1) 0 := ⟨by go_simp, by go_simp⟩
  have gB := hB.trans (oW.below (by omega) (fun _ _ => id))
  clear hb hB oW
  go_wp2_with fail
  (with_reducible refine (s_made _ 0 0 false _ gK.c3 rfl).mono ?_)
  rintro e w' ⟨rfl, rfl⟩
  go_wp2_with fail
  (with_reducible refine (s_none _ 0 _ _ gK).mono ?_)
  rintro e w2 ⟨rfl, gK2, o2⟩
  have gC2 := gC.only o2 (by omega)
  have eL2 := (o2.cell (p := ⟨w.heap.size, 0, none⟩) (lt_of_cell eL) (by show ¬ w.heap.size = _; omega)).trans eL
  have gB2 := gB.trans (o2.below gB.size fun k _ q => by omega)
  have n2 := lt_of_cell gC2.1
  clear gK gC eL gB o2
  go_wp2_with fail
  (with_reducible refine (s_made _ 0 1 true _ gK2.c3 rfl).mono ?_)
  rintro e w' ⟨rfl, rfl⟩
  have r0 : Rel w a n cap w.heap.size w1.heap.size (w1.heap.size + 1) ⟨#[]⟩ 0 (.pointer (some ⟨w2.heap.size, 0, none⟩)) 0 (w2.alloc (.cells #[.int .i64 0] 3)) := by
    have o4 := (Only.refl (fun _ => False) w2).alloc (.cells #[.int .i64 0] 3)
    exact ⟨_, rfl, by omega, by omega, ⟨by simp, by simp⟩, (o4.cell (p := ⟨w.heap.size, 0, none⟩) (lt_of_cell eL2) id).trans eL2, gB2.trans (o4.below gB2.size fun _ _ => id), .inl ⟨gK2.only o4 id, gC2.only o4 id⟩⟩
  have R0 := Lib.hid r0
  clear r0 gK2 gC2
  go_wp2_with fail
  clear gB2 eL2 cL
  go_loopg [8] n (fun g x wr => ∃ k : Nat, g + k = n ∧ Rel w a n cap w.heap.size w1.heap.size (w1.heap.size + 1) ⟨#[]⟩ 0 x k wr)
  case atStart => exact ⟨0, by omega, R0.out⟩
  case round =>
    obtain ⟨k, hg, X, rfl, hk, hX1, hX, eL, hB, hF⟩ := hrel
    clear R0
    have eX := hX.1
    by_cases hlt : k < n
    · obtain ⟨b, off, rfl, hc⟩ := HA.out k (by rw [HL.out]; omega)

      have hc2 := (hB.cell (p := ⟨b, off + k, none⟩) (lt_of_cell hc)).trans hc
      have lb := lt_of_cell hc
      have hget := get_round w1.heap.size (w1.heap.size + 1) w.heap.size X _ _ n cap k _ _ _ wr hF (by omega) eL eX hc2 hlt (by omega) (by omega) (by omega) (by omega) (by omega) (by omega) (by omega)
      have HG := Lib.hid hget
      have w4 : (k : Int) < (n : Int) := by omega
      clear hget hc hc2 hF
      go_wp2_with fail
      (with_reducible refine HG.out.mono ?_)
      rintro e w3 ⟨rfl, hS, o3⟩
      have hX3 := hX.only o3 (by omega)
      have eL3 := (o3.cell (p := ⟨w.heap.size, 0, none⟩) (lt_of_cell eL) (by show ¬ (w.heap.size = _ ∨ w.heap.size = _); omega)).trans eL
      have hB3 := hB.trans (o3.below hB.size fun k _ q => by omega)
      clear hX eX eL hB o3 HG
      have eX := hX3.1
      go_wp2_with fail
      (with_reducible refine (s_made _ 0 1 true _ hS.cell.c3 rfl).mono ?_)
      rintro e w' ⟨rfl, rfl⟩
      go_wp2_with fail
      go_roundg (gk - 1)
      case measure => omega
      case rel =>
        have o4 : Only (fun _ => False) w3 (w3.alloc (.cells #[.int .i64 ((k : Int) + 1)] 3)) := (Only.refl _ w3).alloc _
        refine ⟨k + 1, by omega, w3.heap.size, rfl, by omega, by have := lt_of_cell eX; omega, ⟨by simp, by simp⟩, (o4.cell (p := ⟨w.heap.size, 0, none⟩) (lt_of_cell eL3) id).trans eL3, hB3.trans (o4.below hB3.size fun _ _ => id), .inl (hS.only o4 id id)⟩
    · obtain rfl : k = n := by omega
      rcases hF with hF | ⟨_, q, _⟩
      · have eC := hF.num.1
        clear hF
        go_wp2_with fail
        go_ret
        exact ⟨rfl, hB⟩
      · omega

set_option maxRecDepth 100000 in
set_option maxHeartbeats 1000000 in
theorem walk_E (a : Option Addr) (cap : Nat) (w : World) :
    Calls Try.prog 3 #[.slice a 0 cap, .bool false] w fun e w' => e = .returned (.bool true) ∧ Below w.heap.size w w' := by
  go_enter Try.func3, Try.ntmps3
  go_wp2_with fail
  refine (alive_true _).mono ?_
  rintro e w1 ⟨rfl, hb⟩
  have n1 := hb.size
  simp at n1
  have cL := hb.cell (p := ⟨w.heap.size, 0, none⟩) (by simp)
  simp at cL
  have hB : Below w.heap.size w w1 := ((Below.refl _ w).alloc (Nat.le_refl _) _).trans (hb.mono (by simp))
  have gK := (newCellS w1).only ((Only.refl (fun _ => False) _).alloc (.cells #[.int .i64 0] 3)) id
  have oW := ((Only.refl (fun _ => False) w1).alloc (.cells #[.int .u32 0, .int .i32 0, .int .u32 0, .int .u32 0, .string ⟨#[]⟩] 38)).alloc (.cells #[.int .i64 0] 3)
  have eL := (oW.cell (p := ⟨w.heap.size, 0, none⟩) (by show w.heap.size < _; omega) id).trans cL
  have eL2 := ((oW.alloc (.cells #[.int .i64 0] 3)).cell (p := ⟨w.heap.size, 0, none⟩) (by show w.heap.size < _; omega) id).trans cL
  clear hb oW
  go_wp2_with fail
  (with_reducible refine (s_made _ 0 0 false _ gK.c3 rfl).mono ?_)
  rintro e w' ⟨rfl, rfl⟩
  go_wp2_with fail
  refine wp_loop_rounds 1 ?_
  rw [rounds_succ]
  go_wp2_with fail
  go_ret
  exact ⟨rfl, ((hB.alloc (by omega) _).alloc (by simp; omega) _).alloc (by simp; omega) _⟩

theorem walk_out (a : Option Addr) (n cap : Nat) (t : Bool) (hn : ¬ n ≤ 50) (w : World) :
    Calls Try.prog 3 #[.slice a n cap, .bool t] w fun e w' => e = .returned (.bool true) ∧ Below w.heap.size w w' := by
  have h : (50 : Int) < (n : Int) := by omega
  go_enter Try.func3, Try.ntmps3
  go_wp2_with (go_at_call 9; refine (alive_true _).mono ?_; rintro e w' ⟨rfl, hb⟩)
  go_ret
  exact ⟨rfl, ((Below.refl _ w).alloc (Nat.le_refl _) _).trans (hb.mono (by simp))⟩

def IsStrs (w : World) (a : Option Addr) (len cap : Nat) (ss : List ByteArray) : Prop :=
  (a = none ∧ len = 0 ∧ cap = 0 ∧ ss = []) ∨
  ∃ x, a = some x ∧ len ≤ cap ∧ cap ≤ maxLen ∧ ss.length = cap ∧ ∀ i, i < ss.length → w.cell? (x.add i) = some (.string (ss.getD i ByteArray.empty))

theorem walk (a : Option Addr) (len cap : Nat) (ss : List ByteArray) (t : Bool) (w : World) (h : IsStrs w a len cap ss) :
    Calls Try.prog 3 #[.slice a len cap, .bool t] w fun e w' => e = .returned (.bool true) ∧ Below w.heap.size w w' := by
  by_cases hn : len ≤ 50
  · have hl : (ss.take len).length = len := by
      rcases h with ⟨_, rfl, _, rfl⟩ | ⟨x, _, h1, h2, h3, _⟩
      · rfl
      · simp; omega
    have ha : ArgAt w a (ss.take len) := by
      intro i hi
      rcases h with ⟨_, rfl, _, rfl⟩ | ⟨x, rfl, h1, h2, h3, h4⟩
      · simp at hi
      · have hi' : i < len := by simp at hi; omega
        obtain ⟨b, off, sp⟩ := x
        have hs : sp = none := by simpa [Addr.add] using World.cell?_spot (h4 0 (by omega))
        subst hs
        refine ⟨b, off, rfl, ?_⟩
        rw [← Go.WideShapes.add_plain, h4 i (by omega)]
        simp [hi']
    cases t with
    | true => exact walk_A a len cap _ hl hn w ha
    | false =>
      by_cases hp : 0 < len
      · exact walk_B a len cap _ hl hn hp w ha
      · obtain rfl : len = 0 := by omega
        exact walk_E a cap w
  · exact walk_out a len cap t hn w

open Go.ChangeShapes Go.WideShapes Go.ChangeAt in
theorem strs_of {H : Type} {enc : TypeId × Value → H} {W : World} {a : Option Addr} {len cap : Nat} {d : DataW H} {p : List MemPlace} (h : DataW.Trod enc Try.prog W 0 (fun _ => true) true 22 (.slice a len cap) d p) : ∃ ss, IsStrs W a len cap ss := by
  obtain ⟨fuel, hf⟩ := h
  rcases open_strings Try.underlying22 Try.underlying9 (by kernel_rfl) hf with ⟨hcs, _⟩ | ⟨x, l, c, zs, hcs, _, hl, hm, hz, _, hcell, hwz⟩
  · simp [Value.cells] at hcs
    obtain ⟨rfl, rfl, rfl⟩ := hcs
    exact ⟨[], .inl ⟨rfl, rfl, rfl, rfl⟩⟩
  · simp [Value.cells] at hcs
    obtain ⟨rfl, rfl, rfl⟩ := hcs
    exact ⟨zs, .inr ⟨_, rfl, hl, hm, by simpa using hz, hcell⟩⟩
end Go.Proofs.Ytlcjhnbnjhgklaa.onceMakes
