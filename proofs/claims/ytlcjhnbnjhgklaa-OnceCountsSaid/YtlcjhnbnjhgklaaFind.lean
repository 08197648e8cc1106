/- The library's IndexFunc and MinFunc at pins, with the functions that package once hands to them. Conditions: a row of the call's own. -/
import Derived.Test.YtlcjhnbnjhgklaaAlive
import Derived.Deep.LoopGhost
import Derived.Deep.RegionHeld3
namespace Go.Proofs.Ytlcjhnbnjhgklaa
open Go.RowKit Go.MuLone

theorem flat_cons (p : Int × Int) (l : List (Int × Int)) : flat (p :: l) = .int .i64 p.1 :: .int .i64 p.2 :: flat l := rfl
theorem flat_get (l : List (Int × Int)) (i : Nat) (h : i < l.length) : (flat l)[i * 2]? = some (.int .i64 (l.getD i (0, 0)).1) ∧ (flat l)[i * 2 + 1]? = some (.int .i64 (l.getD i (0, 0)).2) := by
  induction l generalizing i with
  | nil => simp at h
  | cons p l ih =>
    cases i with
    | zero => simp [flat_cons]
    | succ i =>
      have q := ih i (by simpa using h)
      rw [flat_cons, show (i + 1) * 2 = i * 2 + 1 + 1 from by omega]
      simpa using q
theorem flat_set (l : List (Int × Int)) (i : Nat) (x y : Int) (h : i < l.length) : ((flat l).set (i * 2) (.int .i64 x)).set (i * 2 + 1) (.int .i64 y) = flat (l.set i (x, y)) := by
  induction l generalizing i with
  | nil => simp at h
  | cons p l ih =>
    cases i with
    | zero => simp [flat_cons]
    | succ i =>
      have q := ih i (by simpa using h)
      rw [flat_cons, List.set_cons_succ, flat_cons, show (i + 1) * 2 = i * 2 + 1 + 1 from by omega]
      simpa using q
theorem flat_take (l : List (Int × Int)) (m : Nat) : (flat l).take (m * 2) = flat (l.take m) := by
  induction l generalizing m with
  | nil => simp [flat]
  | cons p l ih =>
    cases m with
    | zero => simp [flat]
    | succ m => rw [flat_cons, show (m + 1) * 2 = m * 2 + 1 + 1 from by omega, List.take_succ_cons, List.take_succ_cons, ih, List.take_succ_cons, flat_cons]

/-- A row of pins. -/
def PinRow (w : World) (g cap : Nat) (l : List (Int × Int)) : Prop := w.ownsRow 0 79 2 (.slice (some ⟨g, 0, none⟩) l.length cap) l.length (flat l)
theorem PinRow.cell {w : World} {g cap : Nat} {l : List (Int × Int)} (h : PinRow w g cap l) (i : Nat) (hi : i < l.length) :
    w.cell? ⟨g, i * 2, none⟩ = some (.int .i64 (l.getD i (0, 0)).1) ∧ w.cell? ⟨g, i * 2 + 1, none⟩ = some (.int .i64 (l.getD i (0, 0)).2) :=
  ⟨own_cell h _ _ (flat_get l i hi).1, own_cell h _ _ (flat_get l i hi).2⟩
theorem PinRow.only {w w' : World} {g cap : Nat} {l : List (Int × Int)} {S : Nat → Prop} (h : PinRow w g cap l) (ho : Only S w w') (hs : ¬ S g) : PinRow w' g cap l := own_only h ho (fun k hk => by cases hk; exact hs)
theorem PinRow.len {w : World} {g cap : Nat} {l : List (Int × Int)} (h : PinRow w g cap l) : l.length ≤ 9223372036854775807 := by
  rcases h.2 with ⟨q, _⟩ | ⟨g', cap', cur, hv, _, _, h1, h2, _⟩
  · cases q
  · cases hv; unfold maxLen at h2; omega

theorem enters44 (cap : Array Value) (w : World) : (callFunc 44 cap).run Try.prog w = .ok (.enter 44 cap) w := run_callFunc_enter Try.func44 (by kernel_rfl) rfl cap w
theorem enters46 (cap : Array Value) (w : World) : (callFunc 46 cap).run Try.prog w = .ok (.enter 46 cap) w := run_callFunc_enter Try.func46 (by kernel_rfl) rfl cap w

/-- 'x.id == id'. -/
theorem fn44 (x y d : Int) (D : Nat) (w : World) (hD : w.cell? ⟨D, 0, none⟩ = some (.int .i64 d)) :
    Calls Try.prog 44 #[.agg #[.int .i64 x, .int .i64 y], .pointer (some ⟨D, 0, none⟩)] w fun e w' => e = .returned (.bool (x == d)) ∧ Only (fun _ => False) w w' := by
  have o : Only (fun _ => False) w (w.alloc (.cells #[.int .i64 x, .int .i64 y] 79)) := (Only.refl _ w).alloc _
  have gD := (o.cell (p := ⟨D, 0, none⟩) (lt_of_cell hD) id).trans hD
  go_enter Try.func44, Try.ntmps44
  go_wp2
  go_ret
  exact ⟨rfl, o⟩

set_option maxRecDepth 100000 in
set_option maxHeartbeats 800000 in
theorem index_yes (g cap D k0 : Nat) (d : Int) (l : List (Int × Int)) (w : World) (h : PinRow w g cap l) (hD : w.cell? ⟨D, 0, none⟩ = some (.int .i64 d)) (hk : k0 < l.length) (he : (l.getD k0 (0, 0)).1 = d) (hne : ∀ j, j < k0 → (l.getD j (0, 0)).1 ≠ d) :
    Calls Try.prog 56 #[.slice (some ⟨g, 0, none⟩) l.length cap, .func (.func 44) #[] #[.pointer (some ⟨D, 0, none⟩)]] w fun e w' => e = .returned (.int .i64 k0) ∧ Only (fun _ => False) w w' := by
  have hlen := h.len
  have lD := lt_of_cell hD
  have lg := own_lt h
  have HE := Lib.hid he
  have HN := Lib.hid hne
  clear he hne
  go_enter Try.func56, Try.ntmps56
  go_wp2_with fail
  go_loopw [8] (fun i wr => ∃ k : Nat, k ≤ k0 ∧ i = .int .i64 k ∧ Only (fun _ => False) w wr) (fun i _ => (l.length - intOf i).toNat)
  case atStart => exact ⟨0, by omega, rfl, Only.refl _ _⟩
  case round =>
    obtain ⟨k, hk1, rfl, ho⟩ := hrel
    obtain ⟨c0, c1⟩ := (h.only ho id).cell k (by omega)
    have hd := (ho.cell (p := ⟨D, 0, none⟩) lD id).trans hD
    have w4 : (k : Int) < (l.length : Int) := by omega
    by_cases hx : k = k0
    · subst hx
      rw [HE.out] at c0
      go_wp2_with fail
      (with_reducible refine (fn44 _ _ d D _ hd).mono ?_)
      rintro e w2 ⟨rfl, o2⟩
      go_wp2_with fail
      go_ret
      exact ⟨rfl, ho.trans o2 fun _ _ => id⟩
    · have hb : ((l.getD k (0, 0)).1 == d) = false := beq_eq_false_iff_ne.2 (HN.out k (by omega))
      generalize l.getD k (0, 0) = q at *
      go_wp2_with fail
      (with_reducible refine (fn44 _ _ d D _ hd).mono ?_)
      rintro e w2 ⟨rfl, o2⟩
      have o3 := ho.trans o2 fun _ _ => id
      clear o2 ho c0 c1 hd
      go_wp2_with fail
      go_roundw
      case rel => exact ⟨k + 1, by omega, by go_num, o3⟩
      case measure => simp [intOf]; omega

set_option maxRecDepth 100000 in
set_option maxHeartbeats 800000 in
theorem index_no (g cap D : Nat) (d : Int) (l : List (Int × Int)) (w : World) (h : PinRow w g cap l) (hD : w.cell? ⟨D, 0, none⟩ = some (.int .i64 d)) (hne : ∀ j, j < l.length → (l.getD j (0, 0)).1 ≠ d) :
    Calls Try.prog 56 #[.slice (some ⟨g, 0, none⟩) l.length cap, .func (.func 44) #[] #[.pointer (some ⟨D, 0, none⟩)]] w fun e w' => e = .returned (.int .i64 (-1)) ∧ Only (fun _ => False) w w' := by
  have hlen := h.len
  have lD := lt_of_cell hD
  have lg := own_lt h
  have HN := Lib.hid hne
  clear hne
  go_enter Try.func56, Try.ntmps56
  go_wp2_with fail
  go_loopw [8] (fun i wr => ∃ k : Nat, k ≤ l.length ∧ i = .int .i64 k ∧ Only (fun _ => False) w wr) (fun i _ => (l.length - intOf i).toNat)
  case atStart => exact ⟨0, by omega, rfl, Only.refl _ _⟩
  case round =>
    obtain ⟨k, hk1, rfl, ho⟩ := hrel
    by_cases hlt : k < l.length
    · obtain ⟨c0, c1⟩ := (h.only ho id).cell k hlt
      have hd := (ho.cell (p := ⟨D, 0, none⟩) lD id).trans hD
      have w4 : (k : Int) < (l.length : Int) := by omega
      have hb : ((l.getD k (0, 0)).1 == d) = false := beq_eq_false_iff_ne.2 (HN.out k hlt)
      generalize l.getD k (0, 0) = q at *
      go_wp2_with fail
      (with_reducible refine (fn44 _ _ d D _ hd).mono ?_)
      rintro e w2 ⟨rfl, o2⟩
      have o3 := ho.trans o2 fun _ _ => id
      clear o2 ho c0 c1 hd
      go_wp2_with fail
      go_roundw
      case rel => exact ⟨k + 1, by omega, by go_num, o3⟩
      case measure => simp [intOf]; omega
    · go_wp2_with fail
      go_ret
      exact ⟨rfl, ho⟩

/-- Which of two pins lies lower. -/
def cmpOf (a b : Int × Int) : Int := if a.2 < b.2 then -1 else if b.2 < a.2 then 1 else 0
theorem fn46 (a b : Int × Int) (w : World) :
    Calls Try.prog 46 #[.agg #[.int .i64 a.1, .int .i64 a.2], .agg #[.int .i64 b.1, .int .i64 b.2]] w fun e w' => e = .returned (.int .i64 (cmpOf a b)) ∧ Only (fun _ => False) w w' := by
  have o : ∀ A B, Only (fun _ => False) w ((w.alloc A).alloc B) := fun _ _ => ((Only.refl _ w).alloc _).alloc _
  rcases Int.lt_trichotomy a.2 b.2 with h | h | h
  · have e : cmpOf a b = -1 := if_pos h
    rw [e]
    clear e
    obtain ⟨a0, a1⟩ := a
    obtain ⟨b0, b1⟩ := b
    dsimp only at *
    go_enter Try.func46, Try.ntmps46
    go_wp2
    go_ret
    exact ⟨rfl, o _ _⟩
  · have e : cmpOf a b = 0 := by unfold cmpOf; rw [if_neg (by omega), if_neg (by omega)]
    rw [e]
    have h1 : ¬ a.2 < b.2 := by omega
    have h2 : ¬ b.2 < a.2 := by omega
    clear e h
    obtain ⟨a0, a1⟩ := a
    obtain ⟨b0, b1⟩ := b
    dsimp only at *
    go_enter Try.func46, Try.ntmps46
    go_wp2
    go_ret
    exact ⟨rfl, o _ _⟩
  · have e : cmpOf a b = 1 := by unfold cmpOf; rw [if_neg (by omega), if_pos h]
    rw [e]
    have h1 : ¬ a.2 < b.2 := by omega
    clear e
    obtain ⟨a0, a1⟩ := a
    obtain ⟨b0, b1⟩ := b
    dsimp only at *
    go_enter Try.func46, Try.ntmps46
    go_wp2
    go_ret
    exact ⟨rfl, o _ _⟩
end Go.Proofs.Ytlcjhnbnjhgklaa
