/- Plain laws: numbers as digits, digits as numbers. No program in sight. -/
import Derived.Test.YtlkknekflgclgaaGreatDoorZBase
import Derived.Lib.ItoaNum
namespace Go.Proofs.YtlkknekflgclgaaGreatDoor
open Go.RowKit

/-- The digits' number. -/
def valD (l : Bytes) : Nat := l.foldl (fun n c => 10 * n + (c.toNat - 48)) 0
theorem valD_snoc (l : Bytes) (c : UInt8) : valD (l ++ [c]) = 10 * valD l + (c.toNat - 48) := by simp [valD]
def isD (c : UInt8) : Bool := decide (48 ≤ c.toNat ∧ c.toNat ≤ 57)
theorem digit_nat {d : Nat} (h : d < 10) : (UInt8.ofNat (48 + d)).toNat = 48 + d := by
  rw [UInt8.toNat_ofNat']; omega
theorem digit_is {d : Nat} (h : d < 10) : isD (UInt8.ofNat (48 + d)) = true := by
  unfold isD; rw [digit_nat h]; simp; omega
theorem dec_step (u : Nat) : Lib.decDigits u = if u < 10 then [UInt8.ofNat (48 + u)] else Lib.decDigits (u / 10) ++ [UInt8.ofNat (48 + u % 10)] := by
  by_cases h : u < 10
  · rw [if_pos h, Lib.decDigits_one h]
  · rw [if_neg h]
    conv => lhs; unfold Lib.decDigits
    rw [dif_neg h]
theorem dec_val (u : Nat) : valD (Lib.decDigits u) = u := by
  induction u using Nat.strongRecOn with
  | ind u ih =>
    rw [dec_step]
    by_cases h : u < 10
    · rw [if_pos h]; simp [valD]; omega
    · rw [if_neg h, valD_snoc, ih _ (by omega), digit_nat (by omega)]; omega
theorem dec_all (u : Nat) : ∀ c ∈ Lib.decDigits u, isD c = true := by
  induction u using Nat.strongRecOn with
  | ind u ih =>
    intro c hc
    rw [dec_step] at hc
    by_cases h : u < 10
    · rw [if_pos h, List.mem_singleton] at hc
      rw [hc]; exact digit_is h
    · rw [if_neg h] at hc
      rcases List.mem_append.1 hc with q | q
      · exact ih _ (by omega) c q
      · rw [List.mem_singleton] at q
        rw [q]; exact digit_is (by omega)
theorem dec_ne (u : Nat) : Lib.decDigits u ≠ [] := by
  rw [dec_step]; split <;> simp
theorem dec_len {u k : Nat} (hk : 0 < k) (h : u < 10 ^ k) : (Lib.decDigits u).length ≤ k := by
  induction k generalizing u with
  | zero => omega
  | succ k ih =>
    rw [dec_step]
    by_cases h10 : u < 10
    · rw [if_pos h10]; simp
    · rw [if_neg h10, List.length_append, List.length_singleton]
      have hk2 : 0 < k := by
        apply Classical.byContradiction
        intro q
        have : k = 0 := by omega
        subst this
        simp at h; omega
      have := ih (u := u / 10) hk2 (by rw [Nat.pow_succ] at h; omega)
      omega
/-- The first digit: none but nought's own is nought. -/
theorem dec_head {u : Nat} (h : 0 < u) : ∃ c r, Lib.decDigits u = c :: r ∧ c.toNat ≠ 48 := by
  induction u using Nat.strongRecOn with
  | ind u ih =>
    rw [dec_step]
    by_cases h10 : u < 10
    · rw [if_pos h10]
      exact ⟨_, [], rfl, by rw [digit_nat h10]; omega⟩
    · rw [if_neg h10]
      obtain ⟨c, r, e, hc⟩ := ih (u / 10) (by omega) (by omega)
      exact ⟨c, r ++ [UInt8.ofNat (48 + u % 10)], by rw [e]; rfl, hc⟩
/-- What a text is as a number: at most 18 digits, none ahead of them that is nought; no minus ahead of nought. -/
def cutS (s : Bytes) : Bytes × Bool := match s with | c :: r => if c = 45 then (r, true) else (s, false) | [] => ([], false)
def badS (d : Bytes) (below : Bool) : Bool := d.isEmpty || decide (18 < d.length) || (decide (d.head? = some 48) && (decide (1 < d.length) || below)) || !d.all isD
def numS (s : Bytes) : Option Int := if badS (cutS s).1 (cutS s).2 = true then none else some (if (cutS s).2 = true then -(valD (cutS s).1 : Int) else (valD (cutS s).1 : Int))
theorem numS_itoa (v : Int) (h : -(10 ^ 18 : Int) < v ∧ v < (10 ^ 18 : Int)) : numS (Lib.itoa v) = some v := by
  have key : ∀ u : Nat, u < 10 ^ 18 → ∀ below : Bool, (below = true → 0 < u) → badS (Lib.decDigits u) below = false := fun u hu below hb => by
    unfold badS
    have h1 := dec_ne u
    have h2 := dec_len (k := 18) (by omega) hu
    have h3 : (Lib.decDigits u).all isD = true := List.all_eq_true.2 (dec_all u)
    have h4 : (Lib.decDigits u).isEmpty = false := by
      cases hd : Lib.decDigits u with
      | nil => exact absurd hd h1
      | cons _ _ => rfl
    rw [h3, h4, decide_eq_false (by omega : ¬ 18 < (Lib.decDigits u).length)]
    by_cases h0 : 0 < u
    · obtain ⟨c, r, e, hc⟩ := dec_head h0
      rw [e]
      have : ¬ (c :: r).head? = some 48 := by
        intro q
        rw [List.head?_cons, Option.some.injEq] at q
        rw [q] at hc
        exact hc rfl
      rw [decide_eq_false this]
      rfl
    · have : u = 0 := by omega
      subst this
      have hbf : below = false := by
        cases below with
        | false => rfl
        | true => exact absurd (hb rfl) h0
      rw [hbf, dec_step]
      rfl
  unfold numS Lib.itoa
  by_cases hv : v < 0
  · rw [if_pos hv]
    have hc : cutS (45 :: Lib.decDigits v.natAbs) = (Lib.decDigits v.natAbs, true) := by simp [cutS]
    rw [hc, key v.natAbs (by omega) true (fun _ => by omega), dec_val]
    simp only [Bool.false_eq_true, if_false, if_true]
    congr 1; omega
  · rw [if_neg hv]
    have hc : cutS (Lib.decDigits v.toNat) = (Lib.decDigits v.toNat, false) := by
      have h3 := dec_all v.toNat
      unfold cutS
      cases hd : Lib.decDigits v.toNat with
      | nil => exact absurd hd (dec_ne _)
      | cons c r =>
        have h5 := h3 c (by rw [hd]; simp)
        have : ¬ c = 45 := by rintro rfl; simp [isD] at h5
        simp only [if_neg this]
    rw [hc, key v.toNat (by omega) false (fun q => by cases q), dec_val]
    simp only [Bool.false_eq_true, if_false]
    congr 1; omega
end Go.Proofs.YtlkknekflgclgaaGreatDoor
