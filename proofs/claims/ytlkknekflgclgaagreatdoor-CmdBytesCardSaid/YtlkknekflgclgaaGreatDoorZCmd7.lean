/- ref1.Digits: a number's text is the library's. Conditions: one goroutine. -/
import Derived.Test.YtlkknekflgclgaaGreatDoorZCmd6
namespace Go.Proofs.YtlkknekflgclgaaGreatDoor
open Go.RowKit

/-- What is left of a number, and the digits that stand behind it. -/
def DigAt (U u : Nat) (s : Bytes) : Prop := (s = [] ∧ u = U) ∨ (s ≠ [] ∧ (if u = 0 then s else Lib.decDigits u ++ s) = Lib.decDigits U)
theorem DigAt.step {U u : Nat} {s : Bytes} (h : DigAt U u s) (hu : 0 < u ∨ s = []) : DigAt U (u / 10) (UInt8.ofNat (48 + u % 10) :: s) := by
  have key : (if u / 10 = 0 then UInt8.ofNat (48 + u % 10) :: s else Lib.decDigits (u / 10) ++ UInt8.ofNat (48 + u % 10) :: s) = Lib.decDigits u ++ s := by
    rw [dec_step u]
    by_cases h10 : u < 10
    · rw [if_pos h10, if_pos (by omega), Nat.mod_eq_of_lt h10]; rfl
    · rw [if_neg h10, if_neg (by omega), List.append_assoc]; rfl
  refine .inr ⟨by simp, key.trans ?_⟩
  rcases h with ⟨rfl, rfl⟩ | ⟨hs, h⟩
  · rw [List.append_nil]
  · rcases hu with hu | rfl
    · rw [if_neg (by omega)] at h; exact h
    · exact absurd rfl hs
theorem DigAt.done {U u : Nat} {s : Bytes} (h : DigAt U u s) (hu : u = 0) (hs : s ≠ []) : s = Lib.decDigits U := by
  rcases h with ⟨rfl, _⟩ | ⟨_, h⟩
  · exact absurd rfl hs
  · rwa [if_pos hu] at h
theorem str_cons (x : UInt8) (s : Bytes) : Value.string (({ data := #[x] } : ByteArray) ++ { data := s.toArray }) = str (x :: s) := by
  congr 1
theorem digs_step {U u n : Nat} (h : u * 10 ^ n ≤ U) (hU : U < 10 ^ 18) (hu : 0 < u) : n + 1 ≤ 19 ∧ (u / 10) * 10 ^ (n + 1) ≤ U := by
  constructor
  · apply Classical.byContradiction
    intro q
    have h1 : 10 ^ 18 ≤ 10 ^ n := Nat.pow_le_pow_right (by omega) (by omega)
    have h2 : 1 * 10 ^ n ≤ u * 10 ^ n := Nat.mul_le_mul_right _ hu
    omega
  · have h1 : u / 10 * 10 ≤ u := Nat.div_mul_le_self u 10
    have h2 : u / 10 * 10 ^ (n + 1) = u / 10 * 10 * 10 ^ n := by rw [Nat.pow_succ, Nat.mul_assoc, Nat.mul_comm (10 ^ n) 10]
    rw [h2]
    exact Nat.le_trans (Nat.mul_le_mul_right _ h1) h
theorem conv_one (w : World) (x : UInt8) (z : Int) (hz : z = x.toNat) : (convert 95 9 (.slice (some ⟨w.heap.size, 0, none⟩) 1 1)).run Tryz.prog (w.alloc (.cells #[.int .u8 z] 5)) = .ok (str [x]) (w.alloc (.cells #[.int .u8 z] 5)) := by
  subst hz
  refine run_convert_bytes_back _ 95 9 5 ⟨w.heap.size, 0, none⟩ 1 [x] Tryz.underlying95 Tryz.underlying5 Tryz.underlying9 (fun j hj => ?_)
  obtain rfl : j = 0 := by simpa using hj
  exact blk_cell (blk_new w (.cells #[.int .u8 (x.toNat : Int)] 5)) 0
end Go.Proofs.YtlkknekflgclgaaGreatDoor
