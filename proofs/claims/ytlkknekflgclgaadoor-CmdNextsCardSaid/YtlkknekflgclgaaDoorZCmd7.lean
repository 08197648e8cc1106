/- ref1.Digits: a number's text is the library's. Conditions: one goroutine. -/
import Derived.Test.YtlkknekflgclgaaDoorZCmd6
namespace Go.Proofs.YtlkknekflgclgaaDoor
open Go.RowKit

/-- What is left of a number, and the digits that stand behind it. -/
def DigAt (U u : Nat) (s : Bytes) : Prop := (s = [] ∧ u = U) ∨ (s ≠ [] ∧ (if u = 0 then s else Lib.decDigits u ++ s) = Lib.decDigits U)
theorem DigAt.step {U u : Nat} {s : Bytes} (h : DigAt U u s) (hu : 0 < u ∨ s = []) : DigAt U (u / 10) (UInt8.ofNat (48 + u % 10) :: s) := by
  have key : (if u / 10 = 0 then UInt8.ofNat (48 + u % 10) :: s else Lib.decDigits (u / 10) ++ UInt8.ofNat (48 + u % 10) :: s) = Lib.decDigits u ++ s := by
    rw [dec_step u]
    by_cases h10 : u < 10
    · rw [if_pos h10, if_pos (by omega), Nat.mod_eq_of_lt h10]; rfl
    · rw [if_neg h10, if_neg (by omega), List.append_assoc]; rfl
  refine .inr ⟨by simp, key.trans ?_⟩
  rcases h with ⟨rfl, rfl⟩ | ⟨hs, h⟩
  · rw [List.append_nil]
  · rcases hu with hu | rfl
    · rw [if_neg (by omega)] at h; exact h
    · exact absurd rfl hs
theorem DigAt.done {U u : Nat} {s : Bytes} (h : DigAt U u s) (hu : u = 0) (hs : s ≠ []) : s = Lib.decDigits U := by
  rcases h with ⟨rfl, _⟩ | ⟨_, h⟩
  · exact absurd rfl hs
  · rwa [if_pos hu] at h
theorem str_cons (x : UInt8) (s : Bytes) : Value.string (({ data := #[x] } : ByteArray) ++ { data := s.toArray }) = str (x :: s) := by
  congr 1
theorem digs_step {U u n : Nat} (h : u * 10 ^ n ≤ U) (hU : U < 10 ^ 18) (hu : 0 < u) : n + 1 ≤ 19 ∧ (u / 10) * 10 ^ (n + 1) ≤ U := by
  constructor
  · apply Classical.byContradiction
    intro q
    have h1 : 10 ^ 18 ≤ 10 ^ n := Nat.pow_le_pow_right (by omega) (by omega)
    have h2 : 1 * 10 ^ n ≤ u * 10 ^ n := Nat.mul_le_mul_right _ hu
    omega
  · have h1 : u / 10 * 10 ≤ u := Nat.div_mul_le_self u 10
    have h2 : u / 10 * 10 ^ (n + 1) = u / 10 * 10 * 10 ^ n := by rw [Nat.pow_succ, Nat.mul_assoc, Nat.mul_comm (10 ^ n) 10]
    rw [h2]
    exact Nat.le_trans (Nat.mul_le_mul_right _ h1) h
theorem conv_one (w : World) (x : UInt8) (z : Int) (hz : z = x.toNat) : (convert 47 9 (.slice (some ⟨w.heap.size, 0, none⟩) 1 1)).run Tryd.prog (w.alloc (.cells #[.int .u8 z] 5)) = .ok (str [x]) (w.alloc (.cells #[.int .u8 z] 5)) := by
  subst hz
  refine run_convert_bytes_back _ 47 9 5 ⟨w.heap.size, 0, none⟩ 1 [x] Tryd.underlying47 Tryd.underlying5 Tryd.underlying9 (fun j hj => ?_)
  obtain rfl : j = 0 := by simpa using hj
  exact blk_cell (blk_new w (.cells #[.int .u8 (x.toNat : Int)] 5)) 0
set_option maxRecDepth 100000 in
set_option maxHeartbeats 4000000 in
theorem RDigits_is (w : World) (v : Int) (h : -(10 ^ 18 : Int) < v ∧ v < (10 ^ 18 : Int)) : Calls Tryd.prog 8 #[.int .i64 v] w fun e w' => e = .returned (str (Lib.itoa v)) ∧ Only (fun _ => False) w w' := by
  have O0 := Lib.hid (Only.refl (fun _ => False) w)
  rcases Int.lt_or_le v 0 with hv | hv
  · obtain ⟨U, rfl⟩ : ∃ U : Nat, v = -(U : Int) := ⟨v.natAbs, by omega⟩
    have hw : IntKind.u64.wrap (-IntKind.u64.wrap (-(U : Int))) = (U : Int) := by
      simp [IntKind.wrap, IntKind.signed, IntKind.bits]
      omega
    go_enter Tryd.func8, Tryd.ntmps8
    go_wp2_with fail
    go_loopg [3, 4] (U + 1) (fun gh sv uv wr => ∃ (u : Nat) (s : Bytes), sv = str s ∧ uv = .int .u64 (u : Int) ∧ DigAt U u s ∧ gh = u + (if s = [] then 1 else 0) ∧ s.length ≤ 19 ∧ u * 10 ^ s.length ≤ U ∧ Only (fun _ => False) w wr)
    case atStart => exact ⟨U, [], rfl, rfl, .inl ⟨rfl, rfl⟩, rfl, by decide, by simp, O0.out⟩
    case round =>
      obtain ⟨u, s, rfl, rfl, hD, hg, hl, hm, ho⟩ := hrel
      have HO := Lib.hid ho
      have HD := Lib.hid hD
      have HM := Lib.hid hm
      have hu18 : u < 10 ^ 18 := by
        have : u * 1 ≤ u * 10 ^ s.length := Nat.mul_le_mul_left _ (Nat.pos_of_ne_zero (by simp))
        omega
      clear ho hD hm
      by_cases hu : 0 < u
      · have HS := Lib.hid (HD.out.step (.inl hu))
        have hx1 : (UInt8.ofNat (48 + u % 10)).toNat = 48 + u % 10 := digit_nat (by omega)
        generalize UInt8.ofNat (48 + u % 10) = x at HS hx1
        have hcv := conv_one wr x (48 + (u : Int) % 10) (by omega)
        have HX := Lib.hid hx1
        clear hx1
        have HO2 := Lib.hid (HO.out.trans ((Only.refl (fun _ => False) wr).alloc (.cells #[.int .u8 (48 + (u : Int) % 10)] 5)) (fun _ _ q => q))
        go_wp2_with fail
        go_roundg (u / 10)
        case measure => omega
        case rel =>
          refine ⟨u / 10, x :: s, str_cons x s, by go_num, HS.out, by simp, ?_, ?_, HO2.out⟩
          · exact (digs_step HM.out (by omega) hu).1
          · exact (digs_step HM.out (by omega) hu).2
      · obtain rfl : u = 0 := by omega
        by_cases hs : s = []
        · exfalso
          rcases HD.out with ⟨_, q⟩ | ⟨q, _⟩
          · omega
          · exact q hs
        · have hs2 : List.isEmpty s = false := by simpa using hs
          have e := HD.out.done rfl hs
          have hi : Hid (Lib.itoa (-(U : Int)) = 45 :: s) := Lib.hid (by
            unfold Lib.itoa
            rw [if_pos (by omega), e, show (-(U : Int)).natAbs = U by omega])
          clear e
          go_wp2_with fail
          go_ret
          exact ⟨by rw [hi.out]; exact congrArg Ending.returned (str_cons 45 s), HO.out⟩
  · obtain ⟨U, rfl⟩ : ∃ U : Nat, v = (U : Int) := ⟨v.toNat, by omega⟩
    go_enter Tryd.func8, Tryd.ntmps8
    go_wp2_with fail
    go_loopg [3, 4] (U + 1) (fun gh sv uv wr => ∃ (u : Nat) (s : Bytes), sv = str s ∧ uv = .int .u64 (u : Int) ∧ DigAt U u s ∧ gh = u + (if s = [] then 1 else 0) ∧ s.length ≤ 19 ∧ u * 10 ^ s.length ≤ U ∧ Only (fun _ => False) w wr)
    case atStart => exact ⟨U, [], rfl, rfl, .inl ⟨rfl, rfl⟩, rfl, by decide, by simp, O0.out⟩
    case round =>
      obtain ⟨u, s, rfl, rfl, hD, hg, hl, hm, ho⟩ := hrel
      have HO := Lib.hid ho
      have HD := Lib.hid hD
      have HM := Lib.hid hm
      have hu18 : u < 10 ^ 18 := by
        have : u * 1 ≤ u * 10 ^ s.length := Nat.mul_le_mul_left _ (Nat.pos_of_ne_zero (by simp))
        omega
      clear ho hD hm
      by_cases hu : 0 < u
      · have HS := Lib.hid (HD.out.step (.inl hu))
        have hx1 : (UInt8.ofNat (48 + u % 10)).toNat = 48 + u % 10 := digit_nat (by omega)
        generalize UInt8.ofNat (48 + u % 10) = x at HS hx1
        have hcv := conv_one wr x (48 + (u : Int) % 10) (by omega)
        have HX := Lib.hid hx1
        clear hx1
        have HO2 := Lib.hid (HO.out.trans ((Only.refl (fun _ => False) wr).alloc (.cells #[.int .u8 (48 + (u : Int) % 10)] 5)) (fun _ _ q => q))
        go_wp2_with fail
        go_roundg (u / 10)
        case measure => omega
        case rel =>
          refine ⟨u / 10, x :: s, str_cons x s, by go_num, HS.out, by simp, ?_, ?_, HO2.out⟩
          · exact (digs_step HM.out (by omega) hu).1
          · exact (digs_step HM.out (by omega) hu).2
      · obtain rfl : u = 0 := by omega
        by_cases hs : s = []
        · subst hs
          have HS := Lib.hid (HD.out.step (.inr rfl))
          have hcv := conv_one wr 48 48 rfl
          have HO2 := Lib.hid (HO.out.trans ((Only.refl (fun _ => False) wr).alloc (.cells #[.int .u8 48] 5)) (fun _ _ q => q))
          go_wp2_with fail
          go_roundg 0
          case measure => simp at hg; omega
          case rel => exact ⟨0, [48], rfl, rfl, HS.out, rfl, by decide, by simp, HO2.out⟩
        · have hs2 : List.isEmpty s = false := by simpa using hs
          have e := HD.out.done rfl hs
          have hi : Hid (Lib.itoa (U : Int) = s) := Lib.hid (by
            unfold Lib.itoa
            rw [if_neg (by omega), e, show (U : Int).toNat = U by omega])
          clear e
          go_wp2_with fail
          go_ret
          exact ⟨by rw [hi.out]; rfl, HO.out⟩
end Go.Proofs.YtlkknekflgclgaaDoor
