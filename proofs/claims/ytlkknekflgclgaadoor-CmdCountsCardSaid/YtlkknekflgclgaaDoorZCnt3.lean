/- CmdCounts: arguments of which nothing is asked; all arguments. Conditions: none but those of the statement. -/
import Derived.Test.YtlkknekflgclgaaDoorZCnt2
namespace Go.Proofs.YtlkknekflgclgaaDoor
open Go.RowKit

set_option maxRecDepth 100000 in
theorem counts_none (w : World) (nt : Nat) (hT : Tab nt w) (hnt : nt ≤ w.heap.size) (a : Option Addr) (len cap : Nat) :
    Calls Tryd.prog 3 #[.string ⟨#[]⟩, .slice a len cap] w fun e w' => e = .returned (.bool true) ∧ Only (fun _ => False) w w' := by
  have HA := Lib.hid (alive_is w nt hT hnt)
  clear hT
  go_enter Tryd.func3, Tryd.ntmps3
  go_wp2_with fail
  (with_reducible refine HA.out.mono ?_)
  rintro _ w1 ⟨rfl, o1⟩
  have HO1 := Lib.hid o1
  clear o1
  go_wp2_with fail
  go_ret
  exact ⟨rfl, HO1.out⟩
set_option maxRecDepth 100000 in
theorem counts_long (w : World) (nt : Nat) (hT : Tab nt w) (hnt : nt ≤ w.heap.size) (k : Bytes) (hk : 32 < k.length) (a : Option Addr) (len cap : Nat) :
    Calls Tryd.prog 3 #[str k, .slice a len cap] w fun e w' => e = .returned (.bool true) ∧ Only (fun _ => False) w w' := by
  have HA := Lib.hid (alive_is w nt hT hnt)
  have g7 : decide ((k.length : Int) < 1) = false := decide_eq_false (by (try rw [List.length_cons]); omega)
  have g8 : decide (32 < (k.length : Int)) = true := decide_eq_true (by omega)
  clear hT
  go_enter Tryd.func3, Tryd.ntmps3
  go_wp2_with fail
  (with_reducible refine HA.out.mono ?_)
  rintro _ w1 ⟨rfl, o1⟩
  have HO1 := Lib.hid o1
  clear o1
  go_wp2_with fail
  go_ret
  exact ⟨rfl, HO1.out⟩
set_option maxRecDepth 100000 in
theorem counts_own (w : World) (nt : Nat) (hT : Tab nt w) (hnt : nt ≤ w.heap.size) (k' : Bytes) (hk : ((0 : UInt8) :: k').length ≤ 32) (a : Option Addr) (len cap : Nat) :
    Calls Tryd.prog 3 #[str (0 :: k'), .slice a len cap] w fun e w' => e = .returned (.bool true) ∧ Only (fun _ => False) w w' := by
  have HA := Lib.hid (alive_is w nt hT hnt)
  have g7 : decide ((((0 : UInt8) :: k').length : Int) < 1) = false := decide_eq_false (by (try rw [List.length_cons]); omega)
  have g8 : decide (32 < (((0 : UInt8) :: k').length : Int)) = false := decide_eq_false (by omega)
  have g10 : ∀ h : 0 < (⟨((0 : UInt8) :: k').toArray⟩ : ByteArray).size, ((((⟨((0 : UInt8) :: k').toArray⟩ : ByteArray)[0]'h).toNat : Int) == 0) = true := fun h => rfl
  have g11 : 0 < ((0 : UInt8) :: k').length := by simp
  generalize hkk : (0 : UInt8) :: k' = k at *
  clear hT
  go_enter Tryd.func3, Tryd.ntmps3
  go_wp2_with fail
  all_goals (
    (with_reducible refine HA.out.mono ?_)
    rintro _ w1 ⟨rfl, o1⟩
    have HO1 := Lib.hid o1
    clear o1
    go_wp2_with fail
    go_ret
    exact ⟨rfl, HO1.out⟩)
set_option maxRecDepth 100000 in
theorem counts_many (w : World) (nt : Nat) (hT : Tab nt w) (hnt : nt ≤ w.heap.size) (c : UInt8) (k' : Bytes) (hc : c ≠ 0) (hk : (c :: k').length ≤ 32) (a : Option Addr) (len cap : Nat) (hlen : 40 < len) :
    Calls Tryd.prog 3 #[str (c :: k'), .slice a len cap] w fun e w' => e = .returned (.bool true) ∧ Only (fun _ => False) w w' := by
  have HA := Lib.hid (alive_is w nt hT hnt)
  have g4 : ((c.toNat : Int) = 0) = False := by
    refine eq_false fun q => hc (UInt8.toNat_inj.1 ?_)
    simpa using q
  have g7 : decide (((c :: k').length : Int) < 1) = false := decide_eq_false (by (try rw [List.length_cons]); omega)
  have g8 : decide (32 < ((c :: k').length : Int)) = false := decide_eq_false (by omega)
  have g9 : decide (40 < (len : Int)) = true := decide_eq_true (by omega)
  have g5 : (c.toNat = 0) = False := by
    refine eq_false fun q => hc (UInt8.toNat_inj.1 ?_)
    simpa using q
  have g10 : ∀ h : 0 < (⟨(c :: k').toArray⟩ : ByteArray).size, (((⟨(c :: k').toArray⟩ : ByteArray)[0]'h).toNat = 0) = False := fun h => g5
  have g12 : ∀ h : 0 < (⟨(c :: k').toArray⟩ : ByteArray).size, ((((⟨(c :: k').toArray⟩ : ByteArray)[0]'h).toNat : Int) == 0) = false := fun h => by
    have h2 : ((((⟨(c :: k').toArray⟩ : ByteArray)[0]'h).toNat : Int) = 0) = False := g4
    simp only [beq_eq_false_iff_ne, ne_eq]
    rw [h2]
    exact id
  have g11 : 0 < (c :: k').length := by simp
  generalize hkk : c :: k' = k at *
  clear hT
  go_enter Tryd.func3, Tryd.ntmps3
  go_wp2_with fail
  (with_reducible refine HA.out.mono ?_)
  rintro _ w1 ⟨rfl, o1⟩
  have HO1 := Lib.hid o1
  clear o1
  go_wp2_with fail
  go_ret
  exact ⟨rfl, HO1.out⟩
end Go.Proofs.YtlkknekflgclgaaDoor
namespace Go.Proofs.YtlkknekflgclgaaDoor.cmdCounts
open Go.RowKit

theorem walk (key : ByteArray) (a : Option Addr) (len cap : Nat) (l : List Int) (w : World) (nt : Nat) (hT : Tab nt w) (hnt : nt ≤ w.heap.size) (_ : key.size ≤ maxLen) (h : IsInts w a len cap l) :
    Calls Tryd.prog 3 #[.string key, .slice a len cap] w fun e w' => e = .returned (.bool true) ∧ Below w.heap.size w w' := by
  have main : Calls Tryd.prog 3 #[str key.data.toList, .slice a len cap] w fun e w' => e = .returned (.bool true) ∧ Only (fun _ => False) w w' := by
    generalize key.data.toList = k
    by_cases h1 : 32 < k.length
    · exact counts_long w nt hT hnt k h1 a len cap
    · cases k with
      | nil => exact counts_none w nt hT hnt a len cap
      | cons c k' =>
        by_cases hc : c = 0
        · subst hc
          exact counts_own w nt hT hnt k' (by omega) a len cap
        · by_cases hl : len ≤ 40
          · exact counts_in w nt hT hnt c k' hc (by omega) a len cap l h hl
          · exact counts_many w nt hT hnt c k' hc (by omega) a len cap (by omega)
  have e1 : str key.data.toList = .string key := by simp [str]
  rw [e1] at main
  exact main.mono fun e w' hq => ⟨hq.1, hq.2.below (Nat.le_refl _) fun _ _ q => q⟩
end Go.Proofs.YtlkknekflgclgaaDoor.cmdCounts
