/- CmdNexts: arguments of which nothing is asked; all arguments. Conditions: none but those of the statement. (Printed by gen/nx7.py.) -/
import Derived.Test.YtlkknekflgclgaaDoorZNx6
namespace Go.Proofs.YtlkknekflgclgaaDoor
open Go.RowKit Go.MuLone

set_option maxRecDepth 100000 in
theorem nexts_out1 (w : World) (nt : Nat) (hT : Tab nt w) (hnt : nt ≤ w.heap.size) (p q : Bytes) (a : Option Addr) (len cap : Nat) (g1 : decide ((p.length : Int) < 1) = true) :
    Calls Tryd.prog 4 #[str p, str q, .slice a len cap] w fun e w' => e = .returned (.bool true) ∧ Only (fun _ => False) w w' := by
  have HA := Lib.hid (alive_is w nt hT hnt)
  clear hT
  go_enter Tryd.func4, Tryd.ntmps4
  go_wp2_with fail
  (with_reducible refine HA.out.mono ?_)
  rintro _ w1 ⟨rfl, o1⟩
  have HO1 := Lib.hid o1
  clear o1
  go_wp2_with fail
  go_ret
  exact ⟨rfl, HO1.out⟩
set_option maxRecDepth 100000 in
theorem nexts_out2 (w : World) (nt : Nat) (hT : Tab nt w) (hnt : nt ≤ w.heap.size) (p q : Bytes) (a : Option Addr) (len cap : Nat) (g1 : decide ((p.length : Int) < 1) = false) (g2 : decide ((q.length : Int) < 1) = true) :
    Calls Tryd.prog 4 #[str p, str q, .slice a len cap] w fun e w' => e = .returned (.bool true) ∧ Only (fun _ => False) w w' := by
  have HA := Lib.hid (alive_is w nt hT hnt)
  clear hT
  go_enter Tryd.func4, Tryd.ntmps4
  go_wp2_with fail
  (with_reducible refine HA.out.mono ?_)
  rintro _ w1 ⟨rfl, o1⟩
  have HO1 := Lib.hid o1
  clear o1
  go_wp2_with fail
  go_ret
  exact ⟨rfl, HO1.out⟩
set_option maxRecDepth 100000 in
theorem nexts_out3 (w : World) (nt : Nat) (hT : Tab nt w) (hnt : nt ≤ w.heap.size) (p q : Bytes) (a : Option Addr) (len cap : Nat) (g1 : decide ((p.length : Int) < 1) = false) (g2 : decide ((q.length : Int) < 1) = false) (g3 : decide (32 < (p.length : Int)) = true) :
    Calls Tryd.prog 4 #[str p, str q, .slice a len cap] w fun e w' => e = .returned (.bool true) ∧ Only (fun _ => False) w w' := by
  have HA := Lib.hid (alive_is w nt hT hnt)
  clear hT
  go_enter Tryd.func4, Tryd.ntmps4
  go_wp2_with fail
  (with_reducible refine HA.out.mono ?_)
  rintro _ w1 ⟨rfl, o1⟩
  have HO1 := Lib.hid o1
  clear o1
  go_wp2_with fail
  go_ret
  exact ⟨rfl, HO1.out⟩
set_option maxRecDepth 100000 in
theorem nexts_out4 (w : World) (nt : Nat) (hT : Tab nt w) (hnt : nt ≤ w.heap.size) (p q : Bytes) (a : Option Addr) (len cap : Nat) (g1 : decide ((p.length : Int) < 1) = false) (g2 : decide ((q.length : Int) < 1) = false) (g3 : decide (32 < (p.length : Int)) = false) (g4 : decide (32 < (q.length : Int)) = true) :
    Calls Tryd.prog 4 #[str p, str q, .slice a len cap] w fun e w' => e = .returned (.bool true) ∧ Only (fun _ => False) w w' := by
  have HA := Lib.hid (alive_is w nt hT hnt)
  clear hT
  go_enter Tryd.func4, Tryd.ntmps4
  go_wp2_with fail
  (with_reducible refine HA.out.mono ?_)
  rintro _ w1 ⟨rfl, o1⟩
  have HO1 := Lib.hid o1
  clear o1
  go_wp2_with fail
  go_ret
  exact ⟨rfl, HO1.out⟩
set_option maxRecDepth 100000 in
theorem nexts_out5 (w : World) (nt : Nat) (hT : Tab nt w) (hnt : nt ≤ w.heap.size) (p q : Bytes) (a : Option Addr) (len cap : Nat) (g1 : decide ((p.length : Int) < 1) = false) (g2 : decide ((q.length : Int) < 1) = false) (g3 : decide (32 < (p.length : Int)) = false) (g4 : decide (32 < (q.length : Int)) = false) (g5 : (p == q) = true) :
    Calls Tryd.prog 4 #[str p, str q, .slice a len cap] w fun e w' => e = .returned (.bool true) ∧ Only (fun _ => False) w w' := by
  have HA := Lib.hid (alive_is w nt hT hnt)
  clear hT
  go_enter Tryd.func4, Tryd.ntmps4
  go_wp2_with fail
  (with_reducible refine HA.out.mono ?_)
  rintro _ w1 ⟨rfl, o1⟩
  have HO1 := Lib.hid o1
  clear o1
  go_wp2_with fail
  go_ret
  exact ⟨rfl, HO1.out⟩
set_option maxRecDepth 100000 in
theorem nexts_out6 (w : World) (nt : Nat) (hT : Tab nt w) (hnt : nt ≤ w.heap.size) (p q : Bytes) (c : UInt8) (a : Option Addr) (len cap : Nat) (g1 : decide ((p.length : Int) < 1) = false) (g2 : decide ((q.length : Int) < 1) = false) (g3 : decide (32 < (p.length : Int)) = false) (g4 : decide (32 < (q.length : Int)) = false) (g5 : (p == q) = false) (hp0 : p[0]? = some c) (g6 : ((c.toNat : Int) == 0) = true) :
    Calls Tryd.prog 4 #[str p, str q, .slice a len cap] w fun e w' => e = .returned (.bool true) ∧ Only (fun _ => False) w w' := by
  have HA := Lib.hid (alive_is w nt hT hnt)
  have e6 := byte_at hp0
  have p1 : 0 < p.length := (List.getElem?_eq_some_iff.1 hp0).1
  clear hT hp0
  go_enter Tryd.func4, Tryd.ntmps4
  go_wp2_with fail
  (with_reducible refine HA.out.mono ?_)
  rintro _ w1 ⟨rfl, o1⟩
  have HO1 := Lib.hid o1
  clear o1
  go_wp2_with fail
  go_ret
  exact ⟨rfl, HO1.out⟩
set_option maxRecDepth 100000 in
theorem nexts_out7 (w : World) (nt : Nat) (hT : Tab nt w) (hnt : nt ≤ w.heap.size) (p q : Bytes) (c : UInt8) (d : UInt8) (a : Option Addr) (len cap : Nat) (g1 : decide ((p.length : Int) < 1) = false) (g2 : decide ((q.length : Int) < 1) = false) (g3 : decide (32 < (p.length : Int)) = false) (g4 : decide (32 < (q.length : Int)) = false) (g5 : (p == q) = false) (hp0 : p[0]? = some c) (g6 : ((c.toNat : Int) == 0) = false) (hq0 : q[0]? = some d) (g7 : ((d.toNat : Int) == 0) = true) :
    Calls Tryd.prog 4 #[str p, str q, .slice a len cap] w fun e w' => e = .returned (.bool true) ∧ Only (fun _ => False) w w' := by
  have HA := Lib.hid (alive_is w nt hT hnt)
  have e6 := byte_at hp0
  have p1 : 0 < p.length := (List.getElem?_eq_some_iff.1 hp0).1
  have e7 := byte_at hq0
  have q1 : 0 < q.length := (List.getElem?_eq_some_iff.1 hq0).1
  clear hT hp0 hq0
  go_enter Tryd.func4, Tryd.ntmps4
  go_wp2_with fail
  (with_reducible refine HA.out.mono ?_)
  rintro _ w1 ⟨rfl, o1⟩
  have HO1 := Lib.hid o1
  clear o1
  go_wp2_with fail
  go_ret
  exact ⟨rfl, HO1.out⟩
set_option maxRecDepth 100000 in
theorem nexts_out8 (w : World) (nt : Nat) (hT : Tab nt w) (hnt : nt ≤ w.heap.size) (p q : Bytes) (c : UInt8) (d : UInt8) (a : Option Addr) (len cap : Nat) (g1 : decide ((p.length : Int) < 1) = false) (g2 : decide ((q.length : Int) < 1) = false) (g3 : decide (32 < (p.length : Int)) = false) (g4 : decide (32 < (q.length : Int)) = false) (g5 : (p == q) = false) (hp0 : p[0]? = some c) (g6 : ((c.toNat : Int) == 0) = false) (hq0 : q[0]? = some d) (g7 : ((d.toNat : Int) == 0) = false) (g8 : decide (60 < (len : Int)) = true) :
    Calls Tryd.prog 4 #[str p, str q, .slice a len cap] w fun e w' => e = .returned (.bool true) ∧ Only (fun _ => False) w w' := by
  have HA := Lib.hid (alive_is w nt hT hnt)
  have e6 := byte_at hp0
  have p1 : 0 < p.length := (List.getElem?_eq_some_iff.1 hp0).1
  have e7 := byte_at hq0
  have q1 : 0 < q.length := (List.getElem?_eq_some_iff.1 hq0).1
  clear hT hp0 hq0
  go_enter Tryd.func4, Tryd.ntmps4
  go_wp2_with fail
  (with_reducible refine HA.out.mono ?_)
  rintro _ w1 ⟨rfl, o1⟩
  have HO1 := Lib.hid o1
  clear o1
  go_wp2_with fail
  go_ret
  exact ⟨rfl, HO1.out⟩
end Go.Proofs.YtlkknekflgclgaaDoor
namespace Go.Proofs.YtlkknekflgclgaaDoor.cmdNexts
open Go.RowKit

theorem walk (ka kb : ByteArray) (a : Option Addr) (len cap : Nat) (l : List Bool) (w : World) (nt : Nat) (hT : Tab nt w) (hm : MaxAt w) (hnt : nt ≤ w.heap.size) (_ : ka.size ≤ maxLen) (_ : kb.size ≤ maxLen) (h : IsBools w a len cap l) :
    Calls Tryd.prog 4 #[.string ka, .string kb, .slice a len cap] w fun e w' => e = .returned (.bool true) ∧ Below w.heap.size w w' := by
  have main : Calls Tryd.prog 4 #[str ka.data.toList, str kb.data.toList, .slice a len cap] w fun e w' => e = .returned (.bool true) ∧ Only (fun _ => False) w w' := by
    generalize ka.data.toList = p
    generalize kb.data.toList = q
    by_cases h1 : p.length < 1
    · exact nexts_out1 w nt hT hnt p q a len cap (decide_eq_true (by omega))
    have g1 : decide ((p.length : Int) < 1) = false := decide_eq_false (by omega)
    by_cases h2 : q.length < 1
    · exact nexts_out2 w nt hT hnt p q a len cap g1 (decide_eq_true (by omega))
    have g2 : decide ((q.length : Int) < 1) = false := decide_eq_false (by omega)
    by_cases h3 : 32 < p.length
    · exact nexts_out3 w nt hT hnt p q a len cap g1 g2 (decide_eq_true (by omega))
    have g3 : decide (32 < (p.length : Int)) = false := decide_eq_false (by omega)
    by_cases h4 : 32 < q.length
    · exact nexts_out4 w nt hT hnt p q a len cap g1 g2 g3 (decide_eq_true (by omega))
    have g4 : decide (32 < (q.length : Int)) = false := decide_eq_false (by omega)
    by_cases h5 : p = q
    · exact nexts_out5 w nt hT hnt p q a len cap g1 g2 g3 g4 (by simpa using h5)
    have g5 : (p == q) = false := by simpa using h5
    obtain ⟨c, hc⟩ : ∃ c, p[0]? = some c := ⟨_, List.getElem?_eq_getElem (by omega)⟩
    obtain ⟨d, hd⟩ : ∃ d, q[0]? = some d := ⟨_, List.getElem?_eq_getElem (by omega)⟩
    by_cases h6 : c = 0
    · exact nexts_out6 w nt hT hnt p q c a len cap g1 g2 g3 g4 g5 hc (by rw [h6]; rfl)
    have g6 : ((c.toNat : Int) == 0) = false := byte_ne (n := 0) (by decide) h6
    by_cases h7 : d = 0
    · exact nexts_out7 w nt hT hnt p q c d a len cap g1 g2 g3 g4 g5 hc g6 hd (by rw [h7]; rfl)
    have g7 : ((d.toNat : Int) == 0) = false := byte_ne (n := 0) (by decide) h7
    by_cases h8 : 60 < len
    · exact nexts_out8 w nt hT hnt p q c d a len cap g1 g2 g3 g4 g5 hc g6 hd g7 (decide_eq_true (by omega))
    exact nexts_in w nt hT hm hnt p q c d hc hd h6 h7 (by omega) (by omega) h5 a len cap l h (by omega)
  have e1 : str ka.data.toList = .string ka := by simp [str]
  have e2 : str kb.data.toList = .string kb := by simp [str]
  rw [e1, e2] at main
  exact main.mono fun e w' hq => ⟨hq.1, hq.2.below (Nat.le_refl _) fun _ _ q => q⟩
end Go.Proofs.YtlkknekflgclgaaDoor.cmdNexts
