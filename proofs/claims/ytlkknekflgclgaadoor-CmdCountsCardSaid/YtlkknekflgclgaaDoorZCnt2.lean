/- CmdCounts: the law itself. Conditions: none but those of the statement. -/
import Derived.Test.YtlkknekflgclgaaDoorZCnt1
import Derived.Deep.RegionWith
import Derived.Deep.LoopGhost
namespace Go.Proofs.YtlkknekflgclgaaDoor
open Go.RowKit

set_option maxRecDepth 100000 in
set_option maxHeartbeats 8000000 in
theorem counts_in (w : World) (nt : Nat) (hT : Tab nt w) (hnt : nt ≤ w.heap.size) (c : UInt8) (k' : Bytes) (hc : c ≠ 0) (hk : (c :: k').length ≤ 32) (a : Option Addr) (len cap : Nat) (l : List Int) (hl : IsInts w a len cap l) (hlen : len ≤ 40) :
    Calls Tryd.prog 3 #[str (c :: k'), .slice a len cap] w fun e w' => e = .returned (.bool true) ∧ Only (fun _ => False) w w' := by
  have hkey := keyErr_ok hk hc
  have HA := Lib.hid (alive_is w nt hT hnt)
  have HT := Lib.hid hT
  have HL := Lib.hid hl
  have g1 : ¬ ((c :: k').length < 1) := by simp
  have g2 : ¬ (32 < (c :: k').length) := by omega
  have g3 : (Value.int .u8 (c.toNat : Int)) ≠ .int .u8 0 := by
    intro q
    injection q with _ q
    exact hc (UInt8.toNat_inj.1 (by simpa using q))
  have g4 : ((c.toNat : Int) = 0) = False := by
    refine eq_false fun q => hc (UInt8.toNat_inj.1 ?_)
    simpa using q
  have g5 : (c.toNat = 0) = False := by
    refine eq_false fun q => hc (UInt8.toNat_inj.1 ?_)
    simpa using q
  have g6 : (c = 0) = False := eq_false hc
  have g7 : decide (((c :: k').length : Int) < 1) = false := decide_eq_false (by omega)
  have g8 : decide (32 < ((c :: k').length : Int)) = false := decide_eq_false (by omega)
  have g9 : decide (40 < (len : Int)) = false := decide_eq_false (by omega)
  have g10 : ∀ h : 0 < (⟨(c :: k').toArray⟩ : ByteArray).size, (((⟨(c :: k').toArray⟩ : ByteArray)[0]'h).toNat = 0) = False := fun h => g5
  have g12 : ∀ h : 0 < (⟨(c :: k').toArray⟩ : ByteArray).size, ((((⟨(c :: k').toArray⟩ : ByteArray)[0]'h).toNat : Int) == 0) = false := fun h => by
    have h2 : ((((⟨(c :: k').toArray⟩ : ByteArray)[0]'h).toNat : Int) = 0) = False := g4
    simp only [beq_eq_false_iff_ne, ne_eq]
    rw [h2]
    exact id
  have g11 : 0 < (c :: k').length := by simp
  generalize hkk : c :: k' = k at *
  have h0 : k[0]? = some c := by rw [← hkk]; rfl
  clear hT hl
  go_enter Tryd.func3, Tryd.ntmps3
  go_wp2_with fail
  (with_reducible refine HA.out.mono ?_)
  rintro _ w1 ⟨rfl, o1⟩
  have HN := Lib.hid (New_is w1)
  have HO1 := Lib.hid o1
  clear o1
  go_wp2_with fail
  (with_reducible refine HN.out.mono ?_)
  rintro _ w2 ⟨st, r, ma, mb, rfl, hst, hB, ho, h1, h2, h3, h4, h5, h6, h7⟩
  have h10 := HO1.out.size
  have HC0 : Hid (CntAt w w2 st r ma mb nt k l 0 (fun _ => none)) := Lib.hid ⟨hst, hB, (by show [48] = Lib.itoa 0; exact itoa0.symm), (HT.out.still HO1.out).still ho, HO1.out.trans ho (fun _ _ q => q)⟩
  have hm1 : w.heap.size ≤ ma := by omega
  have hm2 : nt ≤ ma := by omega
  clear hst hB ho HO1 HT HN HA h1 h2 h3 h4 h10
  go_wp2_with fail
  go_loopg [6, 7] len (fun gh sv iv wr => ∃ (i : Nat) (V : Bytes → Option Bytes), gh + i = len ∧ iv = .int .i64 i ∧ sv = .int .i64 (sumM l i) ∧ CntAt w wr st r ma mb nt k l i V)
  case atStart => exact ⟨0, _, by omega, rfl, rfl, HC0.out⟩
  case round =>
    obtain ⟨i, V, hgk, rfl, rfl, hcr⟩ := hrel
    have HCR := Lib.hid hcr
    clear hcr HC0
    by_cases hi : i < len
    · obtain ⟨g, off, rfl, x, hx, hc0⟩ := HL.out.cells i hi
      have hcx : wr.cell? ⟨g, off + i, none⟩ = some (.int .i64 x) := (HCR.out.only.cell (p := ⟨g, off + i, none⟩) (lt_of_cell hc0) id).trans hc0
      have b1 := sumM_small l i (by omega)
      have b2 := tmod_small x
      have b3 := sumM_small l (i + 1) (by omega)
      have hs := sumM_step hx
      have hi1 : (i : Int) < (len : Int) := by omega
      have hwS : IntKind.i64.wrap (sumM l i + x.tmod 1000000000000) = sumM l (i + 1) := by rw [hs]; exact IntWalk.i64_in _ (by omega)
      have hwi : IntKind.i64.wrap ((i : Int) + 1) = (i : Int) + 1 := IntWalk.i64_in _ (by omega)
      have hwr : IntKind.i64.wrap (x.tmod 1000000000000) = x.tmod 1000000000000 := IntWalk.i64_in _ (by omega)
      have HD1 : Hid (∀ W, Calls Tryd.prog 8 #[.int .i64 (x.tmod 1000000000000)] W fun e w' => e = .returned (str (Lib.itoa (x.tmod 1000000000000))) ∧ Only (fun _ => False) W w') := Lib.hid (fun W => RDigits_is W _ (by omega))
      have HD2 : Hid (∀ W, Calls Tryd.prog 8 #[.int .i64 (sumM l (i + 1))] W fun e w' => e = .returned (str (Lib.itoa (sumM l (i + 1)))) ∧ Only (fun _ => False) W w') := Lib.hid (fun W => RDigits_is W _ (by omega))
      have HAd := Lib.hid (fun W (hW : CntAt w W st r ma mb nt k l i V) => hW.add hx (by omega) hkey hk h5 hm2 hm1)
      generalize hvd : x.tmod 1000000000000 = v at *
      generalize hsi : sumM l i = S at *
      generalize hsj : sumM l (i + 1) = S' at *
      clear hs b1 b2 b3 hc0 hx
      go_wp2_with fail
      (with_reducible refine (HD1.out _).mono ?_)
      rintro _ w3 ⟨rfl, o3⟩
      have HAd3 := Lib.hid (HAd.out w3 (HCR.out.still o3))
      clear o3 HAd
      go_wp2_with fail
      (with_reducible refine HAd3.out.mono ?_)
      rintro _ w4 ⟨rfl, V', hc4⟩
      have oa := (Only.refl (fun _ => False) w4).alloc (.cells #[.int .i64 0, str (Lib.itoa S')] 28)
      have na := blk_new w4 (.cells #[.int .i64 0, str (Lib.itoa S')] 28)
      have c0 := blk_cell na 0
      have c1 := blk_cell na 1
      simp only [List.getElem?_toArray, List.getElem?_cons_zero, List.getElem?_cons_succ] at c0 c1
      have HC4 := Lib.hid (hc4.still oa)
      have HS : Hid (∀ W, Only (fun _ => False) (w4.alloc (.cells #[.int .i64 0, str (Lib.itoa S')] 28)) W → W.cell? ⟨w4.heap.size, 0, none⟩ = some (.int .i64 0) ∧ W.cell? ⟨w4.heap.size, 1, none⟩ = some (str (Lib.itoa S'))) := Lib.hid (fun W hW => by
        have n2 := blk_still na hW id
        exact ⟨blk_cell n2 0, blk_cell n2 1⟩)
      have q0 := Only.refl (fun _ => False) (w4.alloc (.cells #[.int .i64 0, str (Lib.itoa S')] 28))
      have q1 := (Only.refl (fun _ => False) (w4.alloc (.cells #[.int .i64 0, str (Lib.itoa S')] 28))).drew
      clear hc4 oa na HAd3
      go_wp2_with fail
      go_region_held3 (fun w' => w'.cell? ⟨w4.heap.size, 0, none⟩ = some (.int .i64 0) ∧ w'.cell? ⟨w4.heap.size, 1, none⟩ = some (str (Lib.itoa S'))) (first | exact HS.out _ (by assumption)) (first | ((with_reducible refine (HD2.out _).mono ?_); rintro _ w5 ⟨rfl, o5⟩; have q5 := Only.trans (S := fun _ => False) (by assumption) o5 (fun _ _ q => q)))
      all_goals (
        have HC5 := Lib.hid (HC4.out.still q5)
        clear q0 q1 q5 o5 HC4 HS
        go_wp2_with fail
        go_roundg (gk - 1)
        case measure => omega
        case rel => exact ⟨i + 1, V', by omega, by go_num, by rw [hsj], HC5.out⟩)
    · obtain rfl : i = len := by omega
      have hi1 : ¬ ((i : Int) < (i : Int)) := by omega
      have hm : maxLen = 9223372036854775807 := by decide
      have HE : Hid (EndAt w wr st r ma mb V i) := Lib.hid ⟨HCR.out.st, HCR.out.box, HCR.out.only⟩
      have hk9 : k.length ≤ maxLen := by omega
      have HP := Lib.hid (HE.out.put h5 hm1 hkey hk9 (by omega))
      have HB := Lib.hid (fun W V n (h : EndAt w W st r ma mb V n) (hV : V k = some [120]) => h.bad h5 hm1 hkey hk9 hV)
      have HQ := Lib.hid (fun W V n (h : EndAt w W st r ma mb V n) (hV : V k = some [120]) => h.other h5 hm1 hkey hk9 hV)
      have HR := Lib.hid (fun W V n (h : EndAt w W st r ma mb V n) (hV : V k = some [120]) (hn : n < maxLen) => h.same h5 hm1 hkey hk9 hV hn)
      have HX := Lib.hid (fun W V n (h : EndAt w W st r ma mb V n) (hV : (V k).isSome = true) => h.del h5 hm1 hkey hk9 hV)
      have HY := Lib.hid (fun W V n (h : EndAt w W st r ma mb V n) (hV : V k = none) => h.gone h5 hm1 hkey hk9 hV)
      have hu : ∀ (V : Bytes → Option Bytes) (x : Bytes), upM V k x k = some x := fun V x => if_pos rfl
      have HU := Lib.hid hu
      have HNN : Hid (i + 1 < maxLen) := Lib.hid (by omega)
      clear HCR HE hu hm hk9
      go_wp2_with fail
      (with_reducible refine HP.out.mono ?_)
      rintro _ w3 ⟨rfl, e3⟩
      have HB3 := Lib.hid (HB.out _ _ _ e3 (HU.out _ _))
      clear e3 HP HB
      go_wp2_with fail
      (with_reducible refine HB3.out.mono ?_)
      rintro _ w4 ⟨rfl, e4⟩
      have HQ4 := Lib.hid (HQ.out _ _ _ e4 (HU.out _ _))
      clear e4 HB3 HQ
      go_wp2_with fail
      (with_reducible refine HQ4.out.mono ?_)
      rintro _ w5 ⟨rfl, e5⟩
      have HR5 := Lib.hid (HR.out _ _ _ e5 (HU.out _ _) HNN.out)
      clear e5 HR HQ4
      go_wp2_with fail
      (with_reducible refine HR5.out.mono ?_)
      rintro _ w6 ⟨rfl, e6⟩
      have HX6 := Lib.hid (HX.out _ _ _ e6 (by rw [HU.out]; rfl))
      clear e6 HR5 HX
      go_wp2_with fail
      (with_reducible refine HX6.out.mono ?_)
      rintro _ w7 ⟨rfl, e7⟩
      have HY7 := Lib.hid (HY.out _ _ _ e7 (if_pos rfl))
      clear e7 HX6 HY HU
      go_wp2_with fail
      (with_reducible refine HY7.out.mono ?_)
      rintro _ w8 ⟨rfl, e8⟩
      have HF := Lib.hid e8.only
      clear e8 HY7
      go_wp2_with fail
      go_ret
      exact ⟨rfl, HF.out⟩
end Go.Proofs.YtlkknekflgclgaaDoor
