/- The document's own answer: what reads bytes: each call, as a step of (bytes that are left, error). Conditions: the thing that reads is there; fewer than 2^47 bytes. -/
import Derived.Test.YtlkknekflgclgaaGreatDoorZPackW
namespace Go.Proofs.YtlkknekflgclgaaGreatDoor
open Go.RowKit

theorem byteg_at {l : Bytes} {i : Nat} {x : UInt8} (h : l[i]? = some x) : ∀ h' : i < (⟨l.toArray⟩ : ByteArray).size, (⟨l.toArray⟩ : ByteArray)[i]'h' = x := by
  intro h'
  have hi : i < l.length := by
    have h2 : i < l.toArray.size := h'
    simpa using h2
  have h3 : l[i]'hi = x := by
    rw [List.getElem?_eq_getElem hi] at h
    exact Option.some.inj h
  rw [← h3]
  rfl
set_option maxRecDepth 100000 in
set_option maxHeartbeats 1000000 in
theorem RNum_is (w : World) (s : Bytes) (hs : s.length ≤ 8) : Calls Tryz.prog 11 #[str s] w fun e w' => e = .returned (.int .u64 (numB s : Int)) ∧ w = w' := by
  have HS := Lib.hid hs
  have hw0 : IntKind.i64.wrap ((s.length : Int) - 1) = (s.length : Int) - 1 := IntWalk.i64_in _ (by omega)
  clear hs
  go_enter Tryz.func11, Tryz.ntmps11
  go_wp2_with fail
  go_loopg [3, 4] s.length (fun gh vv iv wr => iv = .int .i64 ((gh : Int) - 1) ∧ vv = .int .u64 (numB (s.drop gh) : Int) ∧ gh ≤ s.length ∧ w = wr)
  case atStart => exact ⟨rfl, by simp [numB], Nat.le_refl _, rfl⟩
  case round =>
    obtain ⟨rfl, rfl, hg, rfl⟩ := hrel
    cases gk with
    | zero =>
      have hi : ¬ (((0 : Nat) : Int) - 1 ≥ 0) := by omega
      simp only [List.drop_zero]
      go_wp2_with fail
      go_ret
      exact ⟨rfl, rfl⟩
    | succ k =>
      obtain ⟨x, hx⟩ : ∃ x, s[k]? = some x := ⟨_, List.getElem?_eq_getElem (by omega)⟩
      have hkx : s[k]'(by omega) = x := by
        rw [List.getElem?_eq_getElem (by omega)] at hx
        exact Option.some.inj hx
      have hb := byteg_at hx
      have hd : numB (s.drop k) = x.toNat + 256 * numB (s.drop (k + 1)) := by
        rw [List.drop_eq_getElem_cons (by omega), hkx]
        rfl
      have hlt := numB_lt (s.drop (k + 1))
      have h8 := HS.out
      rw [List.length_drop] at hlt
      have hp : 256 ^ (s.length - (k + 1)) ≤ 256 ^ 7 := Nat.pow_le_pow_right (by omega) (by omega)
      have hc := x.toNat_lt
      generalize numB (s.drop (k + 1)) = m at *
      have e0 : ((k + 1 : Nat) : Int) - 1 = (k : Int) := by omega
      rw [e0]
      have hi0 : (0 : Int) ≤ (k : Int) := by omega
      have hi1 : k < s.length := by omega
      have hi2 : (k : Int) < (s.length : Int) := by omega
      have x1 : IntKind.u64.wrap ((m : Int) * 256) = (m : Int) * 256 := by simp [IntKind.wrap, IntKind.signed, IntKind.bits]; omega
      have x2 : IntKind.u64.wrap (x.toNat : Int) = (x.toNat : Int) := by simp [IntKind.wrap, IntKind.signed, IntKind.bits]; omega
      have x3 : IntKind.u64.wrap ((m : Int) * 256 + (x.toNat : Int)) = (m : Int) * 256 + (x.toNat : Int) := by simp [IntKind.wrap, IntKind.signed, IntKind.bits]; omega
      have x4 : IntKind.i64.wrap ((k : Int) - 1) = (k : Int) - 1 := IntWalk.i64_in _ (by omega)
      have HD := Lib.hid hd
      clear hlt hp hc h8 hkx hx hd e0
      go_wp2_with fail
      go_roundg k
      case measure => omega
      case rel => exact ⟨rfl, by rw [HD.out, show x.toNat + 256 * m = m * 256 + x.toNat by omega]; simp, by omega, rfl⟩
set_option maxRecDepth 100000 in
set_option maxHeartbeats 1000000 in
theorem RRaw_get (g : Nat) (s : GetS) (n : Int) (w : World) (h : GetAt w g s) :
    Calls Tryz.prog 154 #[.pointer (some ⟨g, 0, none⟩), .int .i64 n] w fun e w' => e = .returned (str (rawG s n).1) ∧ GetTo w g (rawG s n).2 w' := by
  have HG := Lib.hid h
  obtain ⟨c0, c1, z0, z1⟩ := h
  by_cases he : s.e = 0
  · by_cases hn : n < 0
    · have hs : rawG s n = ([], ⟨s.rest, 1⟩) := by unfold rawG; rw [if_neg (by simpa using he), if_pos hn]
      rw [hs]
      have HF := Lib.hid (HG.out.err 1)
      rw [he] at c1
      clear hs he
      go_enter Tryz.func154, Tryz.ntmps154
      go_wp2_with fail
      go_ret
      exact ⟨rfl, HF.out, (Only.refl (fun k => k = g) w).put g 1 rfl _⟩
    · by_cases hb : (s.rest.length : Int) < n
      · have hs : rawG s n = ([], ⟨s.rest, 5⟩) := by unfold rawG; rw [if_neg (by simpa using he), if_neg hn, if_pos hb]
        rw [hs]
        have HF := Lib.hid (HG.out.err 5)
        rw [he] at c1
        clear hs he
        go_enter Tryz.func154, Tryz.ntmps154
        go_wp2_with fail
        go_ret
        exact ⟨rfl, HF.out, (Only.refl (fun k => k = g) w).put g 1 rfl _⟩
      · have hs : rawG s n = (s.rest.take n.toNat, ⟨s.rest.drop n.toNat, s.e⟩) := by unfold rawG; rw [if_neg (by simpa using he), if_neg hn, if_neg hb]
        rw [hs]
        obtain ⟨m, rfl⟩ := Int.eq_ofNat_of_zero_le (show 0 ≤ n by omega)
        rw [Int.toNat_natCast]
        have HF := Lib.hid (HG.out.cut (s.rest.drop m))
        rw [he] at c1
        clear hs he
        go_enter Tryz.func154, Tryz.ntmps154
        go_wp2_with fail
        rw [cut_front, cut_back]
        go_ret
        exact ⟨rfl, HF.out, (Only.refl (fun k => k = g) w).put g 0 rfl (str (s.rest.drop m))⟩
  · have hs : rawG s n = ([], s) := by unfold rawG; rw [if_pos (by simpa using he)]
    rw [hs]
    have hb2 : (s.e != 0) = true := by simpa using he
    clear hs
    go_enter Tryz.func154, Tryz.ntmps154
    go_wp2_with fail
    go_ret
    exact ⟨rfl, HG.out, Only.refl _ _⟩
set_option maxRecDepth 100000 in
theorem RGNum_get (g : Nat) (s : GetS) (n : Nat) (hn : n ≤ 8) (w : World) (h : GetAt w g s) :
    Calls Tryz.prog 113 #[.pointer (some ⟨g, 0, none⟩), .int .i64 (n : Int)] w fun e w' => e = .returned (.int .i64 (wrap64 ((lowG s n).1 : Int))) ∧ GetTo w g (lowG s n).2 w' := by
  have HR := Lib.hid (RRaw_get g s n w h)
  have hl : (rawG s n).1.length ≤ n := by
    unfold rawG
    repeat' split
    all_goals simp [List.length_take]
    omega
  have HN := Lib.hid (fun W => RNum_is W (rawG s n).1 (by omega))
  unfold lowG
  dsimp only
  clear h hl
  generalize numB (rawG s n).1 = m at *
  generalize (rawG s n).1 = t at *
  generalize (rawG s n).2 = s2 at *
  go_enter Tryz.func113, Tryz.ntmps113
  go_wp2_with fail
  (with_reducible refine HR.out.mono ?_)
  rintro e w2 ⟨rfl, hg⟩
  have HG := Lib.hid hg
  clear hg
  go_wp2_with fail
  (with_reducible refine (HN.out _).mono ?_)
  rintro e w3 ⟨rfl, rfl⟩
  go_wp2_with fail
  go_ret
  exact ⟨rfl, HG.out⟩
set_option maxRecDepth 100000 in
theorem RGText_get (g : Nat) (s : GetS) (w : World) (h : GetAt w g s) :
    Calls Tryz.prog 114 #[.pointer (some ⟨g, 0, none⟩)] w fun e w' => e = .returned (str (textG s).1) ∧ GetTo w g (textG s).2 w' := by
  have HH : Calls Tryz.prog 113 #[.pointer (some ⟨g, 0, none⟩), .int .i64 2] w fun e w' => e = .returned (.int .i64 (wrap64 ((lowG s 2).1 : Int))) ∧ GetTo w g (lowG s 2).2 w' := RGNum_get g s 2 (by omega) w h
  have hlt := lowG_lt s 2
  have e1 : wrap64 ((lowG s 2).1 : Int) = ((lowG s 2).1 : Int) := by
    generalize (lowG s 2).1 = m at *
    unfold wrap64
    omega
  rw [e1] at HH
  have HH := Lib.hid HH
  clear h hlt e1
  unfold textG
  generalize (lowG s 2).2 = s2 at *
  generalize (lowG s 2).1 = m at *
  go_enter Tryz.func114, Tryz.ntmps114
  go_wp2_with fail
  (with_reducible refine HH.out.mono ?_)
  rintro e w' ⟨rfl, hg, ho⟩
  have HR := Lib.hid (RRaw_get g s2 (m : Int) w' hg)
  clear hg
  go_wp2_with fail
  (with_reducible refine HR.out.mono ?_)
  rintro e w'' ⟨rfl, hg2, ho2⟩
  go_wp2_with fail
  go_ret
  exact ⟨rfl, hg2, ho.trans ho2 (fun _ _ q => q)⟩
set_option maxRecDepth 100000 in
theorem RGEnd_get (g : Nat) (s : GetS) (w : World) (h : GetAt w g s) :
    Calls Tryz.prog 115 #[.pointer (some ⟨g, 0, none⟩)] w fun e w' => e = .returned (.int .i64 (endG s).e) ∧ GetTo w g (endG s) w' := by
  have HG := Lib.hid h
  obtain ⟨c0, c1, z0, z1⟩ := h
  by_cases he : s.e = 0
  · by_cases hl : 0 < s.rest.length
    · have hs : endG s = ⟨s.rest, 6⟩ := by unfold endG leftG; rw [if_pos (by rw [if_neg (by simpa using he)]; exact hl)]
      rw [hs]
      have HF := Lib.hid (HG.out.err 6)
      rw [he] at c1
      have hd : decide (0 < s.rest.length) = true := decide_eq_true (by omega)
      clear hs he hl
      go_enter Tryz.func115, Tryz.ntmps115
      go_wp2_with fail
      go_ret
      exact ⟨rfl, HF.out, (Only.refl (fun k => k = g) w).put g 1 rfl _⟩
    · have hs : endG s = s := by unfold endG leftG; rw [if_neg (by rw [if_neg (by simpa using he)]; exact hl)]
      rw [hs]
      have HE := Lib.hid he
      rw [he] at c1
      have hd : decide (0 < s.rest.length) = false := decide_eq_false (by omega)
      clear hs he hl
      go_enter Tryz.func115, Tryz.ntmps115
      go_wp2_with fail
      go_ret
      exact ⟨by rw [HE.out]; rfl, HG.out, Only.refl _ _⟩
  · have hs : endG s = s := by unfold endG leftG; rw [if_neg (by rw [if_pos (by simpa using he)]; omega)]
    rw [hs]
    have hb2 : (s.e == 0) = false := by simpa using he
    clear hs
    go_enter Tryz.func115, Tryz.ntmps115
    go_wp2_with fail
    go_ret
    exact ⟨rfl, HG.out, Only.refl _ _⟩
end Go.Proofs.YtlkknekflgclgaaGreatDoor
