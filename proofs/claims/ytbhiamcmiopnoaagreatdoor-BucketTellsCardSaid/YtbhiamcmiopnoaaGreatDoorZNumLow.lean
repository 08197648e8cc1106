/- Package pack: numbers of four and of eight bytes, laid and read. Conditions: as in what is imported. -/
import Derived.Test.YtbhiamcmiopnoaaGreatDoorZBase
namespace Go.Proofs.YtbhiamcmiopnoaaGreatDoor
open Go.RowKit

/-- A number as Go's uint64 has it. -/
def u64N (v : Int) : Nat := (v % 18446744073709551616).toNat
/-- Eight bytes are laid. -/
def intS (s : PutS) (v : Int) : PutS := if s.e ≠ 0 then s else ⟨s.bs ++ lowB (u64N v) 8, s.e⟩
set_option maxRecDepth 100000 in
theorem Int_new (S : Nat → Prop) (w0 w : World) (p : Nat) (s : PutS) (v : Int) (h : PutNew S w0 w p s) (hb : s.bs.length ≤ 1073741824) :
    Calls Tryz.prog 49 #[.pointer (some ⟨p, 0, none⟩), .int .i64 v] w fun e w' => e = .returned (.pointer (some ⟨p, 0, none⟩)) ∧ PutNew S w0 w' p (intS s v) := by
  have HP := Lib.hid h
  obtain ⟨sv, hp⟩ := h
  have HF := Lib.hid (fail_is p s.e 0 false w hp.c1 (.inr rfl))
  have hu : IntKind.u64.wrap v = (u64N v : Int) := by
    rw [IntKind.wrap_u64]
    unfold u64N
    omega
  have HL : Hid (Calls Tryz.prog 119 #[.pointer (some ⟨p, 0, none⟩), .int .u64 (u64N v : Int), .int .i64 8] w fun e w' => e = .returned (.pointer (some ⟨p, 0, none⟩)) ∧ PutNew S w0 w' p ⟨s.bs ++ lowB (u64N v) 8, s.e⟩) := Lib.hid (low_new S w0 w p s (u64N v) 8 (by omega) HP.out hb)
  clear hp
  unfold intS
  by_cases he : s.e = 0
  · have hb1 : (s.e != 0) = false := by rw [he]; rfl
    rw [if_neg (by simpa using he)]
    rw [hb1] at HF
    generalize u64N v = m at *
    clear he hb1
    go_enter Tryz.func49, Tryz.ntmps49
    go_wp2_with fail
    (with_reducible refine HF.out.mono ?_)
    rintro e _ ⟨rfl, rfl⟩
    go_wp2_with fail
    (with_reducible refine HL.out.mono ?_)
    rintro e w' ⟨rfl, hp⟩
    have HQ := Lib.hid hp
    clear hp
    go_wp2_with fail
    go_ret
    exact ⟨rfl, HQ.out⟩
  · have hb1 : (s.e != 0) = true := by simpa using he
    rw [if_pos he]
    rw [hb1] at HF
    clear he hb1 HL hu
    go_enter Tryz.func49, Tryz.ntmps49
    go_wp2_with fail
    (with_reducible refine HF.out.mono ?_)
    rintro e _ ⟨rfl, rfl⟩
    go_wp2_with fail
    go_ret
    exact ⟨rfl, HP.out⟩
set_option maxRecDepth 100000 in
set_option maxHeartbeats 1000000 in
theorem low_get8 (g : Nat) (s : GetS) (n : Nat) (hn : n ≤ 8) (w : World) (h : GetAt w g s) (hl : s.rest.length ≤ 140737488355328) :
    Calls Tryz.prog 116 #[.pointer (some ⟨g, 0, none⟩), .int .i64 (n : Int)] w fun e w' => e = .returned (.int .u64 (numB (rawG s n).1)) ∧ GetTo w g (rawG s n).2 w' := by
  have HR := Lib.hid (Raw_get g s n w h hl)
  have HL : Hid ((rawG s n).1.length ≤ n) := Lib.hid (by
    unfold rawG
    repeat' split
    all_goals simp [List.length_take]
    omega)
  clear h hl
  generalize (rawG s n).2 = s2 at *
  generalize (rawG s n).1 = t at *
  go_enter Tryz.func116, Tryz.ntmps116
  go_wp2_with fail
  (with_reducible refine HR.out.mono ?_)
  rintro e w' ⟨rfl, HG⟩
  have HG := Lib.hid HG
  clear HR
  have hlen := HL.out
  go_wp2_with fail
  go_loopg [5, 13] t.length (fun g i j wr => ∃ k : Nat, g + k = t.length ∧ i = .int .u64 (numB (t.take k)) ∧ j = .int .i64 k ∧ wr = w')
  case atStart => exact ⟨0, by omega, by simp [numB], rfl, rfl⟩
  case round =>
    obtain ⟨k, hg, rfl, rfl, rfl⟩ := hrel
    by_cases hk : k < t.length
    · have w1 : IntKind.i64.wrap (8 * (k : Int)) = 8 * (k : Int) := by exact IntWalk.i64_in _ (by omega)
      have w2 : (0 : Int) ≤ 8 * (k : Int) := by omega
      have w3 : 8 * (k : Int) ≤ 64 := by omega
      have w4 : (8 * (k : Int)).toNat = 8 * k := by omega
      have hk2 : (k : Int) < (t.length : Int) := by omega
      have w5 := or_byte (numB (t.take k)) k t[k] (by omega) (by have := numB_lt (t.take k); rwa [List.length_take, Nat.min_eq_left (by omega)] at this)
      rw [← numB_step t k hk] at w5
      have HW := Lib.hid w5
      clear w5
      go_wp2_with fail
      go_roundg (gk - 1)
      case measure => omega
      case rel => exact ⟨k + 1, by omega, congrArg (Value.int .u64) HW.out, by go_num, rfl⟩
    · obtain rfl : k = t.length := by omega
      rw [List.take_length]
      go_wp2_with fail
      go_ret
      exact ⟨rfl, HG.out⟩

/-- Eight bytes are read. -/
def intG (s : GetS) : Int × GetS := (wrap64 ((lowG s 8).1 : Int), (lowG s 8).2)
set_option maxRecDepth 100000 in
theorem Int_get (g : Nat) (s : GetS) (w : World) (h : GetAt w g s) (hl : s.rest.length ≤ 140737488355328) :
    Calls Tryz.prog 47 #[.pointer (some ⟨g, 0, none⟩)] w fun e w' => e = .returned (.int .i64 (intG s).1) ∧ GetTo w g (intG s).2 w' := by
  have HL : Calls Tryz.prog 116 #[.pointer (some ⟨g, 0, none⟩), .int .i64 8] w fun e w' => e = .returned (.int .u64 (lowG s 8).1) ∧ GetTo w g (lowG s 8).2 w' := low_get8 g s 8 (by omega) w h hl
  have HL := Lib.hid HL
  clear h hl
  unfold intG
  generalize (lowG s 8).2 = s2 at *
  generalize (lowG s 8).1 = m at *
  go_enter Tryz.func47, Tryz.ntmps47
  go_wp2_with fail
  (with_reducible refine HL.out.mono ?_)
  rintro e w' ⟨rfl, HG⟩
  go_wp2_with fail
  go_ret
  exact ⟨rfl, HG⟩
end Go.Proofs.YtbhiamcmiopnoaaGreatDoor

namespace Go.Proofs.YtbhiamcmiopnoaaGreatDoor
open Go.RowKit

theorem u8_wrap (m : Nat) : IntKind.u8.wrap (m : Int) = ((UInt8.ofNat m).toNat : Int) := by
  rw [UInt8.toNat_ofNat']
  simp [IntKind.wrap, IntKind.signed, IntKind.bits]
/-- A byte. -/
abbrev byV (c : UInt8) : Value := .int .u8 (c.toNat : Int)
/-- A row of bytes that this call laid itself. -/
structure NewRow (w wr : World) (sv : Value) (l : Bytes) : Prop where
  own : wr.ownsRow 0 5 1 sv l.length (u8s l)
  new : ∀ j, sv.ownBlock = some j → w.heap.size ≤ j
  still : Only (fun _ => False) w wr
set_option maxRecDepth 100000 in
set_option maxHeartbeats 4000000 in
theorem Low_is (w : World) (v n : Nat) (hv : v < 18446744073709551616) (hn : n ≤ 8) : Calls Tryz.prog 15 #[.int .u64 (v : Int), .int .i64 (n : Int)] w fun e w' => e = .returned (str (lowB v n)) ∧ Only (fun _ => False) w w' := by
  obtain ⟨i0, hi, hz0, hz1, hz2⟩ := info_parts byteInfo
  have H0 : Hid (NewRow w w (.slice none 0 0) []) := Lib.hid ⟨⟨by decide, .inl ⟨rfl, rfl⟩⟩, fun j hj => (by cases hj), Only.refl _ _⟩
  go_enter Tryz.func15, Tryz.ntmps15
  go_wp2_with fail
  go_loopg [0, 5, 6] n (fun gh vv sv iv wr => ∃ k : Nat, gh + k = n ∧ iv = .int .i64 (k : Int) ∧ vv = .int .u64 ((v / 256 ^ k : Nat) : Int) ∧ NewRow w wr sv (lowB v k))
  case atStart => exact ⟨0, by omega, rfl, by simp, H0.out⟩
  case round =>
    obtain ⟨k, hg, rfl, rfl, hR⟩ := hrel
    have HR := Lib.hid hR
    have hl := lowB_length v k
    obtain ⟨aO, cO, rfl⟩ := ownsRow_form hR.own
    have HL := Lib.hid hl
    clear hR hl
    have hm : v / 256 ^ k < 18446744073709551616 := Nat.lt_of_le_of_lt (Nat.div_le_self _ _) hv
    have HD : Hid (v / 256 ^ k / 256 = v / 256 ^ (k + 1)) := Lib.hid (by rw [Nat.div_div_eq_div_mul, Nat.pow_succ])
    have HC : Hid (lowB v (k + 1) = lowB v k ++ [UInt8.ofNat (v / 256 ^ k)]) := Lib.hid rfl
    have w5 := u8_wrap (v / 256 ^ k)
    generalize UInt8.ofNat (v / 256 ^ k) = c at *
    generalize v / 256 ^ k = m at *
    by_cases hk : k < n
    · have hk1 : (k : Int) < (n : Int) := by omega
      have HOWN := Lib.hid (HR.out.own.alloc (.cells #[.int .u8 (c.toNat : Int)] 5))
      have HCE := Lib.hid (cells_new wr [byV c] 5 (0, 0))
      have hmax : (lowB v k).length + 1 ≤ maxLen := by rw [HL.out]; unfold maxLen; omega
      have hmax2 : (lowB v k).length + 1 ≤ 140737488355328 := by rw [HL.out]; omega
      go_wp2_with (at_builtin; refine wpList_append_moved _ rfl _ _ 100 rfl 5 i0 _ 1 1 Tryz.underlying100 hi hz0 hz1 hz2 rfl (by decide) _ _ _ rfl HOWN.out ⟨wr.heap.size, 0, none⟩ 1 1 [byV c] rfl rfl HCE.out (by simp [Value.oneCell', byV]) hmax (by omega) ?_; intro a' c' wx hown2 hgr hmv; have HG := Lib.hid (And.intro hown2 (And.intro hgr hmv)); clear hown2 hgr hmv)
      all_goals
        go_roundg (gk - 1)
        case measure => omega
        case rel =>
          obtain ⟨h2, hgr, hmv⟩ := HG.out
          have hlen : (lowB v (k + 1)).length = (lowB v k).length + 1 := by rw [HC.out]; simp
          refine ⟨k + 1, by omega, by go_num, ?_, ⟨?_, fun j hj => ?_, (HR.out.still.alloc _).grown hgr (fun j hj e => ?_)⟩⟩
          · rw [← HD.out]; simp
          · rw [hlen, HC.out]
            simpa [u8s, Go.Proofs.YtbhiamcmiopnoaaGreatDoor.u8] using h2
          · have h5 := HR.out.still.size
            rcases hmv j hj with e | e
            · exact HR.out.new j e
            · rw [World.size_alloc] at e; omega
          · have := HR.out.new j e; omega
    · obtain rfl : k = n := by omega
      have hk1 : ¬ (k : Int) < (k : Int) := by omega
      have hcv := conv_bytes wr _ _ HR.out.own
      go_wp2_with fail
      go_ret
      exact ⟨rfl, HR.out.still⟩
end Go.Proofs.YtbhiamcmiopnoaaGreatDoor

namespace Go.Proofs.YtbhiamcmiopnoaaGreatDoor
open Go.RowKit

theorem byteg_at {l : Bytes} {i : Nat} {x : UInt8} (h : l[i]? = some x) : ∀ h' : i < (⟨l.toArray⟩ : ByteArray).size, (⟨l.toArray⟩ : ByteArray)[i]'h' = x := by
  intro h'
  have hi : i < l.length := by
    have h2 : i < l.toArray.size := h'
    simpa using h2
  have h3 : l[i]'hi = x := by
    rw [List.getElem?_eq_getElem hi] at h
    exact Option.some.inj h
  rw [← h3]
  rfl
set_option maxRecDepth 100000 in
set_option maxHeartbeats 1000000 in
theorem RNum_is (w : World) (s : Bytes) (hs : s.length ≤ 8) : Calls Tryz.prog 13 #[str s] w fun e w' => e = .returned (.int .u64 (numB s : Int)) ∧ w = w' := by
  have HS := Lib.hid hs
  have hw0 : IntKind.i64.wrap ((s.length : Int) - 1) = (s.length : Int) - 1 := IntWalk.i64_in _ (by omega)
  clear hs
  go_enter Tryz.func13, Tryz.ntmps13
  go_wp2_with fail
  go_loopg [3, 4] s.length (fun gh vv iv wr => iv = .int .i64 ((gh : Int) - 1) ∧ vv = .int .u64 (numB (s.drop gh) : Int) ∧ gh ≤ s.length ∧ w = wr)
  case atStart => exact ⟨rfl, by simp [numB], Nat.le_refl _, rfl⟩
  case round =>
    obtain ⟨rfl, rfl, hg, rfl⟩ := hrel
    cases gk with
    | zero =>
      have hi : ¬ (((0 : Nat) : Int) - 1 ≥ 0) := by omega
      simp only [List.drop_zero]
      go_wp2_with fail
      go_ret
      exact ⟨rfl, rfl⟩
    | succ k =>
      obtain ⟨x, hx⟩ : ∃ x, s[k]? = some x := ⟨_, List.getElem?_eq_getElem (by omega)⟩
      have hkx : s[k]'(by omega) = x := by
        rw [List.getElem?_eq_getElem (by omega)] at hx
        exact Option.some.inj hx
      have hb := byteg_at hx
      have hd : numB (s.drop k) = x.toNat + 256 * numB (s.drop (k + 1)) := by
        rw [List.drop_eq_getElem_cons (by omega), hkx]
        rfl
      have hlt := numB_lt (s.drop (k + 1))
      have h8 := HS.out
      rw [List.length_drop] at hlt
      have hp : 256 ^ (s.length - (k + 1)) ≤ 256 ^ 7 := Nat.pow_le_pow_right (by omega) (by omega)
      have hc := x.toNat_lt
      generalize numB (s.drop (k + 1)) = m at *
      have e0 : ((k + 1 : Nat) : Int) - 1 = (k : Int) := by omega
      rw [e0]
      have hi0 : (0 : Int) ≤ (k : Int) := by omega
      have hi1 : k < s.length := by omega
      have hi2 : (k : Int) < (s.length : Int) := by omega
      have x1 : IntKind.u64.wrap ((m : Int) * 256) = (m : Int) * 256 := by simp [IntKind.wrap, IntKind.signed, IntKind.bits]; omega
      have x2 : IntKind.u64.wrap (x.toNat : Int) = (x.toNat : Int) := by simp [IntKind.wrap, IntKind.signed, IntKind.bits]; omega
      have x3 : IntKind.u64.wrap ((m : Int) * 256 + (x.toNat : Int)) = (m : Int) * 256 + (x.toNat : Int) := by simp [IntKind.wrap, IntKind.signed, IntKind.bits]; omega
      have x4 : IntKind.i64.wrap ((k : Int) - 1) = (k : Int) - 1 := IntWalk.i64_in _ (by omega)
      have HD := Lib.hid hd
      clear hlt hp hc h8 hkx hx hd e0
      go_wp2_with fail
      go_roundg k
      case measure => omega
      case rel => exact ⟨rfl, by rw [HD.out, show x.toNat + 256 * m = m * 256 + x.toNat by omega]; simp, by omega, rfl⟩
end Go.Proofs.YtbhiamcmiopnoaaGreatDoor
