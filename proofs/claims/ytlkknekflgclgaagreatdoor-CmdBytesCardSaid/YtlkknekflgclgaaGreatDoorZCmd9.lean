/- ref1.Low, ref1.Text, ref19.Name; cmd.name: the same names. Conditions: one goroutine; texts that fit. -/
import Derived.Test.YtlkknekflgclgaaGreatDoorZCmd8
namespace Go.Proofs.YtlkknekflgclgaaGreatDoor
open Go.RowKit

theorem u8_wrap (m : Nat) : IntKind.u8.wrap (m : Int) = ((UInt8.ofNat m).toNat : Int) := by
  rw [UInt8.toNat_ofNat']
  simp [IntKind.wrap, IntKind.signed, IntKind.bits]
/-- A byte. -/
abbrev byV (c : UInt8) : Value := .int .u8 (c.toNat : Int)
/-- A row of bytes that this call laid itself. -/
structure NewRow (w wr : World) (sv : Value) (l : Bytes) : Prop where
  own : wr.ownsRow 0 5 1 sv l.length (u8s l)
  new : ∀ j, sv.ownBlock = some j → w.heap.size ≤ j
  still : Only (fun _ => False) w wr
set_option maxRecDepth 100000 in
set_option maxHeartbeats 4000000 in
theorem Low_is (w : World) (v n : Nat) (hv : v < 18446744073709551616) (hn : n ≤ 8) : Calls Tryz.prog 13 #[.int .u64 (v : Int), .int .i64 (n : Int)] w fun e w' => e = .returned (str (lowB v n)) ∧ Only (fun _ => False) w w' := by
  obtain ⟨i0, hi, hz0, hz1, hz2⟩ := info_parts byteInfo
  have H0 : Hid (NewRow w w (.slice none 0 0) []) := Lib.hid ⟨⟨by decide, .inl ⟨rfl, rfl⟩⟩, fun j hj => (by cases hj), Only.refl _ _⟩
  go_enter Tryz.func13, Tryz.ntmps13
  go_wp2_with fail
  go_loopg [0, 5, 6] n (fun gh vv sv iv wr => ∃ k : Nat, gh + k = n ∧ iv = .int .i64 (k : Int) ∧ vv = .int .u64 ((v / 256 ^ k : Nat) : Int) ∧ NewRow w wr sv (lowB v k))
  case atStart => exact ⟨0, by omega, rfl, by simp, H0.out⟩
  case round =>
    obtain ⟨k, hg, rfl, rfl, hR⟩ := hrel
    have HR := Lib.hid hR
    have hl := lowB_length v k
    obtain ⟨aO, cO, rfl⟩ := ownsRow_form hR.own
    have HL := Lib.hid hl
    clear hR hl
    have hm : v / 256 ^ k < 18446744073709551616 := Nat.lt_of_le_of_lt (Nat.div_le_self _ _) hv
    have HD : Hid (v / 256 ^ k / 256 = v / 256 ^ (k + 1)) := Lib.hid (by rw [Nat.div_div_eq_div_mul, Nat.pow_succ])
    have HC : Hid (lowB v (k + 1) = lowB v k ++ [UInt8.ofNat (v / 256 ^ k)]) := Lib.hid rfl
    have w5 := u8_wrap (v / 256 ^ k)
    generalize UInt8.ofNat (v / 256 ^ k) = c at *
    generalize v / 256 ^ k = m at *
    by_cases hk : k < n
    · have hk1 : (k : Int) < (n : Int) := by omega
      have HOWN := Lib.hid (HR.out.own.alloc (.cells #[.int .u8 (c.toNat : Int)] 5))
      have HCE := Lib.hid (cells_new wr [byV c] 5 (0, 0))
      have hmax : (lowB v k).length + 1 ≤ maxLen := by rw [HL.out]; unfold maxLen; omega
      have hmax2 : (lowB v k).length + 1 ≤ 140737488355328 := by rw [HL.out]; omega
      go_wp2_with (at_builtin; refine wpList_append_moved _ rfl _ _ 95 rfl 5 i0 _ 1 1 Tryz.underlying95 hi hz0 hz1 hz2 rfl (by decide) _ _ _ rfl HOWN.out ⟨wr.heap.size, 0, none⟩ 1 1 [byV c] rfl rfl HCE.out (by simp [Value.oneCell', byV]) hmax (by omega) ?_; intro a' c' wx hown2 hgr hmv; have HG := Lib.hid (And.intro hown2 (And.intro hgr hmv)); clear hown2 hgr hmv)
      all_goals
        go_roundg (gk - 1)
        case measure => omega
        case rel =>
          obtain ⟨h2, hgr, hmv⟩ := HG.out
          have hlen : (lowB v (k + 1)).length = (lowB v k).length + 1 := by rw [HC.out]; simp
          refine ⟨k + 1, by omega, by go_num, ?_, ⟨?_, fun j hj => ?_, (HR.out.still.alloc _).grown hgr (fun j hj e => ?_)⟩⟩
          · rw [← HD.out]; simp
          · rw [hlen, HC.out]
            simpa [u8s, Go.Proofs.YtlkknekflgclgaaGreatDoor.u8] using h2
          · have h5 := HR.out.still.size
            rcases hmv j hj with e | e
            · exact HR.out.new j e
            · rw [World.size_alloc] at e; omega
          · have := HR.out.new j e; omega
    · obtain rfl : k = n := by omega
      have hk1 : ¬ (k : Int) < (k : Int) := by omega
      have hcv := conv_bytes wr _ _ HR.out.own
      go_wp2_with fail
      go_ret
      exact ⟨rfl, HR.out.still⟩
theorem str_app (a b : Bytes) : Value.string (({ data := a.toArray } : ByteArray) ++ { data := b.toArray }) = str (a ++ b) := by
  congr 1
/-- A text with its length ahead. -/
def textL (s : Bytes) : Bytes := lowB s.length 2 ++ s
set_option maxRecDepth 100000 in
theorem RText_is (w : World) (s : Bytes) (hs : s.length ≤ 65535) : Calls Tryz.prog 152 #[str s] w fun e w' => e = .returned (.tuple #[str (textL s), .bool true]) ∧ Only (fun _ => False) w w' := by
  have HL : Hid (Calls Tryz.prog 13 #[.int .u64 (s.length : Int), .int .i64 2] w fun e w' => e = .returned (str (lowB s.length 2)) ∧ Only (fun _ => False) w w') := Lib.hid (Low_is w s.length 2 (by omega) (by omega))
  have hw : IntKind.u64.wrap (s.length : Int) = (s.length : Int) := by
    simp [IntKind.wrap, IntKind.signed, IntKind.bits]; omega
  have hk : (s.length : Int) ≤ 65535 := by omega
  have hcc : (lowB s.length 2).length + s.length ≤ 9223372036854775807 := by rw [lowB_length]; omega
  have hcd : ¬ 9223372036854775807 < (lowB s.length 2).length + s.length := by omega
  go_enter Tryz.func152, Tryz.ntmps152
  go_wp2_with fail
  (with_reducible refine HL.out.mono ?_)
  rintro e w2 ⟨rfl, o2⟩
  have HO := Lib.hid o2
  clear o2
  go_wp2_with fail
  go_ret2
  refine ⟨?_, HO.out⟩
  rw [textL, ← str_app]
  rfl
def nameL (p k : Bytes) : Bytes := textL p ++ textL k
set_option maxRecDepth 100000 in
theorem RName_is (w : World) (p k : Bytes) (hp : p.length ≤ 65535) (hk : k.length ≤ 65535) : Calls Tryz.prog 94 #[str p, str k] w fun e w' => e = .returned (str (nameL p k)) ∧ Only (fun _ => False) w w' := by
  have HP := Lib.hid (RText_is w p hp)
  have HK := Lib.hid (fun W => RText_is W k hk)
  have hcd : ¬ 9223372036854775807 < (textL p).length + (textL k).length := by simp only [textL, List.length_append, lowB_length]; omega
  go_enter Tryz.func94, Tryz.ntmps94
  go_wp2_with fail
  (with_reducible refine HP.out.mono ?_)
  rintro e w2 ⟨rfl, o2⟩
  have HO := Lib.hid o2
  clear o2
  go_wp2_with fail
  (with_reducible refine (HK.out _).mono ?_)
  rintro e w3 ⟨rfl, o3⟩
  have HO3 := Lib.hid (HO.out.trans o3 (fun _ _ q => q))
  clear o3
  go_wp2_with fail
  go_ret
  refine ⟨?_, HO3.out⟩
  rw [nameL, ← str_app]
  rfl
theorem textL_fit (s : PutS) (t : Bytes) (he : s.e = 0) (ht : t.length < 65536) : textS s t = ⟨s.bs ++ textL t, 0⟩ := by
  unfold textS rawS
  rw [if_neg (by simpa using he), if_neg (by omega), smallS_fit s t.length 2 he (by omega), if_neg (by simp)]
  simp [textL]
theorem put_freshL (w : World) (ty : TypeId) : PutNew (fun _ => False) w (w.alloc (.cells #[.slice none 0 0, .int .i64 0] ty)) w.heap.size ⟨[], 0⟩ := by
  refine ⟨.slice none 0 0, ?_, ?_, ⟨rfl, .inl ⟨rfl, rfl⟩⟩, by simp [Value.ownBlock], ?_, ?_, fun q => by omega, fun k q => by simp [Value.ownBlock] at q, (Only.refl _ w).alloc _⟩
  · exact blk_cell (blk_new w _) 0
  · exact blk_cell (blk_new w _) 1
  · exact blk_frozen (blk_new w _) 0
  · exact blk_frozen (blk_new w _) 1
set_option maxRecDepth 100000 in
theorem name_is (w : World) (p k : Bytes) (hp : p.length ≤ 65535) (hk : k.length ≤ 65535) : Calls Tryz.prog 173 #[str p, str k] w fun e w' => e = .returned (str (nameL p k)) ∧ Only (fun _ => False) w w' := by
  have h1 : textS ⟨[], 0⟩ p = ⟨textL p, 0⟩ := by rw [textL_fit _ _ rfl (by omega)]; rfl
  have hl : (textL p).length = 2 + p.length := by simp only [textL, List.length_append, lowB_length]
  have h2 : textS ⟨textL p, 0⟩ k = ⟨nameL p k, 0⟩ := by rw [textL_fit _ _ rfl (by omega)]; rfl
  have HA := Lib.hid (h1 ▸ Text_new _ w _ _ _ p (put_freshL w 97) (by simp) (by omega))
  have HB := Lib.hid (fun W (h : PutNew (fun _ => False) w W w.heap.size ⟨textL p, 0⟩) => h2 ▸ Text_new _ w W _ _ k h (by simp only [hl]; omega) (by omega))
  have HE := Lib.hid (fun W (h : PutNew (fun _ => False) w W w.heap.size ⟨nameL p k, 0⟩) => End_new _ w W _ _ h)
  clear h1 h2 hl
  go_enter Tryz.func173, Tryz.ntmps173
  go_wp2_with fail
  (with_reducible refine HA.out.mono ?_)
  rintro e w2 ⟨rfl, q2⟩
  have Q2 := Lib.hid q2
  clear q2
  go_wp2_with fail
  (with_reducible refine (HB.out _ Q2.out).mono ?_)
  rintro e w3 ⟨rfl, q3⟩
  have Q3 := Lib.hid q3
  have HS3 := Lib.hid (q3.choose_spec.since)
  clear q3
  go_wp2_with fail
  (with_reducible refine (HE.out _ Q3.out).mono ?_)
  rintro e w4 ⟨rfl, o4⟩
  have HO := Lib.hid (HS3.out.trans o4 (fun _ _ q => q))
  clear o4
  go_wp2_with fail
  go_ret
  exact ⟨rfl, HO.out⟩
end Go.Proofs.YtlkknekflgclgaaGreatDoor
