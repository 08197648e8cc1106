/- Package cmd: which texts are its own; keys; numbers as texts. Conditions: one goroutine; the table of powers of ten is laid. -/
import Derived.Test.YtlkknekflgclgaaGreatDoorZCmd2
import Derived.Test.YtlkknekflgclgaaGreatDoorZNumP
import Derived.Test.YtlkknekflgclgaaGreatDoorZShel
namespace Go.Proofs.YtlkknekflgclgaaGreatDoor
open Go.RowKit

theorem only_grow (w : World) (k : Nat) (os : Array Obj) : Only (fun _ => False) w (Go.Sort.grow (w.drewN k) os) := by
  have h := (Only.refl (fun _ => False) w).drewN k
  refine ⟨h.os, h.tape, h.output, ?_, fun i hi _ => ?_⟩
  · show w.heap.size ≤ (w.heap ++ os).size
    simp
  · show (w.heap ++ os)[i]? = w.heap[i]?
    rw [Array.getElem?_append_left hi]
/-- Is this text one of cmd's own: one that begins with a byte nought? -/
def ownS (s : Bytes) : Bool := Lib.hasPrefix s [0]
theorem own_is (w : World) (s : Bytes) : Calls Tryz.prog 191 #[str s] w fun e w' => e = .returned (.bool (ownS s)) ∧ w = w' := by
  have HP := Lib.hid (strings_HasPrefix ⟨s.toArray⟩ ⟨#[0]⟩ w)
  go_enter Tryz.func191, Tryz.ntmps191
  go_wp2_with fail
  (with_reducible refine HP.out.mono ?_)
  rintro e _ ⟨rfl, rfl⟩
  go_wp2_with fail
  go_ret
  exact ⟨rfl, rfl⟩
theorem cut_is (w : World) (s : Bytes) : Calls Tryz.prog 209 #[str s, .string ⟨#[45]⟩] w fun e w' => e = .returned (.tuple #[str (cutS s).1, .bool (cutS s).2]) ∧ w = w' := by
  refine (strings_CutPrefix ⟨s.toArray⟩ ⟨#[45]⟩ w).mono ?_
  rintro e _ ⟨rfl, rfl⟩
  refine ⟨?_, rfl⟩
  congr 2
  cases s with
  | nil => rfl
  | cons c r =>
    by_cases h : c = 45
    · subst h; rfl
    · have h2 : ¬ (45 : UInt8) = c := fun q => h q.symm
      simp [Lib.trimPrefix, Lib.hasPrefix, cutS, h, h2, List.isPrefixOf, str]
theorem Digits_is (w : World) (v : Int) (h : -9223372036854775808 ≤ v ∧ v ≤ 9223372036854775807) (ht : Lib.TabIs Tryz.prog w "internal/strconv.uint64pow10" .u64 Lib.pow10Tab) : Calls Tryz.prog 169 #[.int .i64 v] w fun e w' => e = .returned (str (Lib.itoa v)) ∧ Only (fun _ => False) w w' := by
  have HP := Lib.hid (strconv_Itoa v h.1 h.2 w ht)
  go_enter Tryz.func169, Tryz.ntmps169
  go_wp2_with fail
  (with_reducible refine HP.out.mono ?_)
  rintro e _ ⟨rfl, k, os, rfl⟩
  have HO := Lib.hid (only_grow w k os)
  go_wp2_with fail
  go_ret
  exact ⟨rfl, HO.out⟩
def keyErr (s : Bytes) : Int := if s.length < 1 ∨ 32 < s.length ∨ ownS s = true then 1 else 0
set_option maxRecDepth 100000 in
theorem key_is (w : World) (s : Bytes) (_hs : s.length ≤ maxLen) : Calls Tryz.prog 170 #[str s] w fun e w' => e = .returned (.int .i64 (keyErr s)) ∧ w = w' := by
  have HP := Lib.hid (own_is w s)
  go_enter Tryz.func170, Tryz.ntmps170
  go_wp2_with fail
  · (with_reducible refine HP.out.mono ?_)
    rintro e _ ⟨rfl, rfl⟩
    cases ho : ownS s with
    | true =>
      have hk := Lib.hid (show keyErr s = 1 from if_pos (.inr (.inr ho)))
      clear ho
      go_wp2_with fail
      go_ret
      exact ⟨by rw [hk.out]; rfl, rfl⟩
    | false =>
      rename_i h1 h2
      have hk := Lib.hid (show keyErr s = 0 from if_neg (by rw [ho]; rintro (q | q | q) <;> first | omega | cases q))
      clear ho
      go_wp2_with fail
      go_ret
      exact ⟨by rw [hk.out]; rfl, rfl⟩
  · rename_i h1 h2
    have hk := Lib.hid (show keyErr s = 1 from if_pos (by omega))
    go_ret
    exact ⟨by rw [hk.out]; rfl, rfl⟩
  · rename_i h1
    have hk := Lib.hid (show keyErr s = 1 from if_pos (by omega))
    go_ret
    exact ⟨by rw [hk.out]; rfl, rfl⟩
theorem getD_at (l : Bytes) (i : Nat) (hi : i < l.length) : l[i]? = some l[i] := List.getElem?_eq_getElem hi
def numRes (s : Bytes) : Value := match numS s with | some v => .tuple #[.int .i64 v, .int .i64 0] | none => .tuple #[.int .i64 0, .int .i64 1]
theorem numRes_bad {s d : Bytes} {b : Bool} (hc : cutS s = (d, b)) (h : badS d b = true) : numRes s = .tuple #[.int .i64 0, .int .i64 1] := by
  unfold numRes numS
  rw [hc, if_pos h]
theorem numRes_good {s d : Bytes} {b : Bool} (hc : cutS s = (d, b)) (h : badS d b = false) : numRes s = .tuple #[.int .i64 (if b = true then -(valD d : Int) else (valD d : Int)), .int .i64 0] := by
  unfold numRes numS
  rw [hc, if_neg (by rw [h]; simp)]
theorem bad_pre {c : UInt8} {d : Bytes} {b : Bool} (h : 18 < d.length + 1 ∨ (c.toNat = 48 ∧ (1 < d.length + 1 ∨ b = true))) : badS (c :: d) b = true := by
  unfold badS
  rcases h with h | ⟨h1, h2⟩
  · rw [decide_eq_true (by simpa using h : 18 < (c :: d).length)]; simp
  · have : c = 48 := UInt8.toNat_inj.1 h1
    subst this
    rcases h2 with h2 | h2
    · rw [decide_eq_true (by simpa using h2 : 1 < ((48 : UInt8) :: d).length)]; simp
    · rw [h2]; simp
theorem bad_all {c : UInt8} {d : Bytes} {b : Bool} (h : ¬ (18 < d.length + 1 ∨ (c.toNat = 48 ∧ (1 < d.length + 1 ∨ b = true)))) : badS (c :: d) b = !(c :: d).all isD := by
  have h1 : decide (18 < (c :: d).length) = false := decide_eq_false (fun q => h (.inl q))
  have h2 : (decide ((c :: d).head? = some 48) && (decide (1 < (c :: d).length) || b)) = false := by
    apply Bool.eq_false_iff.2
    intro q
    simp only [List.head?_cons, Option.some.injEq, Bool.and_eq_true, decide_eq_true_eq, Bool.or_eq_true, List.length_cons] at q
    exact h (.inr ⟨by rw [q.1]; rfl, q.2⟩)
  unfold badS
  rw [h1, h2]
  simp
theorem valD_lt {l : Bytes} (h : l.all isD = true) : valD l < 10 ^ l.length := by
  have key : ∀ n, ∀ l : Bytes, l.length = n → l.all isD = true → valD l < 10 ^ l.length := by
    intro n
    induction n with
    | zero => intro l hl _; rw [List.length_eq_zero_iff.1 hl]; decide
    | succ n ih =>
      intro l hl hall
      have hne : l ≠ [] := by rintro rfl; cases hl
      obtain ⟨a, x, rfl⟩ : ∃ a x, l = a ++ [x] := ⟨l.dropLast, l.getLast hne, (List.dropLast_concat_getLast hne).symm⟩
      rw [List.all_append, Bool.and_eq_true] at hall
      have hx : x.toNat ≤ 57 := by
        have := hall.2
        simp [isD] at this
        omega
      have := ih a (by simpa using hl) hall.1
      rw [valD_snoc, List.length_append, List.length_singleton, Nat.pow_succ]
      omega
  exact key _ l rfl h
set_option maxRecDepth 100000 in
theorem Number_is (w : World) (s : Bytes) (hs : s.length ≤ maxLen) : Calls Tryz.prog 194 #[str s] w fun e w' => e = .returned (numRes s) ∧ w = w' := by
  have HP := cut_is w s
  obtain ⟨d, b, hc⟩ : ∃ d b, cutS s = (d, b) := ⟨_, _, rfl⟩
  have hd : d.length ≤ maxLen := by
    have : d.length ≤ s.length := by
      have h1 : d = (cutS s).1 := by rw [hc]
      rw [h1]
      unfold cutS
      split
      · split
        · exact Nat.le_succ _
        · exact Nat.le_refl _
      · exact Nat.le_refl _
    omega
  rw [hc] at HP
  have HB := Lib.hid (@numRes_bad s d b hc)
  have HG := Lib.hid (@numRes_good s d b hc)
  have HQ := Lib.hid HP
  clear HP hc
  cases d with
  | nil =>
    go_enter Tryz.func194, Tryz.ntmps194
    go_wp2_with fail
    (with_reducible refine HQ.out.mono ?_)
    rintro e _ ⟨rfl, rfl⟩
    go_wp2_with fail
    go_ret2
    exact ⟨by rw [HB.out rfl]; rfl, rfl⟩
  | cons c d =>
    have hi : (str (c :: d)) = str (c :: d) := rfl
    go_enter Tryz.func194, Tryz.ntmps194
    go_wp2_with fail
    (with_reducible refine HQ.out.mono ?_)
    rintro e _ ⟨rfl, rfl⟩
    go_wp2_with fail
    · rename_i h1 h2 h3 h4
      have hx : (c.toNat : Int) = 48 := h2
      have hk := Lib.hid (HB.out (bad_pre (c := c) (d := d) (b := b) (by
        rcases h4 with h4 | h4 | h4
        · omega
        · omega
        · exact .inr ⟨by omega, .inr h4⟩)))
      go_ret2
      exact ⟨by rw [hk.out]; rfl, rfl⟩
    · rename_i h1 h2 h3 h4 kk ka
      have hx : (c.toNat : Int) = 48 := h2
      have hk := Lib.hid (bad_all (c := c) (d := d) (b := b) (by
        rintro (q | ⟨_, q | q⟩)
        · omega
        · omega
        · rw [h4.2.2] at q; cases q))
      clear h4
      go_loopg [6, 35] (d.length + 1) (fun gh vv iv wr => w = wr ∧ ∃ n : Nat, gh + n = d.length + 1 ∧ iv = .int .i64 (n : Int) ∧ vv = .int .i64 (valD ((c :: d).take n) : Int) ∧ ((c :: d).take n).all isD = true)
      case atStart => exact ⟨rfl, 0, rfl, rfl, rfl, rfl⟩
      case round =>
        obtain ⟨rfl, n, hn, rfl, rfl, hall⟩ := hrel
        have hV := valD_lt hall
        have hlen : ((c :: d).take n).length = n := by simp; omega
        rw [hlen] at hV
        have hb : valD ((c :: d).take n) < 10 ^ 18 := Nat.lt_of_lt_of_le hV (Nat.pow_le_pow_right (by omega) (by omega))
        have hb17 : n < d.length + 1 → valD ((c :: d).take n) < 10 ^ 17 := fun q => Nat.lt_of_lt_of_le hV (Nat.pow_le_pow_right (by omega) (by omega))
        have HS : Hid (∀ x, (c :: d)[n]? = some x → valD ((c :: d).take (n + 1)) = 10 * valD ((c :: d).take n) + (x.toNat - 48) ∧ (isD x = true → ((c :: d).take (n + 1)).all isD = true) ∧ (isD x = false → (c :: d).all isD = false)) := Lib.hid (fun x hx => by
          have e : (c :: d).take (n + 1) = (c :: d).take n ++ [x] := by rw [List.take_add_one, hx]; rfl
          refine ⟨by rw [e, valD_snoc], fun q => by rw [e, List.all_append, hall]; simp [q], fun q => ?_⟩
          apply Bool.eq_false_iff.2
          intro r
          have := List.all_eq_true.1 r x (List.mem_of_getElem? hx)
          rw [q] at this; cases this)
        have HL : Hid (n = d.length + 1 → valD ((c :: d).take n) = valD (c :: d) ∧ (c :: d).all isD = true) := Lib.hid (fun q => by
          have e : (c :: d).take n = c :: d := List.take_of_length_le (by simp; omega)
          exact ⟨by rw [e], by rw [← e]; exact hall⟩)
        generalize hV0 : valD ((c :: d).take n) = V at *
        clear hall hV0 hV hlen
        rcases Nat.lt_or_ge n (d.length + 1) with hlt | hge
        · have hlt2 : (n : Int) < (d.length : Int) + 1 := by omega
          obtain ⟨x, hx⟩ : ∃ x, (c :: d)[n]? = some x := ⟨_, List.getElem?_eq_getElem hlt⟩
          have hxe : (c :: d)[n] = x := Option.some.inj ((List.getElem?_eq_getElem hlt).symm.trans hx)
          obtain ⟨s1, s2, s3⟩ := HS.out x hx
          have HX := Lib.hid hxe
          have H1 := Lib.hid s1
          have H2 := Lib.hid s2
          have H3 := Lib.hid s3
          have hb17 := hb17 hlt
          have hw1 : wrap64 (10 * (V : Int)) = 10 * (V : Int) := by unfold wrap64; omega
          clear s1 s2 s3 hxe hx
          go_wp2_with fail
          · rename_i q1 q2
            have q3 : (x.toNat : Int) < 48 ∨ 57 < (x.toNat : Int) := by rw [← HX.out]; exact q2
            have hk2 := Lib.hid (HB.out (by rw [hk.out, H3.out (by unfold isD; exact decide_eq_false (by omega))]; rfl))
            go_ret2
            exact ⟨by rw [hk2.out]; rfl, rfl⟩
          · rename_i q1 q2
            have q3 : 48 ≤ (x.toNat : Int) ∧ (x.toNat : Int) ≤ 57 := by rw [← HX.out]; exact q2
            go_roundg (gk - 1)
            case measure => omega
            case rel => exact ⟨rfl, n + 1, by omega, by go_num, by
              rw [H1.out]
              have e1 : ((({ data := (c :: d).toArray } : ByteArray)[n]'hlt).toNat : Int) = (x.toNat : Int) := by rw [← HX.out]; rfl
              have e2 : 10 * (V : Int) + ((x.toNat : Int) - 48) = ((10 * V + (x.toNat - 48) : Nat) : Int) := by omega
              show Value.int .i64 (10 * (V : Int) + (((({ data := (c :: d).toArray } : ByteArray)[n]'hlt).toNat : Int) - 48)) = _
              rw [e1, e2], H2.out (by unfold isD; exact decide_eq_true (by omega))⟩
          · rename_i q1
            have q3 : (x.toNat : Int) < 48 := by rw [← HX.out]; exact q1
            have hk2 := Lib.hid (HB.out (by rw [hk.out, H3.out (by unfold isD; exact decide_eq_false (by omega))]; rfl))
            go_ret2
            exact ⟨by rw [hk2.out]; rfl, rfl⟩
        · have hge2 : ¬ (n : Int) < (d.length : Int) + 1 := by omega
          obtain ⟨l1, l2⟩ := HL.out (by omega)
          have hk2 := Lib.hid (HG.out (by rw [hk.out, l2]; rfl))
          have L1 := Lib.hid l1
          have hw2 : wrap64 (-(V : Int)) = -(V : Int) := by unfold wrap64; omega
          clear l1 l2
          go_wp2_with fail
          · rename_i q
            go_ret2
            exact ⟨by rw [hk2.out, ← L1.out, if_pos q]; rfl, rfl⟩
          · rename_i q
            go_ret2
            exact ⟨by rw [hk2.out, ← L1.out, q]; rfl, rfl⟩
    · rename_i h1 h2 h3
      have hx : (c.toNat : Int) = 48 := h2
      have hk := Lib.hid (HB.out (bad_pre (c := c) (d := d) (b := b) (.inr ⟨by omega, .inl (by omega)⟩)))
      go_ret2
      exact ⟨by rw [hk.out]; rfl, rfl⟩
    · rename_i h1 h2 h3 kk ka
      have hk := Lib.hid (bad_all (c := c) (d := d) (b := b) (by
        rintro (q | ⟨q, _⟩)
        · omega
        · exact h2 (by show (c.toNat : Int) = 48; omega)))
      go_loopg [6, 35] (d.length + 1) (fun gh vv iv wr => w = wr ∧ ∃ n : Nat, gh + n = d.length + 1 ∧ iv = .int .i64 (n : Int) ∧ vv = .int .i64 (valD ((c :: d).take n) : Int) ∧ ((c :: d).take n).all isD = true)
      case atStart => exact ⟨rfl, 0, rfl, rfl, rfl, rfl⟩
      case round =>
        obtain ⟨rfl, n, hn, rfl, rfl, hall⟩ := hrel
        have hV := valD_lt hall
        have hlen : ((c :: d).take n).length = n := by simp; omega
        rw [hlen] at hV
        have hb : valD ((c :: d).take n) < 10 ^ 18 := Nat.lt_of_lt_of_le hV (Nat.pow_le_pow_right (by omega) (by omega))
        have hb17 : n < d.length + 1 → valD ((c :: d).take n) < 10 ^ 17 := fun q => Nat.lt_of_lt_of_le hV (Nat.pow_le_pow_right (by omega) (by omega))
        have HS : Hid (∀ x, (c :: d)[n]? = some x → valD ((c :: d).take (n + 1)) = 10 * valD ((c :: d).take n) + (x.toNat - 48) ∧ (isD x = true → ((c :: d).take (n + 1)).all isD = true) ∧ (isD x = false → (c :: d).all isD = false)) := Lib.hid (fun x hx => by
          have e : (c :: d).take (n + 1) = (c :: d).take n ++ [x] := by rw [List.take_add_one, hx]; rfl
          refine ⟨by rw [e, valD_snoc], fun q => by rw [e, List.all_append, hall]; simp [q], fun q => ?_⟩
          apply Bool.eq_false_iff.2
          intro r
          have := List.all_eq_true.1 r x (List.mem_of_getElem? hx)
          rw [q] at this; cases this)
        have HL : Hid (n = d.length + 1 → valD ((c :: d).take n) = valD (c :: d) ∧ (c :: d).all isD = true) := Lib.hid (fun q => by
          have e : (c :: d).take n = c :: d := List.take_of_length_le (by simp; omega)
          exact ⟨by rw [e], by rw [← e]; exact hall⟩)
        generalize hV0 : valD ((c :: d).take n) = V at *
        clear hall hV0 hV hlen
        rcases Nat.lt_or_ge n (d.length + 1) with hlt | hge
        · have hlt2 : (n : Int) < (d.length : Int) + 1 := by omega
          obtain ⟨x, hx⟩ : ∃ x, (c :: d)[n]? = some x := ⟨_, List.getElem?_eq_getElem hlt⟩
          have hxe : (c :: d)[n] = x := Option.some.inj ((List.getElem?_eq_getElem hlt).symm.trans hx)
          obtain ⟨s1, s2, s3⟩ := HS.out x hx
          have HX := Lib.hid hxe
          have H1 := Lib.hid s1
          have H2 := Lib.hid s2
          have H3 := Lib.hid s3
          have hb17 := hb17 hlt
          have hw1 : wrap64 (10 * (V : Int)) = 10 * (V : Int) := by unfold wrap64; omega
          clear s1 s2 s3 hxe hx
          go_wp2_with fail
          · rename_i q1 q2
            have q3 : (x.toNat : Int) < 48 ∨ 57 < (x.toNat : Int) := by rw [← HX.out]; exact q2
            have hk2 := Lib.hid (HB.out (by rw [hk.out, H3.out (by unfold isD; exact decide_eq_false (by omega))]; rfl))
            go_ret2
            exact ⟨by rw [hk2.out]; rfl, rfl⟩
          · rename_i q1 q2
            have q3 : 48 ≤ (x.toNat : Int) ∧ (x.toNat : Int) ≤ 57 := by rw [← HX.out]; exact q2
            go_roundg (gk - 1)
            case measure => omega
            case rel => exact ⟨rfl, n + 1, by omega, by go_num, by
              rw [H1.out]
              have e1 : ((({ data := (c :: d).toArray } : ByteArray)[n]'hlt).toNat : Int) = (x.toNat : Int) := by rw [← HX.out]; rfl
              have e2 : 10 * (V : Int) + ((x.toNat : Int) - 48) = ((10 * V + (x.toNat - 48) : Nat) : Int) := by omega
              show Value.int .i64 (10 * (V : Int) + (((({ data := (c :: d).toArray } : ByteArray)[n]'hlt).toNat : Int) - 48)) = _
              rw [e1, e2], H2.out (by unfold isD; exact decide_eq_true (by omega))⟩
          · rename_i q1
            have q3 : (x.toNat : Int) < 48 := by rw [← HX.out]; exact q1
            have hk2 := Lib.hid (HB.out (by rw [hk.out, H3.out (by unfold isD; exact decide_eq_false (by omega))]; rfl))
            go_ret2
            exact ⟨by rw [hk2.out]; rfl, rfl⟩
        · have hge2 : ¬ (n : Int) < (d.length : Int) + 1 := by omega
          obtain ⟨l1, l2⟩ := HL.out (by omega)
          have hk2 := Lib.hid (HG.out (by rw [hk.out, l2]; rfl))
          have L1 := Lib.hid l1
          have hw2 : wrap64 (-(V : Int)) = -(V : Int) := by unfold wrap64; omega
          clear l1 l2
          go_wp2_with fail
          · rename_i q
            go_ret2
            exact ⟨by rw [hk2.out, ← L1.out, if_pos q]; rfl, rfl⟩
          · rename_i q
            go_ret2
            exact ⟨by rw [hk2.out, ← L1.out, q]; rfl, rfl⟩
    · rename_i h1
      have hk := Lib.hid (HB.out (bad_pre (c := c) (d := d) (b := b) (.inl (by omega))))
      go_ret2
      exact ⟨by rw [hk.out]; rfl, rfl⟩
end Go.Proofs.YtlkknekflgclgaaGreatDoor
