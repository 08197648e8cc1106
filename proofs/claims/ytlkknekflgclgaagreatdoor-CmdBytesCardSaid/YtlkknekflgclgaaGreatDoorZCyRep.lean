/- The document's own answer: a number in two bytes, if it fits. Conditions: one goroutine. -/
import Derived.Test.YtlkknekflgclgaaGreatDoorZCmd9
import Derived.Test.YtlkknekflgclgaaGreatDoorZCyR
import Derived.Test.YtlkknekflgclgaaGreatDoorZCyLay
import Derived.Test.YtlkknekflgclgaaGreatDoorZCq5
namespace Go.Proofs.YtlkknekflgclgaaGreatDoor
open Go.RowKit

set_option maxRecDepth 100000 in
set_option maxHeartbeats 1000000 in
theorem RFit_out (w : World) (v : Int) (h : v < 0 ∨ 65535 < v) (hv : v ≤ 9223372036854775807) : Calls Tryz.prog 120 #[.int .i64 v, .int .i64 2] w fun e w' => e = .returned (.tuple #[.string ⟨#[]⟩, .bool false]) ∧ w = w' := by
  by_cases h0 : v < 0
  · clear h
    go_enter Tryz.func120, Tryz.ntmps120
    go_wp2_with fail
    go_ret2
    exact ⟨rfl, rfl⟩
  · obtain ⟨n, rfl⟩ := Int.eq_ofNat_of_zero_le (show 0 ≤ v by omega)
    have x1 : IntKind.u64.wrap (n : Int) = (n : Int) := by simp [IntKind.wrap, IntKind.signed, IntKind.bits]; omega
    have e1 : decide ((n : Int) < 0) = false := decide_eq_false (by omega)
    have e2 : decide ((65536 : Int) ≤ (n : Int)) = true := decide_eq_true (by omega)
    clear h h0
    go_enter Tryz.func120, Tryz.ntmps120
    go_wp2_with fail
    go_ret2
    exact ⟨rfl, rfl⟩
set_option maxRecDepth 100000 in
set_option maxHeartbeats 1000000 in
theorem RFit_in (w : World) (n : Nat) (hn : n ≤ 65535) : Calls Tryz.prog 120 #[.int .i64 (n : Int), .int .i64 2] w fun e w' => e = .returned (.tuple #[str (lowB n 2), .bool true]) ∧ Only (fun _ => False) w w' := by
  have HL : Hid (Calls Tryz.prog 13 #[.int .u64 (n : Int), .int .i64 2] w fun e w' => e = .returned (str (lowB n 2)) ∧ Only (fun _ => False) w w') := Lib.hid (Low_is w n 2 (by omega) (by omega))
  have x1 : IntKind.u64.wrap (n : Int) = (n : Int) := by simp [IntKind.wrap, IntKind.signed, IntKind.bits]; omega
  have e1 : decide ((n : Int) < 0) = false := decide_eq_false (by omega)
  have e2 : decide ((65536 : Int) ≤ (n : Int)) = false := decide_eq_false (by omega)
  have e3 : decide (65536 ≤ n) = false := decide_eq_false (by omega)
  clear hn
  go_enter Tryz.func120, Tryz.ntmps120
  go_wp2_with fail
  (with_reducible refine HL.out.mono ?_)
  rintro e w2 ⟨rfl, o2⟩
  have HO := Lib.hid o2
  clear o2
  go_wp2_with fail
  go_ret2
  exact ⟨rfl, HO.out⟩
end Go.Proofs.YtlkknekflgclgaaGreatDoor

namespace Go.Proofs.YtlkknekflgclgaaGreatDoor
open Go.RowKit Go.MuLone

theorem row_take {α : Type} {enc : α → List Value} {k : Nat} {w : World} {a : Option Addr} {n c : Nat} {l : List α} (h : RowAt enc k w (.slice a n c) l) (j : Nat) : RowAt enc k w (.slice a (l.take j).length c) (l.take j) := by
  cases h with
  | none => simpa using (RowAt.none (enc := enc) (k := k) (w := w))
  | some g off _ _ hc =>
    refine .some g off c (l.take j) (fun i x q u hx hu => ?_)
    rw [List.getElem?_take] at hx
    split at hx
    · exact hc i x q u hx hu
    · cases hx
def ErrOk (e : Int) : Prop := e ≤ 9223372036854775807
set_option maxRecDepth 100000 in
set_option maxHeartbeats 4000000 in
theorem RReplies_is (w : World) (l : List Rp) (a : Option Addr) (cap : Nat) (hv : RowAt rpC 2 w (.slice a l.length cap) l) (hc : l.length ≤ cap) (hn : l.length ≤ 9223372036854775807) (he : ∀ x ∈ l, ErrOk x.err) :
    Calls Tryz.prog 39 #[.slice a l.length cap] w fun e w' => e = .returned (str (repliesB l)) ∧ Only (fun _ => False) w w' := by
  obtain ⟨m, hm1, hm2⟩ : ∃ m : Nat, min (l.length : Int) 255 = (m : Int) ∧ m = (l.take 255).length := ⟨min l.length 255, by omega, by rw [List.length_take]; omega⟩
  have hm0 : max (m : Int) 0 = (m : Int) := by omega
  have hr : repliesB l = lowB m 1 ++ (l.take 255).flatMap rpB := by
    unfold repliesB
    rw [hm2, List.length_take, Nat.min_comm]
  have HV := Lib.hid (row_take hv 255)
  have HE : Hid (∀ x ∈ l.take 255, ErrOk x.err) := Lib.hid (fun x hx => he x (List.mem_of_mem_take hx))
  have hmb : m ≤ 255 := by omega
  rw [hr]
  have HM := Lib.hid hm2
  clear hr he hm2
  generalize l.take 255 = L at *
  go_enter Tryz.func39, Tryz.ntmps39
  clear hv
  go_wp2_with fail
  try simp only [hm1, hm0, Int.toNat_natCast]
  rw [← HM.out] at HV
  clear hm1 hm0 hc hn
  have hmm := HM.out
  subst hmm
  have HL : Hid (Calls Tryz.prog 13 #[.int .u64 (L.length : Int), .int .i64 1] w fun e w' => e = .returned (str (lowB L.length 1)) ∧ Only (fun _ => False) w w') := Lib.hid (Low_is w L.length 1 (by omega) (by omega))
  (with_reducible refine HL.out.mono ?_)
  rintro e w1 ⟨rfl, o1⟩
  have HO1 := Lib.hid o1
  have HV1 := Lib.hid (row_still HV.out o1)
  clear HL HV o1
  go_wp2_with fail
  have HMB := Lib.hid hmb
  clear hmb
  go_loopg [3, 4] L.length (fun gh sv iv wr => ∃ i : Nat, gh + i = L.length ∧ iv = .int .i64 i ∧ sv = .string ⟨(lowB L.length 1 ++ (L.take i).flatMap rpB).toArray⟩ ∧ (lowB L.length 1 ++ (L.take i).flatMap rpB).length ≤ 1 + i * 70000 ∧ Only (fun _ => False) w1 wr)
  case atStart => exact ⟨0, by omega, rfl, by simp, by simp [lowB_length], Only.refl _ _⟩
  case round =>
    obtain ⟨i, hgk, rfl, rfl, hlen, ho⟩ := hrel
    have HOw := Lib.hid ho
    have HT : Hid (∀ x, L[i]? = some x → (lowB L.length 1 ++ (L.take (i + 1)).flatMap rpB) = (lowB L.length 1 ++ (L.take i).flatMap rpB) ++ rpB x) := Lib.hid (fun x hx => by
      rw [List.take_add_one, hx]
      simp [List.flatMap_append])
    have HEQ : Hid (i = L.length → lowB L.length 1 ++ (L.take i).flatMap rpB = lowB L.length 1 ++ L.flatMap rpB) := Lib.hid (fun h => by rw [h, List.take_length])
    generalize hte : lowB L.length 1 ++ (L.take (i + 1)).flatMap rpB = T2 at *
    have HTE := Lib.hid hte
    clear hte
    generalize lowB L.length 1 ++ (L.take i).flatMap rpB = T at *
    clear ho
    by_cases hi : i < L.length
    · obtain ⟨x, hx⟩ : ∃ x, L[i]? = some x := ⟨_, List.getElem?_eq_getElem (by omega)⟩
      obtain ⟨_, _, hA, hne⟩ := row_len HV1.out
      cases hA
      obtain ⟨g, off, rfl⟩ := hne (fun e => by rw [e] at hx; simp at hx)
      obtain ⟨c0, c1⟩ := rp_at (row_still HV1.out HOw.out) hx
      have hT := HT.out x hx
      have hxe := HE.out x (List.mem_of_getElem? hx)
      unfold ErrOk at hxe
      have hi1 : (i : Int) < (L.length : Int) := by omega
      have hi0 : (0 : Int) ≤ (i : Int) := by omega
      have hwi : IntKind.i64.wrap ((i : Int) + 1) = (i : Int) + 1 := IntWalk.i64_in _ (by have := HMB.out; omega)
      have hl1 : (lowB (errN x.err) 2).length = 2 := lowB_length _ _
      have hl2 : (textL (x.val.take 65535)).length ≤ 2 + 65535 := by
        simp only [textL, List.length_append, lowB_length, List.length_take]
        omega
      obtain ⟨mm, hmn, hml, hmt⟩ : ∃ mm : Nat, min (x.val.length : Int) 65535 = (mm : Int) ∧ mm ≤ x.val.length ∧ x.val.take mm = x.val.take 65535 := ⟨min x.val.length 65535, by omega, by omega, by
        rcases Nat.le_total x.val.length 65535 with h | h
        · rw [Nat.min_eq_left h, List.take_length, List.take_of_length_le h]
        · rw [Nat.min_eq_right h]⟩
      have HTX : Hid (∀ W, Calls Tryz.prog 110 #[.string ((⟨x.val.toArray⟩ : ByteArray).extract 0 mm)] W fun e w' => e = .returned (str (textL (x.val.take 65535))) ∧ Only (fun _ => False) W w') := Lib.hid (fun W => by
        rw [cut_front, hmt]
        exact Rtext_is W (x.val.take 65535) (by rw [List.length_take]; omega))
      have HT3 : Hid (T2 = T ++ lowB (errN x.err) 2 ++ textL (x.val.take 65535)) := Lib.hid (by rw [hT]; simp [rpB])
      have HT2 : Hid (T2.length ≤ 1 + (i + 1) * 70000) := Lib.hid (by rw [HT3.out]; simp only [List.length_append]; omega)
      have HS : Hid (∀ W, Only (fun _ => False) wr W → ∀ p : Grew W, p.u.cell? ⟨g, off + i * 2 + 1, none⟩ = some (str x.val)) := Lib.hid (fun W hW p => (rp_at (row_still HV1.out (HOw.out.trans (hW.trans p.h (fun _ _ q => q)) (fun _ _ q => q))) hx).2)
      have k1 : ¬ 9223372036854775807 < T.length + (lowB (errN x.err) 2).length := by have := HMB.out; omega
      have k2 : ¬ 9223372036854775807 < T.length + (lowB (errN x.err) 2).length + (textL (x.val.take 65535)).length := by have := HMB.out; omega
      by_cases hb : x.err < 0 ∨ 65535 < x.err
      · have hen : errN x.err = 65535 := if_pos hb
        rw [hen] at HT3 k1 k2
        have HF := Lib.hid (fun W => RFit_out W x.err hb hxe)
        have HLw : Hid (∀ W, Calls Tryz.prog 13 #[.int .u64 65535, .int .i64 2] W fun e w' => e = .returned (str (lowB 65535 2)) ∧ Only (fun _ => False) W w') := Lib.hid (fun W => Low_is W 65535 2 (by omega) (by omega))
        clear hmt hx hT hxe hl1 hl2 hlen HT hen hb
        generalize lowB 65535 2 = A0 at *
        generalize textL (x.val.take 65535) = A1 at *
        go_wp2_with fail
        (with_reducible refine (HF.out _).mono ?_)
        rintro e w3 ⟨rfl, rfl⟩
        go_wp2_with fail
        (with_reducible refine (HLw.out _).mono ?_)
        rintro e w3 ⟨rfl, o3⟩
        have q1 := HS.out w3 o3
        have HO3 := Lib.hid (HOw.out.trans o3 (fun _ _ q => q))
        clear o3 c0 c1 HF HLw
        go_wp2_with fail
        refine wp_region_grew (by kernel_rfl) (by kernel_rfl) (fun _W h0 h1 => ?_)
        repeat (refine h1 _ _ _ (fun K hK => ?_); go_simp; first | (refine hK _ ?_; clear hK K) | (apply Exists.intro; refine ⟨fun p => ?_, hK _ ?_⟩; first | (with_reducible refine Grew.calls _ (HTX.out _)); clear hK K))
        refine h0 _ (fun p => ?_)
        clear h0 h1 q1 HTX k1 k2 HS
        simp only [ba_app]
        rw [← HT3.out]
        go_wp2_with fail
        go_roundg (gk - 1)
        case measure => omega
        case rel => exact ⟨i + 1, by omega, by go_num, by rw [HTE.out], by rw [HTE.out]; exact HT2.out, HO3.out.trans p.h (fun _ _ q => q)⟩
      · obtain ⟨ne, hne2⟩ := Int.eq_ofNat_of_zero_le (show 0 ≤ x.err by omega)
        have hen : errN x.err = ne := by
          unfold errN
          rw [if_neg hb, hne2]
          rfl
        rw [hen] at HT3 k1 k2
        rw [hne2] at c0
        have HF := Lib.hid (fun W => RFit_in W ne (by omega))
        clear hmt hx hT hxe hl1 hl2 hlen HT hen hb hne2
        generalize lowB ne 2 = A0 at *
        generalize textL (x.val.take 65535) = A1 at *
        go_wp2_with fail
        (with_reducible refine (HF.out _).mono ?_)
        rintro e w3 ⟨rfl, o3⟩
        have q1 := HS.out w3 o3
        have HO3 := Lib.hid (HOw.out.trans o3 (fun _ _ q => q))
        clear o3 c0 c1 HF
        go_wp2_with fail
        refine wp_region_grew (by kernel_rfl) (by kernel_rfl) (fun _W h0 h1 => ?_)
        repeat (refine h1 _ _ _ (fun K hK => ?_); go_simp; first | (refine hK _ ?_; clear hK K) | (apply Exists.intro; refine ⟨fun p => ?_, hK _ ?_⟩; first | (with_reducible refine Grew.calls _ (HTX.out _)); clear hK K))
        refine h0 _ (fun p => ?_)
        clear h0 h1 q1 HTX k1 k2 HS
        simp only [ba_app]
        rw [← HT3.out]
        go_wp2_with fail
        go_roundg (gk - 1)
        case measure => omega
        case rel => exact ⟨i + 1, by omega, by go_num, by rw [HTE.out], by rw [HTE.out]; exact HT2.out, HO3.out.trans p.h (fun _ _ q => q)⟩
    · obtain rfl : i = L.length := by omega
      have hi1 : ¬ ((L.length : Int) < (L.length : Int)) := by omega
      have he := HEQ.out rfl
      clear hlen
      go_wp2_with fail
      go_ret
      exact ⟨rfl, HO1.out.trans HOw.out (fun _ _ q => q)⟩
end Go.Proofs.YtlkknekflgclgaaGreatDoor

namespace Go.Proofs.YtlkknekflgclgaaGreatDoor
open Go.RowKit Go.MuLone

theorem rpB_len (x : Rp) : (rpB x).length ≤ 65539 := by
  simp only [rpB, textL, List.length_append, lowB_length, List.length_take]
  omega
theorem rps_len (l : List Rp) : (l.flatMap rpB).length ≤ l.length * 65539 := by
  induction l with
  | nil => simp
  | cons x l ih =>
    have := rpB_len x
    simp only [List.flatMap_cons, List.length_append, List.length_cons]
    omega
set_option maxRecDepth 100000 in
set_option maxHeartbeats 4000000 in
theorem CReplies_is (w : World) (l : List Rp) (a : Option Addr) (cap : Nat) (hv : RowAt rpC 2 w (.slice a l.length cap) l) (hc : l.length ≤ cap) (hn : l.length ≤ 9223372036854775807) (he : ∀ x ∈ l, ErrOk x.err) :
    Calls Tryz.prog 38 #[.slice a l.length cap] w fun e w' => e = .returned (str (repliesB l)) ∧ Only (fun _ => False) w w' := by
  obtain ⟨m, hm1, hm2⟩ : ∃ m : Nat, min (l.length : Int) 255 = (m : Int) ∧ m = (l.take 255).length := ⟨min l.length 255, by omega, by rw [List.length_take]; omega⟩
  have hm0 : max (m : Int) 0 = (m : Int) := by omega
  have hr : repliesB l = lowB m 1 ++ (l.take 255).flatMap rpB := by
    unfold repliesB
    rw [hm2, List.length_take, Nat.min_comm]
  have HV := Lib.hid (row_take hv 255)
  have HE : Hid (∀ x ∈ l.take 255, ErrOk x.err) := Lib.hid (fun x hx => he x (List.mem_of_mem_take hx))
  have hmb : m ≤ 255 := by omega
  rw [hr]
  have HM := Lib.hid hm2
  clear hr he hm2
  generalize l.take 255 = L at *
  go_enter Tryz.func38, Tryz.ntmps38
  clear hv
  go_wp2_with fail
  try simp only [hm1, hm0, Int.toNat_natCast]
  rw [← HM.out] at HV
  clear hm1 hm0 hc hn
  have hmm := HM.out
  subst hmm
  have hS1 : PutNew (fun _ => False) w (w.alloc (.cells #[.slice none 0 0, .int .i64 0] 97)) w.heap.size ⟨[], 0⟩ := put_fresh w 97
  have hB1 := Byte_new _ w _ w.heap.size ⟨[], 0⟩ (L.length : Int) ⟨by omega, by omega⟩ hS1 (by simp)
  have e1 : smallS ⟨[], 0⟩ (L.length : Int) 1 = ⟨lowB L.length 1, 0⟩ := by unfold smallS; rw [if_neg (by simp), if_neg (by omega)]; simp
  rw [e1] at hB1
  have HB1 := Lib.hid hB1
  clear hB1 e1 hS1
  generalize hP : w.heap.size = p at *
  (with_reducible refine HB1.out.mono ?_)
  rintro e w6 ⟨rfl, hp0⟩
  have HP0 := Lib.hid hp0
  have HMB := Lib.hid hmb
  clear HB1 hp0 hmb hP
  go_wp2_with fail
  go_loopg [21] L.length (fun gh iv wr => ∃ k : Nat, gh + k = L.length ∧ iv = .int .i64 k ∧ PutNew (fun _ => False) w wr p ⟨lowB L.length 1 ++ (L.take k).flatMap rpB, 0⟩)
  case atStart => exact ⟨0, by omega, rfl, by simpa using HP0.out⟩
  case round =>
    obtain ⟨k, hg, rfl, hp⟩ := hrel
    by_cases hk : k < L.length
    · obtain ⟨x, hx⟩ : ∃ x, L[k]? = some x := ⟨L[k], List.getElem?_eq_getElem hk⟩
      obtain ⟨_, _, hA, hne⟩ := row_len HV.out
      cases hA
      obtain ⟨g, off, rfl⟩ := hne (fun e => by rw [e] at hk; simp at hk)
      obtain ⟨sv, hp⟩ := hp
      have HPr := Lib.hid hp
      have HW := Lib.hid (row_still HV.out hp.since)
      clear hp
      obtain ⟨c0, c1⟩ := rp_at HW.out hx
      have hmb := HMB.out
      have hk2 : (k : Int) < (L.length : Int) := by omega
      have hk0 : (0 : Int) ≤ (k : Int) := by omega
      have w4 : IntKind.i64.wrap ((k : Int) + 1) = (k : Int) + 1 := by exact IntWalk.i64_in _ (by omega)
      have hxe := HE.out x (List.mem_of_getElem? hx)
      unfold ErrOk at hxe
      have hle : (lowB L.length 1 ++ (L.take k).flatMap rpB).length ≤ 20000000 := by
        have h1 := rps_len (L.take k)
        simp only [List.length_append, List.length_take, lowB_length] at h1 ⊢
        omega
      have hlen : (L.take k).flatMap rpB ++ rpB x = (L.take (k + 1)).flatMap rpB := by
        rw [List.take_add_one, hx]
        simp [List.flatMap_append]
      generalize hpre : lowB L.length 1 ++ (L.take k).flatMap rpB = pre at *
      have HNX : Hid (pre ++ lowB (errN x.err) 2 ++ textL (x.val.take 65535) = lowB L.length 1 ++ (L.take (k + 1)).flatMap rpB) := Lib.hid (by
        rw [← hlen, ← List.append_assoc, hpre]; simp [rpB])
      obtain ⟨mm, hmn, hml, hmt⟩ : ∃ mm : Nat, min (x.val.length : Int) 65535 = (mm : Int) ∧ mm ≤ x.val.length ∧ x.val.take mm = x.val.take 65535 := ⟨min x.val.length 65535, by omega, by omega, by
        rcases Nat.le_total x.val.length 65535 with h | h
        · rw [Nat.min_eq_left h, List.take_length, List.take_of_length_le h]
        · rw [Nat.min_eq_right h]⟩
      clear hlen hpre hx HW hmb
      by_cases hb : x.err < 0 ∨ 65535 < x.err
      · have hen : errN x.err = 65535 := if_pos hb
        rw [hen] at HNX
        rcases hb with hb1 | hb1
        · have d1 : decide (x.err < 0) = true := decide_eq_true hb1
          go_wp2_with fail
          have b1 : (wr.alloc (.cells #[.int .i64 x.err, str x.val] 68)).cell? ⟨wr.heap.size, 1, none⟩ = some (str x.val) := blk_cell (blk_new wr (.cells #[.int .i64 x.err, str x.val] 68)) 1
          have HPW := Lib.hid (HPr.out.alloc (.cells #[.int .i64 x.err, str x.val] 68))
          have hBp : p < wr.heap.size := lt_of_cell HPr.out.c0
          have hBr : ∀ q, sv.ownBlock = some q → q < wr.heap.size := fun q hq => (HPr.out.own.lt q hq).2
          clear HPr
          generalize (wr.alloc (.cells #[.int .i64 x.err, str x.val] 68)) = W at *
          generalize wr.heap.size = C at *
          clear c0 c1
          have HB : Hid (∀ w' s', PutNew (Lays p sv) W w' p s' → w'.cell? ⟨C, 1, none⟩ = some (str x.val)) := Lib.hid (by
            rintro w' s' ⟨sv', q⟩
            have hn : ¬ Lays p sv C := by rintro (q | q); omega; have := hBr _ q; omega
            exact (q.since.cell (p := ⟨C, 1, none⟩) (lt_of_cell b1) hn).trans b1)
          have hS0 : PutNew (Lays p sv) W W.drew p ⟨pre, 0⟩ := ⟨_, HPW.out.here.drew⟩
          have HC1 : Hid (∀ w', PutNew (Lays p sv) W w' p ⟨pre, 0⟩ → Calls Tryz.prog 52 #[.pointer (some ⟨p, 0, none⟩), .int .i64 65535] w' fun e w'' => e = .returned (.pointer (some ⟨p, 0, none⟩)) ∧ PutNew (Lays p sv) W w'' p ⟨pre ++ lowB 65535 2, 0⟩) := Lib.hid (fun w' h => by
            have := Half_new _ W w' p ⟨pre, 0⟩ 65535 ⟨by omega, by omega⟩ h (by simp only; omega)
            have e : smallS ⟨pre, 0⟩ 65535 2 = ⟨pre ++ lowB 65535 2, 0⟩ := by unfold smallS; rw [if_neg (by simp), if_neg (by omega)]; rfl
            rwa [e] at this)
          have HC2 : Hid (∀ w', PutNew (Lays p sv) W w' p ⟨pre ++ lowB 65535 2, 0⟩ → Calls Tryz.prog 119 #[.pointer (some ⟨p, 0, none⟩), .string ((⟨x.val.toArray⟩ : ByteArray).extract 0 mm)] w' fun e w'' => e = .returned (.pointer (some ⟨p, 0, none⟩)) ∧ PutNew (Lays p sv) W w'' p ⟨pre ++ lowB 65535 2 ++ textL (x.val.take 65535), 0⟩) := Lib.hid (fun w' h => by
            rw [cut_front, hmt]
            have := Text_new _ W w' p _ (x.val.take 65535) h (by simp only [List.length_append, lowB_length]; omega) (by rw [List.length_take]; omega)
            rwa [textL_fit _ _ rfl (by rw [List.length_take]; omega)] at this)
          clear hmt
          generalize pre ++ lowB 65535 2 ++ textL (x.val.take 65535) = u2 at *
          generalize pre ++ lowB 65535 2 = u1 at *
          clear b1 hBp hBr
          have q0 := hS0
          go_region_held3 (fun w' => w'.cell? ⟨C, 1, none⟩ = some (str x.val)) (exact HB.out _ _ (by assumption)) (first | ((with_reducible refine (HC1.out _ (by assumption)).mono ?_); rintro _ _ ⟨rfl, hq1⟩) | ((with_reducible refine (HC2.out _ (by assumption)).mono ?_); rintro _ _ ⟨rfl, hq2⟩))
          all_goals (
            have HN := Lib.hid (HPW.out.back hq2)
            clear hq1 hq2 q0 hS0 HC1 HC2 HB HPW
            go_wp2_with fail
            go_roundg (gk - 1)
            case measure => omega
            case rel => exact ⟨k + 1, by omega, by go_num, by rw [← HNX.out]; exact HN.out⟩)
        · have d1 : decide (x.err < 0) = false := decide_eq_false (by omega)
          have d2 : decide (65535 < x.err) = true := decide_eq_true hb1
          go_wp2_with fail
          have b1 : (wr.alloc (.cells #[.int .i64 x.err, str x.val] 68)).cell? ⟨wr.heap.size, 1, none⟩ = some (str x.val) := blk_cell (blk_new wr (.cells #[.int .i64 x.err, str x.val] 68)) 1
          have HPW := Lib.hid (HPr.out.alloc (.cells #[.int .i64 x.err, str x.val] 68))
          have hBp : p < wr.heap.size := lt_of_cell HPr.out.c0
          have hBr : ∀ q, sv.ownBlock = some q → q < wr.heap.size := fun q hq => (HPr.out.own.lt q hq).2
          clear HPr
          generalize (wr.alloc (.cells #[.int .i64 x.err, str x.val] 68)) = W at *
          generalize wr.heap.size = C at *
          clear c0 c1
          have HB : Hid (∀ w' s', PutNew (Lays p sv) W w' p s' → w'.cell? ⟨C, 1, none⟩ = some (str x.val)) := Lib.hid (by
            rintro w' s' ⟨sv', q⟩
            have hn : ¬ Lays p sv C := by rintro (q | q); omega; have := hBr _ q; omega
            exact (q.since.cell (p := ⟨C, 1, none⟩) (lt_of_cell b1) hn).trans b1)
          have hS0 : PutNew (Lays p sv) W W.drew p ⟨pre, 0⟩ := ⟨_, HPW.out.here.drew⟩
          have HC1 : Hid (∀ w', PutNew (Lays p sv) W w' p ⟨pre, 0⟩ → Calls Tryz.prog 52 #[.pointer (some ⟨p, 0, none⟩), .int .i64 65535] w' fun e w'' => e = .returned (.pointer (some ⟨p, 0, none⟩)) ∧ PutNew (Lays p sv) W w'' p ⟨pre ++ lowB 65535 2, 0⟩) := Lib.hid (fun w' h => by
            have := Half_new _ W w' p ⟨pre, 0⟩ 65535 ⟨by omega, by omega⟩ h (by simp only; omega)
            have e : smallS ⟨pre, 0⟩ 65535 2 = ⟨pre ++ lowB 65535 2, 0⟩ := by unfold smallS; rw [if_neg (by simp), if_neg (by omega)]; rfl
            rwa [e] at this)
          have HC2 : Hid (∀ w', PutNew (Lays p sv) W w' p ⟨pre ++ lowB 65535 2, 0⟩ → Calls Tryz.prog 119 #[.pointer (some ⟨p, 0, none⟩), .string ((⟨x.val.toArray⟩ : ByteArray).extract 0 mm)] w' fun e w'' => e = .returned (.pointer (some ⟨p, 0, none⟩)) ∧ PutNew (Lays p sv) W w'' p ⟨pre ++ lowB 65535 2 ++ textL (x.val.take 65535), 0⟩) := Lib.hid (fun w' h => by
            rw [cut_front, hmt]
            have := Text_new _ W w' p _ (x.val.take 65535) h (by simp only [List.length_append, lowB_length]; omega) (by rw [List.length_take]; omega)
            rwa [textL_fit _ _ rfl (by rw [List.length_take]; omega)] at this)
          clear hmt
          generalize pre ++ lowB 65535 2 ++ textL (x.val.take 65535) = u2 at *
          generalize pre ++ lowB 65535 2 = u1 at *
          clear b1 hBp hBr
          have q0 := hS0
          go_region_held3 (fun w' => w'.cell? ⟨C, 1, none⟩ = some (str x.val)) (exact HB.out _ _ (by assumption)) (first | ((with_reducible refine (HC1.out _ (by assumption)).mono ?_); rintro _ _ ⟨rfl, hq1⟩) | ((with_reducible refine (HC2.out _ (by assumption)).mono ?_); rintro _ _ ⟨rfl, hq2⟩))
          all_goals (
            have HN := Lib.hid (HPW.out.back hq2)
            clear hq1 hq2 q0 hS0 HC1 HC2 HB HPW
            go_wp2_with fail
            go_roundg (gk - 1)
            case measure => omega
            case rel => exact ⟨k + 1, by omega, by go_num, by rw [← HNX.out]; exact HN.out⟩)
      · obtain ⟨ne, hne2⟩ := Int.eq_ofNat_of_zero_le (show 0 ≤ x.err by omega)
        have hen : errN x.err = ne := by
          unfold errN
          rw [if_neg hb, hne2]
          rfl
        rw [hen] at HNX
        rw [hne2] at c0 hb
        have hb2 : ne ≤ 65535 := by omega
        have d1 : decide ((ne : Int) < 0) = false := decide_eq_false (by omega)
        have d2 : decide (65535 < (ne : Int)) = false := decide_eq_false (by omega)
        have d3 : decide (65535 < ne) = false := decide_eq_false (by omega)
        clear hb hen hne2 hxe
        go_wp2_with fail
        have b1 : (wr.alloc (.cells #[.int .i64 (ne : Int), str x.val] 68)).cell? ⟨wr.heap.size, 1, none⟩ = some (str x.val) := blk_cell (blk_new wr (.cells #[.int .i64 (ne : Int), str x.val] 68)) 1
        have HPW := Lib.hid (HPr.out.alloc (.cells #[.int .i64 (ne : Int), str x.val] 68))
        have hBp : p < wr.heap.size := lt_of_cell HPr.out.c0
        have hBr : ∀ q, sv.ownBlock = some q → q < wr.heap.size := fun q hq => (HPr.out.own.lt q hq).2
        clear HPr
        generalize (wr.alloc (.cells #[.int .i64 (ne : Int), str x.val] 68)) = W at *
        generalize wr.heap.size = C at *
        clear c0 c1
        have HB : Hid (∀ w' s', PutNew (Lays p sv) W w' p s' → w'.cell? ⟨C, 1, none⟩ = some (str x.val)) := Lib.hid (by
          rintro w' s' ⟨sv', q⟩
          have hn : ¬ Lays p sv C := by rintro (q | q); omega; have := hBr _ q; omega
          exact (q.since.cell (p := ⟨C, 1, none⟩) (lt_of_cell b1) hn).trans b1)
        have hS0 : PutNew (Lays p sv) W W.drew p ⟨pre, 0⟩ := ⟨_, HPW.out.here.drew⟩
        have HC1 : Hid (∀ w', PutNew (Lays p sv) W w' p ⟨pre, 0⟩ → Calls Tryz.prog 52 #[.pointer (some ⟨p, 0, none⟩), .int .i64 (ne : Int)] w' fun e w'' => e = .returned (.pointer (some ⟨p, 0, none⟩)) ∧ PutNew (Lays p sv) W w'' p ⟨pre ++ lowB ne 2, 0⟩) := Lib.hid (fun w' h => by
          have := Half_new _ W w' p ⟨pre, 0⟩ (ne : Int) ⟨by omega, by omega⟩ h (by simp only; omega)
          have e : smallS ⟨pre, 0⟩ (ne : Int) 2 = ⟨pre ++ lowB ne 2, 0⟩ := by unfold smallS; rw [if_neg (by simp), if_neg (by omega)]; rfl
          rwa [e] at this)
        have HC2 : Hid (∀ w', PutNew (Lays p sv) W w' p ⟨pre ++ lowB ne 2, 0⟩ → Calls Tryz.prog 119 #[.pointer (some ⟨p, 0, none⟩), .string ((⟨x.val.toArray⟩ : ByteArray).extract 0 mm)] w' fun e w'' => e = .returned (.pointer (some ⟨p, 0, none⟩)) ∧ PutNew (Lays p sv) W w'' p ⟨pre ++ lowB ne 2 ++ textL (x.val.take 65535), 0⟩) := Lib.hid (fun w' h => by
          rw [cut_front, hmt]
          have := Text_new _ W w' p _ (x.val.take 65535) h (by simp only [List.length_append, lowB_length]; omega) (by rw [List.length_take]; omega)
          rwa [textL_fit _ _ rfl (by rw [List.length_take]; omega)] at this)
        clear hmt
        generalize pre ++ lowB ne 2 ++ textL (x.val.take 65535) = u2 at *
        generalize pre ++ lowB ne 2 = u1 at *
        clear b1 hBp hBr
        have q0 := hS0
        go_region_held3 (fun w' => w'.cell? ⟨C, 1, none⟩ = some (str x.val)) (exact HB.out _ _ (by assumption)) (first | ((with_reducible refine (HC1.out _ (by assumption)).mono ?_); rintro _ _ ⟨rfl, hq1⟩) | ((with_reducible refine (HC2.out _ (by assumption)).mono ?_); rintro _ _ ⟨rfl, hq2⟩))
        all_goals (
          have HN := Lib.hid (HPW.out.back hq2)
          clear hq1 hq2 q0 hS0 HC1 HC2 HB HPW
          go_wp2_with fail
          go_roundg (gk - 1)
          case measure => omega
          case rel => exact ⟨k + 1, by omega, by go_num, by rw [← HNX.out]; exact HN.out⟩)
    · obtain rfl : k = L.length := by omega
      rw [List.take_length] at hp
      have hk2 : ¬ ((L.length : Int) < (L.length : Int)) := by omega
      have HE2 := Lib.hid (End_new _ _ _ _ _ hp)
      have HO := Lib.hid (hp.choose_spec.since)
      clear hp
      go_wp2_with fail
      have hend : endS ⟨lowB L.length 1 ++ L.flatMap rpB, 0⟩ = (lowB L.length 1 ++ L.flatMap rpB, 0) := by
        unfold endS
        rw [if_neg (fun q => q rfl)]
      rw [hend] at HE2
      (with_reducible refine HE2.out.mono ?_)
      rintro e w4 ⟨rfl, o4⟩
      have HF := Lib.hid (HO.out.trans o4 (fun _ _ q => q))
      clear o4
      go_wp2_with fail
      go_ret
      exact ⟨rfl, HF.out⟩
end Go.Proofs.YtlkknekflgclgaaGreatDoor

namespace Go.Proofs.YtlkknekflgclgaaGreatDoor
open Go.RowKit

def rpG (g : GetS) : Rp × GetS := (⟨((lowG g 2).1 : Nat), (textG (lowG g 2).2).1⟩, (textG (lowG g 2).2).2)
def rpsG : Nat → GetS → List Rp × GetS
  | 0, g => ([], g)
  | n + 1, g => ((rpsG n g).1 ++ [(rpG (rpsG n g).2).1], (rpG (rpsG n g).2).2)
def readRepQ (b : Bytes) : List Rp × Int :=
  if (endG (rpsG (lowG ⟨b, 0⟩ 1).1 (lowG ⟨b, 0⟩ 1).2).2).e ≠ 0 then ([], (endG (rpsG (lowG ⟨b, 0⟩ 1).1 (lowG ⟨b, 0⟩ 1).2).2).e)
  else ((rpsG (lowG ⟨b, 0⟩ 1).1 (lowG ⟨b, 0⟩ 1).2).1, 0)
theorem rpsG_len (k : Nat) (g : GetS) : (rpsG k g).1.length = k := by
  induction k with
  | zero => rfl
  | succ k ih => unfold rpsG; simp [ih]
theorem lowB_add (v c n : Nat) (m : Nat) (h : m ≤ n) : lowB (v + c * 256 ^ n) m = lowB v m := by
  induction m with
  | zero => rfl
  | succ m ih =>
    rw [lowB, lowB, ih (by omega)]
    congr 2
    obtain ⟨d, rfl⟩ : ∃ d, n = m + 1 + d := ⟨n - (m + 1), by omega⟩
    have e : c * 256 ^ (m + 1 + d) = 256 ^ m * (256 * (c * 256 ^ d)) := by rw [Nat.pow_add, Nat.pow_succ]; simp only [Nat.mul_comm, Nat.mul_assoc, Nat.mul_left_comm]
    rw [e, Nat.add_mul_div_left _ _ (Nat.pow_pos (by omega))]
    apply UInt8.toNat_inj.1
    simp only [UInt8.toNat_ofNat']
    omega
theorem numB_back (t : Bytes) : lowB (numB t) t.length = t := by
  induction h : t.length generalizing t with
  | zero => simp [List.length_eq_zero_iff.1 h, lowB]
  | succ n ih =>
    have hne : t ≠ [] := fun q => by simp [q] at h
    obtain ⟨l, c, rfl⟩ : ∃ l c, t = l ++ [c] := ⟨t.dropLast, t.getLast hne, (List.dropLast_concat_getLast hne).symm⟩
    have hl : l.length = n := by simpa using h
    rw [numB_app, hl, lowB, lowB_add _ _ _ _ (Nat.le_refl _), ih l hl]
    congr 2
    have hlt := numB_lt l
    rw [hl] at hlt
    rw [Nat.add_mul_div_right _ _ (Nat.pow_pos (by omega)), Nat.div_eq_of_lt hlt, Nat.zero_add]
    apply UInt8.toNat_inj.1
    simp only [UInt8.toNat_ofNat']
    have := c.toNat_lt
    omega
/-- A text that was read whole is what its parts are laid to. -/
theorem lowG_back {g : GetS} {n : Nat} (h : (lowG g n).2.e = 0) : g.e = 0 ∧ g.rest = lowB (lowG g n).1 n ++ (lowG g n).2.rest := by
  unfold lowG rawG at h ⊢
  by_cases he : g.e = 0
  · rw [if_neg (fun q => q he), if_neg (by omega)] at h ⊢
    by_cases hl : (g.rest.length : Int) < (n : Int)
    · rw [if_pos hl] at h
      cases h
    · rw [if_neg hl]
      refine ⟨he, ?_⟩
      have ht : (g.rest.take n).length = n := by rw [List.length_take]; omega
      have := numB_back (g.rest.take n)
      rw [ht] at this
      show g.rest = lowB (numB (g.rest.take n)) n ++ g.rest.drop n
      rw [this, List.take_append_drop]
  · rw [if_pos he] at h
    exact absurd h he
theorem rawG_back {g : GetS} {n : Nat} (h : (rawG g (n : Int)).2.e = 0) : g.e = 0 ∧ g.rest = (rawG g (n : Int)).1 ++ (rawG g (n : Int)).2.rest ∧ (rawG g (n : Int)).1.length = n := by
  unfold rawG at h ⊢
  by_cases he : g.e = 0
  · rw [if_neg (fun q => q he), if_neg (by omega)] at h ⊢
    by_cases hl : (g.rest.length : Int) < (n : Int)
    · rw [if_pos hl] at h
      cases h
    · rw [if_neg hl]
      refine ⟨he, ?_, ?_⟩
      · show g.rest = g.rest.take n ++ g.rest.drop n
        rw [List.take_append_drop]
      · show (g.rest.take n).length = n
        rw [List.length_take]
        omega
  · rw [if_pos he] at h
    exact absurd h he
theorem textG_back {g : GetS} (h : (textG g).2.e = 0) : g.e = 0 ∧ g.rest = textL (textG g).1 ++ (textG g).2.rest ∧ (textG g).1.length ≤ 65535 := by
  have h1 := rawG_back (g := (lowG g 2).2) (n := (lowG g 2).1) h
  obtain ⟨a1, a2, a3⟩ := h1
  obtain ⟨b1, b2⟩ := lowG_back a1
  have hlt := lowG_lt g 2
  have e : textG g = rawG (lowG g 2).2 ((lowG g 2).1 : Nat) := rfl
  rw [e]
  refine ⟨b1, ?_, by omega⟩
  rw [b2, textL, a3]
  conv => lhs; rw [a2]
  simp only [List.append_assoc]
theorem rpG_back {g : GetS} (h : (rpG g).2.e = 0) : g.e = 0 ∧ g.rest = rpB (rpG g).1 ++ (rpG g).2.rest := by
  obtain ⟨a1, a2, a3⟩ := textG_back (g := (lowG g 2).2) h
  obtain ⟨b1, b2⟩ := lowG_back a1
  have hlt := lowG_lt g 2
  refine ⟨b1, ?_⟩
  have e1 : errN ((lowG g 2).1 : Nat) = (lowG g 2).1 := by
    unfold errN
    rw [if_neg (by omega)]
    rfl
  show g.rest = (lowB (errN ((lowG g 2).1 : Nat)) 2 ++ textL ((textG (lowG g 2).2).1.take 65535)) ++ (textG (lowG g 2).2).2.rest
  rw [e1, List.take_of_length_le a3, List.append_assoc, ← a2, ← b2]
theorem rpsG_back {n : Nat} {g : GetS} (h : (rpsG n g).2.e = 0) : g.e = 0 ∧ g.rest = (rpsG n g).1.flatMap rpB ++ (rpsG n g).2.rest := by
  induction n with
  | zero => exact ⟨h, by simp [rpsG]⟩
  | succ n ih =>
    obtain ⟨a1, a2⟩ := rpG_back (g := (rpsG n g).2) h
    obtain ⟨b1, b2⟩ := ih a1
    refine ⟨b1, ?_⟩
    show g.rest = ((rpsG n g).1 ++ [(rpG (rpsG n g).2).1]).flatMap rpB ++ (rpG (rpsG n g).2).2.rest
    rw [List.flatMap_append, List.append_assoc]
    simp only [List.flatMap_cons, List.flatMap_nil, List.append_nil]
    rw [← a2]
    exact b2
/-- Where replies are read without an error, they are laid to the same bytes. -/
theorem readRep_back {b : Bytes} (h : (endG (rpsG (lowG ⟨b, 0⟩ 1).1 (lowG ⟨b, 0⟩ 1).2).2).e = 0) : repliesB (rpsG (lowG ⟨b, 0⟩ 1).1 (lowG ⟨b, 0⟩ 1).2).1 = b := by
  have hlt := lowG_lt ⟨b, 0⟩ 1
  have key : (rpsG (lowG ⟨b, 0⟩ 1).1 (lowG ⟨b, 0⟩ 1).2).2.e = 0 ∧ (rpsG (lowG ⟨b, 0⟩ 1).1 (lowG ⟨b, 0⟩ 1).2).2.rest = [] := by
    generalize (rpsG (lowG ⟨b, 0⟩ 1).1 (lowG ⟨b, 0⟩ 1).2).2 = g at *
    unfold endG at h
    by_cases he : g.e = 0
    · refine ⟨he, ?_⟩
      have hlf : leftG g = g.rest.length := if_neg (fun q => q he)
      rw [hlf] at h
      by_cases hl : 0 < g.rest.length
      · rw [if_pos hl] at h
        cases h
      · exact List.eq_nil_of_length_eq_zero (by omega)
    · have hlf : leftG g = 0 := if_pos he
      rw [hlf, if_neg (by omega)] at h
      exact absurd h he
  obtain ⟨a1, a2⟩ := rpsG_back key.1
  obtain ⟨b1, b2⟩ := lowG_back a1
  have hl := rpsG_len (lowG ⟨b, 0⟩ 1).1 (lowG ⟨b, 0⟩ 1).2
  rw [key.2, List.append_nil] at a2
  unfold repliesB
  rw [hl, Nat.min_eq_left (by omega), List.take_of_length_le (by omega), ← a2]
  exact b2.symm
end Go.Proofs.YtlkknekflgclgaaGreatDoor

namespace Go.Proofs.YtlkknekflgclgaaGreatDoor
open Go.RowKit Go.MuLone

theorem repInfo : (Tryz.prog.info? 68).map (fun i => (i.zero, i.size, i.bytes)) = some (some (.agg #[.int .i64 0, .string ⟨#[]⟩]), 2, 24) := by kernel_rfl
theorem rest_rp {g : GetS} {n : Nat} (h : g.rest.length ≤ n) : (rpG g).2.rest.length ≤ n := rest_le3 (rest_le1 h 2)
theorem rest_rps {g : GetS} {n : Nat} (h : g.rest.length ≤ n) (k : Nat) : (rpsG k g).2.rest.length ≤ n := by
  induction k with
  | zero => exact h
  | succ k ih => exact rest_rp ih
theorem rpsG_ok (k : Nat) (g : GetS) : ∀ x ∈ (rpsG k g).1, ErrOk x.err := by
  induction k with
  | zero => intro x hx; cases hx
  | succ k ih =>
    intro x hx
    have hx : x ∈ (rpsG k g).1 ++ [(rpG (rpsG k g).2).1] := hx
    rcases List.mem_append.1 hx with hx | hx
    · exact ih x hx
    · rw [List.mem_singleton] at hx
      subst hx
      have := lowG_lt (rpsG k g).2 2
      show ((lowG (rpsG k g).2 2).1 : Int) ≤ _
      omega
/-- What ReadReplies tells. -/
def RrEnds (w : World) (x : List Rp × Int) : Ending → World → Prop := fun e w' => ∃ v, e = .returned (.tuple #[v, .int .i64 x.2]) ∧ w'.ownsRow 0 68 2 v x.1.length (x.1.flatMap rpC) ∧ Only (fun _ => False) w w' ∧ ∀ q, v.ownBlock = some q → w.heap.size ≤ q
/-- The reading: the reader at g, what is read so far. -/
structure RpsAt (w W : World) (g : Nat) (s : GetS) (xs : List Rp) (sv : Value) : Prop where
  get : GetAt W g s
  own : W.ownsRow 0 68 2 sv xs.length (xs.flatMap rpC)
  only : Only (fun _ => False) w W
  d2 : w.heap.size ≤ g
  d3 : ∀ q, sv.ownBlock = some q → w.heap.size ≤ q ∧ q ≠ g
section
variable {w W W' : World} {g : Nat} {s : GetS} {xs : List Rp} {sv : Value} (h : RpsAt w W g s xs sv)
include h
theorem RpsAt.still (ho : Only (fun _ => False) W W') : RpsAt w W' g s xs sv :=
  ⟨h.get.only ho id, own_only h.own ho (fun _ _ => id), h.only.trans ho (fun _ _ q => q.elim), h.d2, h.d3⟩
theorem RpsAt.got {s' : GetS} (hg : GetTo W g s' W') : RpsAt w W' g s' xs sv := by
  obtain ⟨ha, ho⟩ := hg
  have f2 := h.d2
  refine ⟨ha, own_only h.own ho (fun q hq e => (h.d3 q hq).2 e), ?_, h.d2, h.d3⟩
  exact (Only.trans (h.only.mono (T := fun k => k = g) (fun _ _ (q : False) => q.elim)) ho (fun _ _ q => q)).mono (fun i hi q => by have q : i = g := q; omega)
theorem RpsAt.off {x : Nat} (ho : Only (fun k => k = x) W W') (h2 : g ≠ x) (h4 : ∀ q, sv.ownBlock = some q → q ≠ x) (hw : w.heap.size ≤ x) : RpsAt w W' g s xs sv :=
  ⟨h.get.only ho h2, own_only h.own ho (fun q hq e => h4 q hq e), (Only.trans (h.only.mono (T := fun k => k = x) (fun _ _ (q : False) => q.elim)) ho (fun _ _ q => q)).mono (fun i hi q => by have q : i = x := q; omega), h.d2, h.d3⟩
/-- Behind an append. -/
theorem RpsAt.app {x : Rp} {sv' : Value} (hown : W'.ownsRow 0 68 2 sv' (xs.length + 1) (xs.flatMap rpC ++ rpC x)) (hg : W.grownBy W' sv.ownBlock) (hm : ∀ q, sv'.ownBlock = some q → sv.ownBlock = some q ∨ W.heap.size ≤ q) :
    RpsAt w W' g s (xs ++ [x]) sv' := by
  have f2 := h.d2
  have ho : Only (fun k => sv.ownBlock = some k) W W' := (Only.refl _ W).grown hg (fun _ _ q => q)
  have hgl : g < W.heap.size := lt_of_cell h.get.c0
  refine ⟨h.get.only ho (fun q => (h.d3 g q).2 rfl), ?_, ?_, h.d2, fun q hq => ?_⟩
  · rw [List.length_append, List.flatMap_append]
    simpa using hown
  · exact (Only.trans (h.only.mono (T := fun k => sv.ownBlock = some k) (fun _ _ (q : False) => q.elim)) ho (fun _ _ q => q)).mono (fun i hi q => by
      have := (h.d3 i q).1; omega)
  · have hsz := h.only.size
    rcases hm q hq with q2 | q2
    · exact h.d3 q q2
    · exact ⟨by omega, by omega⟩
end
set_option maxRecDepth 100000 in
set_option maxHeartbeats 8000000 in
theorem CRR_is (w : World) (b : Bytes) (hb : b.length ≤ 1073741824) : Calls Tryz.prog 33 #[str b] w (RrEnds w (readRepQ b)) := by
  obtain ⟨i0, hi, hz0, hz1, hz2⟩ := info_parts repInfo
  have HF := Lib.hid (From_get b w)
  have hback := @readRep_back b
  generalize hrq : readRepQ b = rq at *
  unfold readRepQ at hrq
  have hr3 : (lowG ⟨b, 0⟩ 1).2.rest.length ≤ 1073741824 := rest_le1 hb 1
  have hn := lowG_lt ⟨b, 0⟩ 1
  go_enter Tryz.func33, Tryz.ntmps33
  go_wp2_with fail
  generalize hG : w.heap.size = g at *
  (with_reducible refine HF.out.mono ?_)
  rintro e w2 ⟨rfl, hg2, o2⟩
  have R0 : RpsAt w w2 g ⟨b, 0⟩ [] (.slice none 0 0) := ⟨hg2, ⟨rfl, .inl ⟨rfl, rfl⟩⟩, o2, by omega, fun q hq => by simp [Value.ownBlock] at hq⟩
  have HB3 := Lib.hid (Byte_get _ _ _ R0.get (by show b.length ≤ _; omega))
  have HR0 := Lib.hid R0
  clear R0 hg2 o2 HF
  generalize hx3 : lowG ⟨b, 0⟩ 1 = x3 at *
  obtain ⟨n, s3⟩ := x3
  dsimp only at *
  go_wp2_with fail
  (with_reducible refine HB3.out.mono ?_)
  rintro e w5 ⟨rfl, hg5⟩
  have HR5 := Lib.hid (HR0.out.got hg5)
  clear HB3 HR0 hg5
  go_wp2_with fail
  go_loopg [5, 12] n (fun gh sv iv wr => ∃ (k : Nat), gh + k = n ∧ iv = .int .i64 k ∧ RpsAt w wr g (rpsG k s3).2 (rpsG k s3).1 sv)
  case atStart => exact ⟨0, by omega, rfl, HR5.out⟩
  case round =>
    obtain ⟨k, hgk, rfl, hR⟩ := hrel
    have hrk := rest_rps hr3 k
    have hck := rpsG_len k s3
    have hok := rpsG_ok k s3
    have hcs : rpsG (k + 1) s3 = ((rpsG k s3).1 ++ [(rpG (rpsG k s3).2).1], (rpG (rpsG k s3).2).2) := rfl
    have HCS := Lib.hid hcs
    clear hcs
    by_cases hk : k < n
    · generalize (rpsG k s3).1 = xs at *
      generalize (rpsG k s3).2 = u0 at *
      subst hck
      obtain ⟨aV, cV, rfl⟩ := ownsRow_form hR.own
      have hk2 : (xs.length : Int) < (n : Int) := by omega
      have w4' : IntKind.i64.wrap ((xs.length : Int) + 1) = (xs.length : Int) + 1 := by exact IntWalk.i64_in _ (by omega)
      have HB0 := Lib.hid (Half_get _ _ _ hR.get (by omega))
      have HR := Lib.hid hR
      clear hR hok
      have hs1 : (lowG u0 2).2.rest.length ≤ 1073741824 := rest_le1 hrk 2
      have hcg : rpG u0 = (⟨((lowG u0 2).1 : Nat), (textG (lowG u0 2).2).1⟩, (textG (lowG u0 2).2).2) := rfl
      rw [hcg] at HCS
      clear hcg
      generalize hy1 : lowG u0 2 = y1 at *
      obtain ⟨er, u1⟩ := y1
      dsimp only at *
      go_wp2_with fail
      (with_reducible refine HB0.out.mono ?_)
      rintro e w6 ⟨rfl, hg6⟩
      have oA := (Only.refl (fun _ => False) w6).alloc (.cells #[.int .i64 er, .string ⟨#[]⟩] 68)
      have R6 := (HR.out.got hg6)
      have hC3 : g < w6.heap.size := lt_of_cell R6.get.c0
      have hC4 : ∀ q, (Value.slice aV xs.length cV).ownBlock = some q → q < w6.heap.size := fun q hq => (R6.own.lt q hq).2
      have hC5 := R6.only.size
      have HR7 := Lib.hid (R6.still oA)
      have HBK := Lib.hid (blk_new w6 (.cells #[.int .i64 er, .string ⟨#[]⟩] 68))
      clear HB0 HR hg6 R6 oA
      go_wp2_with fail
      generalize w6.alloc (.cells #[.int .i64 er, .string ⟨#[]⟩] 68) = W7 at *
      generalize w6.heap.size = C at *
      have hgC : C ≠ g := by omega
      have HX1 := Lib.hid (Text_get _ _ _ HR7.out.get (by show u1.rest.length ≤ _; omega))
      generalize hzz1 : textG u1 = z1 at *
      obtain ⟨T1, u2⟩ := z1
      dsimp only at *
      (with_reducible refine HX1.out.mono ?_)
      rintro e W11 ⟨rfl, hg⟩
      have HR11 := Lib.hid (HR7.out.got hg)
      have HBK := Lib.hid (blk_keep HBK.out hg.2 hgC)
      clear hg HX1 HR7
      have b0 := blk_cell HBK.out 0
      have b1 := blk_cell HBK.out 1
      have f0 := blk_frozen HBK.out 0
      have f1 := blk_frozen HBK.out 1
      simp only [List.getElem?_toArray, List.getElem?_cons_zero, List.getElem?_cons_succ] at b0 b1
      have oC : Only (fun q => q = C) W11 (W11.setCell ⟨C, 1, none⟩ (str T1)) := (Only.refl (fun q => q = C) W11).put C 1 rfl _
      have R12 := HR11.out.off oC (by omega) (fun q hq e => by have := hC4 q hq; omega) (by omega)
      have hsz12 : (W11.setCell ⟨C, 1, none⟩ (str T1)).heap.size = W11.heap.size := by simp [World.setCell]
      have HCN := cells_new (W11.setCell ⟨C, 1, none⟩ (str T1)) (rpC ⟨er, T1⟩) 68 (0, 0)
      have R13 := R12.still ((Only.refl (fun _ => False) _).alloc (.cells (rpC ⟨er, T1⟩).toArray 68 (0, 0)))
      rw [hsz12] at HCN
      have HCN := Lib.hid HCN
      have HR13 := Lib.hid R13
      clear oC R12 hsz12 R13 HBK HR11
      go_wp2_with (at_builtin; refine wpList_append_moved _ rfl _ _ 65 rfl 68 i0 _ 2 24 Tryz.underlying65 hi hz0 hz1 hz2 rfl (by decide) _ _ _ rfl HR13.out.own ⟨W11.heap.size, 0, none⟩ 1 1 (rpC ⟨er, T1⟩) rfl rfl HCN.out (by simp [rpC, Value.oneCell']) (by unfold maxLen; omega) (by omega) ?_; intro a' c' wx hown2 hgr hmv; have HX := Lib.hid (And.intro hown2 (And.intro hgr hmv)); clear hown2 hgr hmv)
      go_roundg (gk - 1)
      case measure => omega
      case rel =>
        obtain ⟨hown2, hgr, hmv⟩ := HX.out
        exact ⟨xs.length + 1, by omega, by go_num, by rw [HCS.out]; exact HR13.out.app hown2 hgr hmv⟩
    · obtain rfl : k = n := by omega
      have hk2 : ¬ ((k : Int) < (k : Int)) := by omega
      generalize (rpsG k s3).1 = xs at *
      generalize (rpsG k s3).2 = u0 at *
      subst hck
      obtain ⟨aV, cV, rfl⟩ := ownsRow_form hR.own
      have HE := Lib.hid (End_get _ _ _ hR.get)
      have HR := Lib.hid hR
      have HRQ := Lib.hid hrq
      have HBA := Lib.hid hback
      have HOK := Lib.hid hok
      clear hR hrq HCS hrk hx3 hback hok
      go_wp2_with fail
      (with_reducible refine HE.out.mono ?_)
      rintro e w6 ⟨rfl, hg6⟩
      have HR6 := Lib.hid (HR.out.got hg6)
      clear HE HR hg6
      by_cases he : (endG u0).e = 0
      · rw [he] at HRQ HBA ⊢
        rw [if_neg (fun q => q rfl)] at HRQ
        have hb2 := HBA.out rfl
        have hcap : xs.length ≤ cV := by
          rcases HR6.out.own.2 with ⟨q, q2⟩ | ⟨g2, cap2, _, q, _, _, hnc, _⟩
          · simp only [Value.slice.injEq] at q; omega
          · simp only [Value.slice.injEq] at q; obtain ⟨_, _, rfl⟩ := q; exact hnc
        have HRP := Lib.hid (CReplies_is w6 xs aV cV (row_ownQ (enc := rpC) (k := 2) (xs := xs) (fun _ => rfl) HR6.out.own) hcap (by omega) HOK.out)
        rw [hb2] at HRP
        have e2 : (b != b) = false := by simp
        clear hb2 hcap he
        go_wp2_with fail
        (with_reducible refine HRP.out.mono ?_)
        rintro e w7 ⟨rfl, o7⟩
        have HR7 := Lib.hid (HR6.out.still o7)
        clear HRP o7 HR6
        go_wp2_with fail
        go_ret2
        rw [← HRQ.out]
        exact ⟨_, rfl, HR7.out.own, HR7.out.only, fun q hq => (HR7.out.d3 q hq).1⟩
      · rw [if_pos he] at HRQ
        have he1 : ((endG u0).e == 0) = false := by simpa using he
        have he2 : ((endG u0).e != 0) = true := by simpa using he
        generalize (endG u0).e = ee at *
        go_wp2_with fail
        go_ret2
        rw [← HRQ.out]
        exact ⟨_, rfl, ⟨rfl, .inl ⟨rfl, rfl⟩⟩, HR6.out.only, fun q hq => by simp [Value.ownBlock] at hq⟩
end Go.Proofs.YtlkknekflgclgaaGreatDoor
