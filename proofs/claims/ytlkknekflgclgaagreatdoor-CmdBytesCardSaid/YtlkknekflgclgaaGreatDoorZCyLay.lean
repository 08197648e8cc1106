/- The document's own answer: may a command be; why a request can't be. Conditions: one goroutine. -/
import Derived.Test.YtlkknekflgclgaaGreatDoorZCq3
import Derived.Test.YtlkknekflgclgaaGreatDoorZLeafA
namespace Go.Proofs.YtlkknekflgclgaaGreatDoor
open Go.RowKit Go.MuLone

set_option maxRecDepth 100000 in
set_option maxHeartbeats 1000000 in
theorem RValid_is (c : Cq) (w : World) : Calls Tryz.prog 111 #[cmdV c] w fun e w' => e = .returned (.bool (okC c)) ∧ Only (fun _ => False) w w' := by
  unfold cmdV cmdC
  go_enter Tryz.func111, Tryz.ntmps111
  go_wp2_with fail
  all_goals
    go_ret
    refine ⟨congrArg (fun b => Ending.returned (Value.bool b)) ?_, (Only.refl _ w).alloc _⟩
    unfold okC
    first
    | exact (decide_eq_false (by omega)).symm
    | exact decide_eq_decide.2 (by omega)
    | done
theorem cmdB_len (c : Cq) : (cmdB c).length = 9 + c.path.length + c.key.length + c.val.length + c.old.length := by
  simp only [cmdB, textL, List.length_append, lowB_length]
  omega
theorem reqB_len (r : ReqQ) : (reqB r).length = 17 + (r.cmds.flatMap cmdB).length := by
  simp only [reqB, List.length_append, lowB_length]
  omega
set_option maxRecDepth 100000 in
set_option maxHeartbeats 4000000 in
theorem RCheck_is (w : World) (r : ReqQ) (v : Value) (hv : RowAt cmdC 5 w v r.cmds) (hn : r.cmds.length ≤ 9223372036854775807) :
    Calls Tryz.prog 29 #[.agg #[.int .i64 r.client, .int .i64 r.seq, v]] w fun e w' => e = .returned (.int .i64 (checkQ r)) ∧ Only (fun _ => False) w w' := by
  obtain ⟨cl, sq, l⟩ := r
  dsimp only at *
  obtain ⟨a, cap, rfl, ha⟩ := row_len hv
  have o1 := (Only.refl (fun _ => False) w).alloc (.cells #[.int .i64 cl, .int .i64 sq, .slice a l.length cap] 52)
  by_cases hbad : cl < 0 ∨ 1099511627776 < cl ∨ sq < 0 ∨ 1099511627776 < sq ∨ l = []
  · rw [checkQ_bad hbad]
    have HO1 := Lib.hid o1
    have hl : l = [] ↔ l.length = 0 := List.length_eq_zero_iff.symm
    rw [hl] at hbad
    have h5 : cl < 0 ∨ (0 ≤ cl ∧ 1099511627776 < cl) ∨ (0 ≤ cl ∧ cl ≤ 1099511627776 ∧ sq < 0) ∨ (0 ≤ cl ∧ cl ≤ 1099511627776 ∧ 0 ≤ sq ∧ 1099511627776 < sq) ∨ (0 ≤ cl ∧ cl ≤ 1099511627776 ∧ 0 ≤ sq ∧ sq ≤ 1099511627776 ∧ (l.length : Int) = 0) := by omega
    clear hbad hl o1 hv ha
    rcases h5 with g1 | ⟨g1, g2⟩ | ⟨g1, g2, g3⟩ | ⟨g1, g2, g3, g4⟩ | ⟨g1, g2, g3, g4, g5⟩
    case' inr.inr.inr.inr =>
      have g6 : ((l.length : Int) == 0) = true := by rw [g5]; rfl
      have g7 : decide (cl < 0) = false := decide_eq_false (by omega)
      have g8 : decide (1099511627776 < cl) = false := decide_eq_false (by omega)
      have g9 : decide (sq < 0) = false := decide_eq_false (by omega)
      have g10 : decide (1099511627776 < sq) = false := decide_eq_false (by omega)
      clear g5
    all_goals
      go_enter Tryz.func29, Tryz.ntmps29
      go_wp2_with fail
      go_ret
      exact ⟨rfl, HO1.out⟩
  · have hl : l = [] ↔ l.length = 0 := List.length_eq_zero_iff.symm
    have hgood : ¬ cl < 0 ∧ ¬ 1099511627776 < cl ∧ ¬ sq < 0 ∧ ¬ 1099511627776 < sq ∧ l.length ≠ 0 := by
      rw [hl] at hbad
      omega
    obtain ⟨y1, y2, y3, y4, y5⟩ := hgood
    have e1 : decide (cl < 0) = false := decide_eq_false y1
    have e2 : decide (1099511627776 < cl) = false := decide_eq_false y2
    have e3 : decide (sq < 0) = false := decide_eq_false y3
    have e4 : decide (1099511627776 < sq) = false := decide_eq_false y4
    have e5 : ((l.length : Int) == 0) = false := by rw [beq_eq_false_iff_ne]; omega
    by_cases hm : 6 < l.length
    · rw [checkQ_many hbad hm]
      have HO1 := Lib.hid o1
      have e6 : decide (6 < (l.length : Int)) = true := decide_eq_true (by omega)
      clear hbad hl o1 hv ha y1 y2 y3 y4 y5
      go_enter Tryz.func29, Tryz.ntmps29
      go_wp2_with fail
      go_ret
      exact ⟨rfl, HO1.out⟩
    · have HQ := Lib.hid (checkQ_few (r := ⟨cl, sq, l⟩) hbad hm)
      have HO1 := Lib.hid o1
      have HM := Lib.hid hm
      have e6 : decide (6 < (l.length : Int)) = false := decide_eq_false (by omega)
      have b1 := blk_new w (.cells #[.int .i64 cl, .int .i64 sq, .slice a l.length cap] 52)
      have HV := Lib.hid (row_still hv o1)
      have HA := Lib.hid ha
      generalize checkQ ⟨cl, sq, l⟩ = res at *
      go_enter Tryz.func29, Tryz.ntmps29
      clear hbad hl o1 hv ha y1 y2 y3 y4 y5
      go_wp2_with fail
      generalize w.alloc (.cells #[.int .i64 cl, .int .i64 sq, .slice a l.length cap] 52) = W0 at *
      have HC2 : Hid (∀ W, Only (fun _ => False) W0 W → W.cell? ⟨w.heap.size, 2, none⟩ = some (.slice a l.length cap)) := Lib.hid (fun W hW => blk_cell (blk_keep b1 hW id) 2)
      clear b1 e1 e2 e3 e4 e5 e6 hm hn
      go_loopg [3, 4] l.length (fun gh nv iv wr => ∃ (i m : Nat), gh + i = l.length ∧ iv = .int .i64 i ∧ nv = .int .i64 (m : Int) ∧ m = 17 + ((l.take i).flatMap cmdB).length ∧ m ≤ 17 + i * 9200 ∧ Only (fun _ => False) W0 wr ∧ ∀ x ∈ l.take i, okC x = true)
      case atStart => exact ⟨0, 17, by omega, rfl, rfl, by simp, by omega, Only.refl _ _, by simp⟩
      case round =>
        obtain ⟨i, m, hgk, rfl, rfl, hme, hmb, ho, hall⟩ := hrel
        have HB := Lib.hid hall
        have HO := Lib.hid ho
        have z2 := HC2.out wr ho
        have HME := Lib.hid hme
        have h6 := HM.out
        have HMB := Lib.hid hmb
        clear hall ho hme
        by_cases hi : i < l.length
        · obtain ⟨x, hx⟩ : ∃ x, l[i]? = some x := ⟨_, List.getElem?_eq_getElem hi⟩
          obtain ⟨g, off, rfl⟩ := HA.out (fun e => by rw [e] at hi; simp at hi)
          obtain ⟨c0, c1, c2, c3, c4⟩ := cmd_at (row_still HV.out HO.out) hx
          have hi1 : (i : Int) < (l.length : Int) := by omega
          have hwi : IntKind.i64.wrap ((i : Int) + 1) = (i : Int) + 1 := IntWalk.i64_in _ (by omega)
          have HF := Lib.hid (fun W => RValid_is x W)
          unfold cmdV cmdC at HF
          have HX := Lib.hid hx
          have HBLK := Lib.hid (fun W hW => blk_keep (F := fun _ => False) (w' := W) (blk_new wr (.cells #[.int .i64 x.kind, str x.path, str x.key, str x.val, str x.old] 119)) hW id)
          have HOA := Lib.hid (HO.out.alloc (.cells #[.int .i64 x.kind, str x.path, str x.key, str x.val, str x.old] 119))
          clear hx hmb h6
          go_wp2_with fail
          (with_reducible refine (HF.out _).mono ?_)
          rintro e w3 ⟨rfl, o3⟩
          have q3 := HBLK.out w3 o3
          have HO3 := Lib.hid (HOA.out.trans o3 (fun _ _ q => q))
          have d1 := blk_cell q3 1
          have d2 := blk_cell q3 2
          have d3 := blk_cell q3 3
          have d4 := blk_cell q3 4
          clear o3 q3 c0 c1 c2 c3 c4 HF HBLK HOA z2
          cases hb : okC x with
          | true =>
            have hok := okC_parts hb
            have h6 := HM.out
            have hmb := HMB.out
            have w1 : IntKind.i64.wrap ((m : Int) + 9) = (m : Int) + 9 := IntWalk.i64_in _ (by omega)
            have w2 : IntKind.i64.wrap ((m : Int) + 9 + (x.path.length : Int)) = (m : Int) + 9 + (x.path.length : Int) := IntWalk.i64_in _ (by omega)
            have w3 : IntKind.i64.wrap ((m : Int) + 9 + (x.path.length : Int) + (x.key.length : Int)) = (m : Int) + 9 + (x.path.length : Int) + (x.key.length : Int) := IntWalk.i64_in _ (by omega)
            have w4 : IntKind.i64.wrap ((m : Int) + 9 + (x.path.length : Int) + (x.key.length : Int) + (x.val.length : Int)) = (m : Int) + 9 + (x.path.length : Int) + (x.key.length : Int) + (x.val.length : Int) := IntWalk.i64_in _ (by omega)
            have w5 : IntKind.i64.wrap ((m : Int) + 9 + (x.path.length : Int) + (x.key.length : Int) + (x.val.length : Int) + (x.old.length : Int)) = (m : Int) + 9 + (x.path.length : Int) + (x.key.length : Int) + (x.val.length : Int) + (x.old.length : Int) := IntWalk.i64_in _ (by omega)
            have HOK := Lib.hid hok
            clear hok h6 hmb
            go_wp2_with fail
            go_roundg (gk - 1)
            case measure => omega
            case rel =>
              have hok := HOK.out
              have hmb := HMB.out
              have hl := cmdB_len x
              refine ⟨i + 1, m + 9 + x.path.length + x.key.length + x.val.length + x.old.length, by omega, by go_num, by go_num, ?_, by omega, HO3.out, fun y hy => ?_⟩
              · rw [List.take_add_one, HX.out, HME.out]
                simp only [Option.toList_some, List.flatMap_append, List.length_append, List.flatMap_cons, List.flatMap_nil, List.append_nil, hl]
                omega
              · rw [List.take_add_one, HX.out] at hy
                simp at hy
                rcases hy with hy | rfl
                · exact HB.out y hy
                · exact hb
          | false =>
            have h1 : l.any (fun x => !okC x) = true := by
              rw [List.any_eq_true]
              exact ⟨x, List.mem_of_getElem? HX.out, by rw [hb]; rfl⟩
            have hq := HQ.out
            rw [h1, if_pos rfl] at hq
            subst hq
            go_wp2_with fail
            go_ret
            exact ⟨rfl, HO1.out.trans HO3.out (fun _ _ q => q)⟩
        · obtain rfl : i = l.length := by omega
          have hi1 : ¬ ((l.length : Int) < (l.length : Int)) := by omega
          have h1 : l.any (fun x => !okC x) = false := by
            rw [List.any_eq_false]
            intro x hx
            have := HB.out x (by rw [List.take_length]; exact hx)
            simp [this]
          have hq := HQ.out
          have hm2 := HME.out
          rw [List.take_length] at hm2
          rw [h1, if_neg (by simp), reqB_len] at hq
          dsimp only at hq
          rw [← hm2] at hq
          by_cases h8 : 8000 < m
          · rw [if_pos h8] at hq
            subst hq
            have e8 : decide (8000 < (m : Int)) = true := decide_eq_true (by omega)
            clear hm2 hmb h1 h6 h8
            go_wp2_with fail
            go_ret
            exact ⟨rfl, HO1.out.trans HO.out (fun _ _ q => q)⟩
          · rw [if_neg h8] at hq
            subst hq
            have e8 : decide (8000 < (m : Int)) = false := decide_eq_false (by omega)
            clear hm2 hmb h1 h6 h8
            go_wp2_with fail
            go_ret
            exact ⟨rfl, HO1.out.trans HO.out (fun _ _ q => q)⟩
end Go.Proofs.YtlkknekflgclgaaGreatDoor

namespace Go.Proofs.YtlkknekflgclgaaGreatDoor
open Go.RowKit Go.MuLone

set_option maxRecDepth 100000 in
theorem Rtext_is (w : World) (s : Bytes) (hs : s.length ≤ 65535) : Calls Tryz.prog 110 #[str s] w fun e w' => e = .returned (str (textL s)) ∧ Only (fun _ => False) w w' := by
  have HL := Lib.hid (RText_is w s hs)
  go_enter Tryz.func110, Tryz.ntmps110
  go_wp2_with fail
  (with_reducible refine HL.out.mono ?_)
  rintro e w2 ⟨rfl, o2⟩
  have HO := Lib.hid o2
  clear o2
  go_wp2_with fail
  go_ret
  exact ⟨rfl, HO.out⟩
theorem ba_app (a b : Bytes) : ({ data := a.toArray } : ByteArray) ++ { data := b.toArray } = { data := (a ++ b).toArray } := by
  congr 1
theorem u64N_nat (n : Nat) (h : n < 18446744073709551616) : u64N (n : Int) = n := by
  unfold u64N
  omega
set_option maxRecDepth 100000 in
set_option maxHeartbeats 4000000 in
theorem RLay_is (w : World) (r : ReqQ) (v : Value) (hv : RowAt cmdC 5 w v r.cmds) (hn : r.cmds.length ≤ 9223372036854775807) :
    Calls Tryz.prog 27 #[.agg #[.int .i64 r.client, .int .i64 r.seq, v]] w fun e w' => e = .returned (.tuple #[str (layQ r).1, .int .i64 (layQ r).2]) ∧ Only (fun _ => False) w w' := by
  obtain ⟨cl, sq, l⟩ := r
  dsimp only at *
  obtain ⟨a, cap, rfl, ha⟩ := row_len hv
  have o1 := (Only.refl (fun _ => False) w).alloc (.cells #[.int .i64 cl, .int .i64 sq, .slice a l.length cap] 52)
  have b1 := blk_new w (.cells #[.int .i64 cl, .int .i64 sq, .slice a l.length cap] 52)
  have HO1 := Lib.hid o1
  have HV := Lib.hid (row_still hv o1)
  have HA := Lib.hid ha
  have HC := Lib.hid (RCheck_is _ ⟨cl, sq, l⟩ _ (row_still hv o1) hn)
  by_cases hc : checkQ ⟨cl, sq, l⟩ = 0
  · have e1 : layQ ⟨cl, sq, l⟩ = (reqB ⟨cl, sq, l⟩, 0) := by unfold layQ; rw [if_neg (by rw [hc]; simp)]
    rw [e1]
    rw [hc] at HC
    dsimp only at HC ⊢
    have hgood : 0 ≤ cl ∧ cl ≤ 1099511627776 ∧ 0 ≤ sq ∧ sq ≤ 1099511627776 ∧ l.length ≤ 6 ∧ ∀ x ∈ l, okC x = true := by
      unfold checkQ at hc
      dsimp only at hc
      split at hc
      · cases hc
      · split at hc
        · cases hc
        · split at hc
          · cases hc
          · rename_i g1 g2 g3
            refine ⟨by omega, by omega, by omega, by omega, by omega, fun x hx => ?_⟩
            rw [Bool.not_eq_true, List.any_eq_false] at g3
            have := g3 x hx
            simpa using this
    obtain ⟨y1, y2, y3, y4, y5, HOK0⟩ := hgood
    obtain ⟨c, rfl⟩ := Int.eq_ofNat_of_zero_le y1
    obtain ⟨s, rfl⟩ := Int.eq_ofNat_of_zero_le y3
    have HOK := Lib.hid HOK0
    have H6 := Lib.hid y5
    have HR : Hid (reqB ⟨(c : Int), (s : Int), l⟩ = lowB c 8 ++ (lowB s 8 ++ (lowB l.length 1 ++ l.flatMap cmdB))) := Lib.hid (by
      unfold reqB
      dsimp only
      rw [u64N_nat c (by omega), u64N_nat s (by omega)])
    have HL1 := Lib.hid (fun W => Low_is W c 8 (by omega) (by omega))
    have HL2 := Lib.hid (fun W => Low_is W s 8 (by omega) (by omega))
    have HL3 := Lib.hid (fun W => Low_is W l.length 1 (by omega) (by omega))
    have x1 : IntKind.u64.wrap (c : Int) = (c : Int) := by simp [IntKind.wrap, IntKind.signed, IntKind.bits]; omega
    have x2 : IntKind.u64.wrap (s : Int) = (s : Int) := by simp [IntKind.wrap, IntKind.signed, IntKind.bits]; omega
    have x3 : IntKind.u64.wrap (l.length : Int) = (l.length : Int) := by simp [IntKind.wrap, IntKind.signed, IntKind.bits]; omega
    generalize reqB ⟨(c : Int), (s : Int), l⟩ = rb at *
    clear hv o1 ha hc e1 y1 y2 y3 y4 y5 HOK0 hn
    go_enter Tryz.func27, Tryz.ntmps27
    go_wp2_with fail
    generalize w.alloc (.cells #[.int .i64 (c : Int), .int .i64 (s : Int), .slice a l.length cap] 52) = W0 at *
    (with_reducible refine HC.out.mono ?_)
    rintro e w2 ⟨rfl, o2⟩
    have HO2 := Lib.hid (HO1.out.trans o2 (fun _ _ q => q))
    have HV2 := Lib.hid (row_still HV.out o2)
    have b2 := blk_keep b1 o2 id
    clear o2 HC HV b1 HO1
    have c0 := blk_cell b2 0
    have c1 := blk_cell b2 1
    have c2 := blk_cell b2 2
    have q0 : ∀ p : Grew w2, p.u.cell? ⟨w.heap.size, 0, none⟩ = some (.int .i64 (c : Int)) := fun p => p.cell c0
    have q1 : ∀ p : Grew w2, p.u.cell? ⟨w.heap.size, 1, none⟩ = some (.int .i64 (s : Int)) := fun p => p.cell c1
    have q2 : ∀ p : Grew w2, p.u.cell? ⟨w.heap.size, 2, none⟩ = some (.slice a l.length cap) := fun p => p.cell c2
    have k1 : ¬ 9223372036854775807 < (lowB c 8).length + (lowB s 8).length := by rw [lowB_length, lowB_length]; omega
    have k2 : ¬ 9223372036854775807 < (lowB c 8).length + (lowB s 8).length + (lowB l.length 1).length := by rw [lowB_length, lowB_length, lowB_length]; omega
    go_wp2_with fail
    refine wp_region_grew (by kernel_rfl) (by kernel_rfl) (fun _W h0 h1 => ?_)
    repeat (refine h1 _ _ _ (fun K hK => ?_); go_simp; first | (refine hK _ ?_; clear hK K) | (apply Exists.intro; refine ⟨fun p => ?_, hK _ ?_⟩; first | (with_reducible refine Grew.calls _ (HL1.out _)) | (with_reducible refine Grew.calls _ (HL2.out _)) | (with_reducible refine Grew.calls _ (HL3.out _)); clear hK K))
    refine h0 _ (fun p => ?_)
    clear h0 h1 q0 q1 q2 HL1 HL2 HL3 k1 k2
    have hp := p.h
    generalize p.u = w3 at hp ⊢
    have HO3 := Lib.hid (HO2.out.trans hp (fun _ _ q => q))
    have HV3 := Lib.hid (row_still HV2.out hp)
    have b3 := blk_keep b2 hp id
    have hpl : (lowB c 8 ++ lowB s 8 ++ lowB l.length 1).length = 17 := by simp only [List.length_append, lowB_length]
    have hpr : rb = (lowB c 8 ++ lowB s 8 ++ lowB l.length 1) ++ l.flatMap cmdB := by rw [HR.out]; simp only [List.append_assoc]
    simp only [ba_app]
    generalize lowB c 8 ++ lowB s 8 ++ lowB l.length 1 = pre at *
    have HPL := Lib.hid hpl
    have HPR := Lib.hid hpr
    have HC2 : Hid (∀ W, Only (fun _ => False) w3 W → W.cell? ⟨w.heap.size, 2, none⟩ = some (.slice a l.length cap)) := Lib.hid (fun W hW => blk_cell (blk_keep b3 hW id) 2)
    clear hp p hpl hpr HR HO2 HV2 b2 b3 c0 c1 c2 x1 x2 x3
    go_wp2_with fail
    go_loopg [5, 6] l.length (fun gh sv iv wr => ∃ i : Nat, gh + i = l.length ∧ iv = .int .i64 i ∧ sv = .string ⟨(pre ++ (l.take i).flatMap cmdB).toArray⟩ ∧ (pre ++ (l.take i).flatMap cmdB).length ≤ 17 + i * 9200 ∧ Only (fun _ => False) w3 wr)
    case atStart => exact ⟨0, by omega, rfl, by simp, by simp [HPL.out], Only.refl _ _⟩
    case round =>
      obtain ⟨i, hgk, rfl, rfl, hlen, ho⟩ := hrel
      have HOw := Lib.hid ho
      have z2 := HC2.out wr ho
      have HT : Hid (∀ x, l[i]? = some x → (pre ++ (l.take (i + 1)).flatMap cmdB) = (pre ++ (l.take i).flatMap cmdB) ++ cmdB x) := Lib.hid (fun x hx => by
        rw [List.take_add_one, hx]
        simp [List.flatMap_append])
      have HE : Hid (i = l.length → pre ++ (l.take i).flatMap cmdB = rb) := Lib.hid (fun h => by rw [h, List.take_length, HPR.out])
      generalize hte : pre ++ (l.take (i + 1)).flatMap cmdB = T2 at *
      have HTE := Lib.hid hte
      clear hte
      generalize pre ++ (l.take i).flatMap cmdB = T at *
      have HLN := Lib.hid hlen
      have h6 := H6.out
      clear ho
      by_cases hi : i < l.length
      · obtain ⟨x, hx⟩ : ∃ x, l[i]? = some x := ⟨_, List.getElem?_eq_getElem hi⟩
        obtain ⟨g, off, rfl⟩ := HA.out (fun e => by rw [e] at hi; simp at hi)
        obtain ⟨c0, c1, c2, c3, c4⟩ := cmd_at (row_still HV3.out HOw.out) hx
        have hok := okC_parts (HOK.out x (List.mem_of_getElem? hx))
        have hT := HT.out x hx
        obtain ⟨kd, pa, ke, va, ol⟩ := x
        dsimp only at hok c0 c1 c2 c3 c4
        obtain ⟨kn, rfl⟩ := Int.eq_ofNat_of_zero_le (show 0 ≤ kd by omega)
        have hT3 : T2 = T ++ lowB kn 1 ++ textL pa ++ textL ke ++ textL va ++ textL ol := by rw [hT]; simp [cmdB]
        have HT3 := Lib.hid hT3
        have hi1 : (i : Int) < (l.length : Int) := by omega
        have hwi : IntKind.i64.wrap ((i : Int) + 1) = (i : Int) + 1 := IntWalk.i64_in _ (by omega)
        have HL1 := Lib.hid (fun W => Low_is W kn 1 (by omega) (by omega))
        have HL2 := Lib.hid (fun W => Rtext_is W pa (by omega))
        have HL3 := Lib.hid (fun W => Rtext_is W ke (by omega))
        have HL4 := Lib.hid (fun W => Rtext_is W va (by omega))
        have HL5 := Lib.hid (fun W => Rtext_is W ol (by omega))
        have x1 : IntKind.u64.wrap (kn : Int) = (kn : Int) := by simp [IntKind.wrap, IntKind.signed, IntKind.bits]; omega
        have bx := blk_new wr (.cells #[.int .i64 (kn : Int), str pa, str ke, str va, str ol] 119)
        have l1 : (textL pa).length = 2 + pa.length := by simp only [textL, List.length_append, lowB_length]
        have l2 : (textL ke).length = 2 + ke.length := by simp only [textL, List.length_append, lowB_length]
        have l3 : (textL va).length = 2 + va.length := by simp only [textL, List.length_append, lowB_length]
        have l4 : (textL ol).length = 2 + ol.length := by simp only [textL, List.length_append, lowB_length]
        have l0 := lowB_length kn 1
        have HT2 : Hid (T2.length ≤ 17 + (i + 1) * 9200) := Lib.hid (by rw [hT3]; simp only [List.length_append]; omega)
        have k1 : ¬ 9223372036854775807 < T.length + (lowB kn 1).length := by omega
        have k2 : ¬ 9223372036854775807 < T.length + (lowB kn 1).length + (textL pa).length := by omega
        have k3 : ¬ 9223372036854775807 < T.length + (lowB kn 1).length + (textL pa).length + (textL ke).length := by omega
        have k4 : ¬ 9223372036854775807 < T.length + (lowB kn 1).length + (textL pa).length + (textL ke).length + (textL va).length := by omega
        have k5 : ¬ 9223372036854775807 < T.length + (lowB kn 1).length + (textL pa).length + (textL ke).length + (textL va).length + (textL ol).length := by omega
        have oX := (Only.refl (fun _ => False) wr).alloc (.cells #[.int .i64 (kn : Int), str pa, str ke, str va, str ol] 119)
        have HOX := Lib.hid (HOw.out.trans oX (fun _ _ q => q))
        clear hx hT hT3 hok l0 l1 l2 l3 l4 hlen h6 HT HE oX
        generalize textL pa = A1 at *
        generalize textL ke = A2 at *
        generalize textL va = A3 at *
        generalize textL ol = A4 at *
        generalize lowB kn 1 = A0 at *
        go_wp2_with fail
        generalize wr.alloc (.cells #[.int .i64 (kn : Int), str pa, str ke, str va, str ol] 119) = wx at *
        have q0 : ∀ p : Grew wx, p.u.cell? ⟨wr.heap.size, 0, none⟩ = some (.int .i64 (kn : Int)) := fun p => blk_cell (blk_keep bx p.h id) 0
        have q1 : ∀ p : Grew wx, p.u.cell? ⟨wr.heap.size, 1, none⟩ = some (str pa) := fun p => blk_cell (blk_keep bx p.h id) 1
        have q2 : ∀ p : Grew wx, p.u.cell? ⟨wr.heap.size, 2, none⟩ = some (str ke) := fun p => blk_cell (blk_keep bx p.h id) 2
        have q3 : ∀ p : Grew wx, p.u.cell? ⟨wr.heap.size, 3, none⟩ = some (str va) := fun p => blk_cell (blk_keep bx p.h id) 3
        have q4 : ∀ p : Grew wx, p.u.cell? ⟨wr.heap.size, 4, none⟩ = some (str ol) := fun p => blk_cell (blk_keep bx p.h id) 4
        clear c0 c1 c2 c3 c4 z2 bx
        refine wp_region_grew (by kernel_rfl) (by kernel_rfl) (fun _W h0 h1 => ?_)
        repeat (refine h1 _ _ _ (fun K hK => ?_); go_simp; first | (refine hK _ ?_; clear hK K) | (apply Exists.intro; refine ⟨fun p => ?_, hK _ ?_⟩; first | (with_reducible refine Grew.calls _ (HL1.out _)) | (with_reducible refine Grew.calls _ (HL2.out _)) | (with_reducible refine Grew.calls _ (HL3.out _)) | (with_reducible refine Grew.calls _ (HL4.out _)) | (with_reducible refine Grew.calls _ (HL5.out _)); clear hK K))
        refine h0 _ (fun p => ?_)
        clear h0 h1 q0 q1 q2 q3 q4 HL1 HL2 HL3 HL4 HL5 k1 k2 k3 k4 k5
        simp only [ba_app]
        rw [← HT3.out]
        go_wp2_with fail
        go_roundg (gk - 1)
        case measure => omega
        case rel => exact ⟨i + 1, by omega, by go_num, by rw [HTE.out], by rw [HTE.out]; exact HT2.out, HOX.out.trans p.h (fun _ _ q => q)⟩
      · obtain rfl : i = l.length := by omega
        have hi1 : ¬ ((l.length : Int) < (l.length : Int)) := by omega
        have he := HE.out rfl
        subst he
        clear hlen h6
        go_wp2_with fail
        go_ret2
        exact ⟨rfl, HO3.out.trans HOw.out (fun _ _ q => q)⟩
  · have e1 : layQ ⟨cl, sq, l⟩ = ([], checkQ ⟨cl, sq, l⟩) := if_pos hc
    rw [e1]
    dsimp only at HC ⊢
    generalize checkQ ⟨cl, sq, l⟩ = cc at *
    have e2 : (cc != 0) = true := by simpa using hc
    clear hv o1 ha b1 e1 hc
    go_enter Tryz.func27, Tryz.ntmps27
    go_wp2_with fail
    (with_reducible refine HC.out.mono ?_)
    rintro e w2 ⟨rfl, o2⟩
    have HF := Lib.hid (HO1.out.trans o2 (fun _ _ q => q))
    clear o2
    go_wp2_with fail
    go_ret2
    exact ⟨rfl, HF.out⟩
end Go.Proofs.YtlkknekflgclgaaGreatDoor

namespace Go.Proofs.YtlkknekflgclgaaGreatDoor
open Go.RowKit Go.MuLone

set_option maxRecDepth 100000 in
set_option maxHeartbeats 4000000 in
theorem REntry_is (w : World) (i t : Int) (r : ReqQ) (v : Value) (hv : RowAt cmdC 5 w v r.cmds) (hn : r.cmds.length ≤ 9223372036854775807) :
    Calls Tryz.prog 28 #[.agg #[.int .i64 i, .int .i64 t, .int .i64 r.client, .int .i64 r.seq, v]] w fun e w' => e = .returned (.tuple #[str (entryQ i t r).1, .int .i64 (entryQ i t r).2]) ∧ Only (fun _ => False) w w' := by
  obtain ⟨cl, sq, l⟩ := r
  obtain ⟨a, cap, rfl, ha⟩ := row_len hv
  dsimp only at *
  have o1 := (Only.refl (fun _ => False) w).alloc (.cells #[.int .i64 i, .int .i64 t, .int .i64 cl, .int .i64 sq, .slice a l.length cap] 57)
  have HO1 := Lib.hid o1
  have HK := Lib.hid (RLay_is _ ⟨cl, sq, l⟩ (.slice a l.length cap) (row_still hv o1) hn)
  have b1 := blk_new w (.cells #[.int .i64 i, .int .i64 t, .int .i64 cl, .int .i64 sq, .slice a l.length cap] 57)
  have HC2 : Hid (∀ W, Only (fun _ => False) (w.alloc (.cells #[.int .i64 i, .int .i64 t, .int .i64 cl, .int .i64 sq, .slice a l.length cap] 57)) W → W.cell? ⟨w.heap.size, 0, none⟩ = some (.int .i64 i) ∧ W.cell? ⟨w.heap.size, 1, none⟩ = some (.int .i64 t)) := Lib.hid (fun W hW => by
    have n2 := blk_keep b1 hW id
    exact ⟨blk_cell n2 0, blk_cell n2 1⟩)
  have hlq : layQ ⟨cl, sq, l⟩ = if checkQ ⟨cl, sq, l⟩ ≠ 0 then ([], checkQ ⟨cl, sq, l⟩) else (reqB ⟨cl, sq, l⟩, 0) := rfl
  have hshort : checkQ ⟨cl, sq, l⟩ = 0 → (reqB ⟨cl, sq, l⟩).length ≤ 8000 := fun h => (good_of h).short
  rw [hlq] at HK
  clear hv ha o1 b1 hlq hn
  unfold entryQ
  generalize hreq : reqB ⟨cl, sq, l⟩ = rb at *
  generalize hz : checkQ ⟨cl, sq, l⟩ = z at *
  dsimp only at *
  by_cases hbad : i < 0 ∨ 2147483647 < i ∨ t < 0 ∨ 2147483647 < t
  · rw [if_pos hbad]
    have h5 : i < 0 ∨ (0 ≤ i ∧ 2147483648 ≤ i) ∨ (0 ≤ i ∧ i < 2147483648 ∧ t < 0) ∨ (0 ≤ i ∧ i < 2147483648 ∧ 0 ≤ t ∧ 2147483648 ≤ t) := by omega
    clear hbad HK HC2
    dsimp only
    rcases h5 with g1 | ⟨g1, g2⟩ | ⟨g1, g2, g3⟩ | ⟨g1, g2, g3, g4⟩
    all_goals
      go_enter Tryz.func28, Tryz.ntmps28
      go_wp2_with fail
      go_ret2
      exact ⟨rfl, HO1.out⟩
  · rw [if_neg hbad]
    have hgood : ¬ i < 0 ∧ ¬ 2147483648 ≤ i ∧ ¬ t < 0 ∧ ¬ 2147483648 ≤ t := by omega
    obtain ⟨y1, y2, y3, y4⟩ := hgood
    have e1 : decide (i < 0) = false := decide_eq_false y1
    have e2 : decide (2147483648 ≤ i) = false := decide_eq_false y2
    have e3 : decide (t < 0) = false := decide_eq_false y3
    have e4 : decide (2147483648 ≤ t) = false := decide_eq_false y4
    clear hbad
    by_cases hz0 : z = 0
    · subst hz0
      have hsh := hshort rfl
      rw [if_neg (fun q => q rfl)] at HK ⊢
      dsimp only at HK ⊢
      clear hshort
      obtain ⟨ni, rfl⟩ := Int.eq_ofNat_of_zero_le (show 0 ≤ i by omega)
      obtain ⟨ni2, rfl⟩ := Int.eq_ofNat_of_zero_le (show 0 ≤ t by omega)
      rw [Int.toNat_natCast, Int.toNat_natCast]
      have HL1 := Lib.hid (fun W => Low_is W ni 4 (by omega) (by omega))
      have HL2 := Lib.hid (fun W => Low_is W ni2 4 (by omega) (by omega))
      have x1 : IntKind.u64.wrap (ni : Int) = (ni : Int) := by simp [IntKind.wrap, IntKind.signed, IntKind.bits]; omega
      have x2 : IntKind.u64.wrap (ni2 : Int) = (ni2 : Int) := by simp [IntKind.wrap, IntKind.signed, IntKind.bits]; omega
      have k1 : ¬ 9223372036854775807 < (lowB ni 4).length + (lowB ni2 4).length := by rw [lowB_length, lowB_length]; omega
      have k2 : ¬ 9223372036854775807 < (lowB ni 4).length + (lowB ni2 4).length + rb.length := by rw [lowB_length, lowB_length]; omega
      have hfin : lowB ni 4 ++ (lowB ni2 4 ++ rb) = lowB ni 4 ++ lowB ni2 4 ++ rb := by rw [List.append_assoc]
      rw [hfin]
      clear hfin hsh hreq hz
      generalize lowB ni 4 = A0 at *
      generalize lowB ni2 4 = A1 at *
      go_enter Tryz.func28, Tryz.ntmps28
      go_wp2_with fail
      (with_reducible refine HK.out.mono ?_)
      rintro e W0 ⟨rfl, o2⟩
      have HF := Lib.hid (HO1.out.trans o2 (fun _ _ q => q))
      obtain ⟨c0, c1⟩ := HC2.out W0 o2
      clear o2 HC2
      have q0 : ∀ p : Grew W0, p.u.cell? ⟨w.heap.size, 0, none⟩ = some (.int .i64 (ni : Int)) := fun p => p.cell c0
      have q1 : ∀ p : Grew W0, p.u.cell? ⟨w.heap.size, 1, none⟩ = some (.int .i64 (ni2 : Int)) := fun p => p.cell c1
      go_wp2_with fail
      refine wp_region_grew (by kernel_rfl) (by kernel_rfl) (fun _W h0 h1 => ?_)
      repeat (refine h1 _ _ _ (fun K hK => ?_); go_simp; first | (refine hK _ ?_; clear hK K) | (apply Exists.intro; refine ⟨fun p => ?_, hK _ ?_⟩; first | (with_reducible refine Grew.calls _ (HL1.out _)) | (with_reducible refine Grew.calls _ (HL2.out _)); clear hK K))
      refine h0 _ (fun p => ?_)
      clear h0 h1 q0 q1 HL1 HL2 k1 k2
      simp only [ba_app]
      have HF2 := Lib.hid (HF.out.trans p.h (fun _ _ q => q))
      go_wp2_with fail
      go_ret2
      exact ⟨rfl, HF2.out⟩
    · rw [if_pos hz0] at HK ⊢
      dsimp only at HK ⊢
      have hb2 : (z != 0) = true := by simpa using hz0
      clear hshort hreq hz hz0
      go_enter Tryz.func28, Tryz.ntmps28
      go_wp2_with fail
      (with_reducible refine HK.out.mono ?_)
      rintro e W0 ⟨rfl, o2⟩
      have HF := Lib.hid (HO1.out.trans o2 (fun _ _ q => q))
      clear o2 HC2
      go_wp2_with fail
      go_ret2
      exact ⟨rfl, HF.out⟩
end Go.Proofs.YtlkknekflgclgaaGreatDoor
