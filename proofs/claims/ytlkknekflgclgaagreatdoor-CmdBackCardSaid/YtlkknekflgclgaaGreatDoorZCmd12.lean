/- Package rootstocklaw19: the first call whose answer the document fixes. Conditions: one goroutine; the table of powers is laid. -/
import Derived.Test.YtlkknekflgclgaaGreatDoorZCmd11
import Derived.Deep.RegionHeld3
namespace Go.Proofs.YtlkknekflgclgaaGreatDoor
open Go.RowKit

theorem blk_still {w w' : World} {b : Nat} {o : Obj} (h : w.heap[b]? = some o) {F : Nat → Prop} (ho : Only F w w') (hF : ¬ F b) : w'.heap[b]? = some o := (ho.block b (blk_lt h) hF).trans h
theorem itoa5 : Lib.itoa (0 + 5) = [53] := by kernel_rfl
theorem itoa2 : Lib.itoa (5 + -7) = [45, 50] := by kernel_rfl
theorem name_ne : nameL [] [] ≠ nameL [] [110] := by decide
theorem itoa0 : Lib.itoa 0 = [48] := by kernel_rfl
set_option maxRecDepth 100000 in
set_option maxHeartbeats 4000000 in
theorem alive_is (w : World) (nt : Nat) (hT : Tab nt w) (hnt : nt ≤ w.heap.size) :
    Calls Tryz.prog 17 #[] w fun e w' => e = .returned (.bool true) ∧ Only (fun _ => False) w w' := by
  have HN := Lib.hid (New_is w)
  have HT := Lib.hid hT
  clear hT
  go_enter Tryz.func17, Tryz.ntmps17
  go_wp2_with fail
  (with_reducible refine HN.out.mono ?_)
  rintro _ w2 ⟨st, r, a, b, rfl, hst, hB, ho, h1, h2, h3, h4, h5, h6, h7⟩
  have HT2 := Lib.hid (HT.out.still ho)
  have HA : Hid (Calls Tryz.prog 92 #[.pointer (some ⟨st, 0, none⟩), .agg #[.int .i64 3, .string ⟨#[]⟩, .string ⟨#[110]⟩, .string ⟨#[53]⟩, .string ⟨#[]⟩]] w2 fun e w' => e = .returned (.agg #[.int .i64 0, .string ⟨#[53]⟩]) ∧ BoxAt w' r { newBox a b with V := upM (fun _ => none) [110] [53], nv := 1 } ∧ Only (fun j => j = a) w2 w') := Lib.hid (by
    have h := SAdd_is w2 st r nt [110] [53] (newBox a b) 0 5 hst (by exact h5) (by decide) hB HT2.out (by show nt ≤ a; omega) (by decide) (by decide) rfl (by show 0 < maxLen; decide) (by show ([48] : Bytes).length ≤ maxLen; decide) (by show numS [48] = some 0; decide) (by decide) (by decide) (by rw [itoa5]; decide)
    rw [itoa5] at h
    exact h)
  have HO := Lib.hid ho
  have HST := Lib.hid hst
  have l1 := blk_lt hst
  have l2 := hB.lt
  have l3 : a < w2.heap.size := hB.vals.lt
  clear HN HT hst hB ho
  go_wp2_with fail
  (with_reducible refine HA.out.mono ?_)
  rintro _ w3 ⟨rfl, hb, o3⟩
  have oa := (Only.refl (fun _ => False) w3).alloc (.cells #[.int .i64 0, .string ⟨#[53]⟩] 68)
  have na := blk_new w3 (.cells #[.int .i64 0, .string ⟨#[53]⟩] 68)
  have O3 := Lib.hid o3
  have HT3 := Lib.hid ((HT2.out.only o3 (fun j hj => by omega)).still oa)
  have HST3 := Lib.hid (blk_still (blk_still HST.out o3 h5) oa id)
  have h32 := o3.size
  have HA2 : Hid (Calls Tryz.prog 92 #[.pointer (some ⟨st, 0, none⟩), .agg #[.int .i64 3, .string ⟨#[]⟩, .string ⟨#[110]⟩, .string ⟨#[45, 55]⟩, .string ⟨#[]⟩]] (w3.alloc (.cells #[.int .i64 0, .string ⟨#[53]⟩] 68)) fun e w' => e = .returned (.agg #[.int .i64 0, .string ⟨#[45, 50]⟩]) ∧ BoxAt w' r { newBox a b with V := upM (upM (fun _ => none) [110] [53]) [110] [45, 50], nv := 2 } ∧ Only (fun j => j = a) (w3.alloc (.cells #[.int .i64 0, .string ⟨#[53]⟩] 68)) w') := Lib.hid (by
    have h := SAdd_is _ st r nt [110] [45, 55] _ 5 (-7) HST3.out (by exact h5) (by decide) (hb.still oa) HT3.out (by show nt ≤ a; omega) (by decide) (by decide) rfl (by show 1 < maxLen; decide) (by show ([53] : Bytes).length ≤ maxLen; decide) (by show numS [53] = some 5; decide) (by decide) (by decide) (by rw [itoa2]; decide)
    rw [itoa2] at h
    exact h)
  have OA := Lib.hid oa
  have NA := Lib.hid na
  clear HA hb o3 oa na HT2 HST
  generalize hwa : w3.alloc (.cells #[.int .i64 0, .string ⟨#[53]⟩] 68) = wa at *
  go_wp2_with fail
  (with_reducible refine HA2.out.mono ?_)
  rintro _ w4 ⟨rfl, hb, o4⟩
  have ob := (Only.refl (fun _ => False) w4).alloc (.cells #[.int .i64 0, .string ⟨#[45, 50]⟩] 68)
  have HNB := Lib.hid (blk_new w4 (.cells #[.int .i64 0, .string ⟨#[45, 50]⟩] 68))
  have HT4 := Lib.hid ((HT3.out.only o4 (fun j hj => by omega)).still ob)
  have HST4 := Lib.hid (blk_still (blk_still HST3.out o4 h5) ob id)
  have HNA4 := Lib.hid (blk_still (blk_still NA.out o4 (by omega)) ob id)
  have HOb : Hid (Only (fun _ => False) w (w4.alloc (.cells #[.int .i64 0, .string ⟨#[45, 50]⟩] 68))) := Lib.hid (by
    have q1 := Only.trans (S := fun j => j = a) (HO.out.mono (fun _ _ (q : False) => q.elim)) O3.out (fun _ _ q => q)
    have q2 := q1.trans OA.out (fun _ _ (q : False) => q.elim)
    have q3 := q2.trans o4 (fun _ _ q => q)
    exact (q3.trans ob (fun _ _ (q : False) => q.elim)).mono (fun i hi q => by omega))
  have h42 := o4.size
  have h43 := OA.out.size
  have HA3 := Lib.hid (All_is _ st r nt _ [110] [45, 50] HST4.out (hb.still ob) (by decide) ⟨by show (-9223372036854775808 : Int) ≤ 0; decide, by show (0 : Int) ≤ _; decide⟩ (fun x => by show upM (upM (fun _ => none) [110] [53]) [110] [45, 50] x = _; unfold upM; split <;> rfl) (fun _ => rfl) HT4.out (by have := ob.size; omega) name_ne)
  clear HA2 hb o4 ob
  generalize hwb : w4.alloc (.cells #[.int .i64 0, .string ⟨#[45, 50]⟩] 68) = wb at *
  go_wp2_with fail
  (with_reducible refine HA3.out.mono ?_)
  rintro _ w5 ⟨o, rfl, hm, o5⟩
  have HM := Lib.hid hm
  have HO5 := Lib.hid (HOb.out.trans o5 (fun _ _ (q : False) => q.elim))
  have NA5 := blk_still HNA4.out o5 id
  have NB5 := blk_still HNB.out o5 id
  have c0 := blk_cell NA5 0
  have c1 := blk_cell NA5 1
  have e0 := blk_cell NB5 0
  have e1 := blk_cell NB5 1
  simp only [List.getElem?_toArray, List.getElem?_cons_zero, List.getElem?_cons_succ] at c0 c1 e0 e1
  have HNm : Hid (∀ W, Calls Tryz.prog 94 #[.string ⟨#[]⟩, .string ⟨#[110]⟩] W fun e w' => e = .returned (str (nameL [] [110])) ∧ Only (fun _ => False) W w') := Lib.hid (fun W => RName_is W [] [110] (by decide) (by decide))
  have HLk : Hid (∀ W, Only (fun _ => False) w5 W → (Instr.lookup 123 (.map (some o)) (str (nameL [] [110])) false).run Tryz.prog W = .ok (.string ⟨#[45, 50]⟩) W) := Lib.hid (fun W hW => by
    have h := (HM.out.only hW id).is.look (t := 123) (by kernel_rfl) (by kernel_rfl) false (nameL [] [110]) (by decide)
    have h2 : upM (upM (fun _ => none) (nameL [] []) (Lib.itoa (newBox a b).seq)) (nameL [] [110]) [45, 50] (nameL [] [110]) = some [45, 50] := if_pos rfl
    rw [h2] at h
    exact h)
  have hlen := HM.out.len (t := 123) (by kernel_rfl) 3
  clear hm o5 NA5 NB5 HT3 HT4 HST3 HST4 HNA4 HA3 hwa hwb
  go_wp2_with fail
  (with_reducible refine (HNm.out _).mono ?_)
  rintro _ w6 ⟨rfl, o6⟩
  have hlk := HLk.out w6 o6
  have HO6 := Lib.hid (HO5.out.trans o6 (fun _ _ q => q))
  clear o6 hlen c0 c1 e0 e1
  generalize hnm : str (nameL [] [110]) = nm at *
  go_wp2_with fail
  go_ret
  exact ⟨rfl, HO6.out⟩
end Go.Proofs.YtlkknekflgclgaaGreatDoor
