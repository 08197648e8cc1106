/- WalkBetween: the items between two keys, as many as one asks for; lists kept, marked, grown. Conditions: one goroutine; the arguments lie in memory. -/
import Derived.Test.YtklccpaphkpgfaaGreatZBetw1
import Derived.Test.YtklccpaphkpgfaaGreatZLaw5
namespace Go.Proofs.YtklccpaphkpgfaaGreat
open Go.RowKit

set_option maxRecDepth 100000 in
set_option maxHeartbeats 40000000 in
theorem Betw_is (w : World) (v : Value) (l : List Item) (from_ to : Bytes) (most : Int) (h : RowAt itemC 3 w v l) (hlt : ∀ j, rowBlock v = some j → j < w.heap.size) (hn : l.length ≤ 9223372036854775807) (hlen : ∀ x ∈ l, x.key.length ≤ 9223372036854775807 ∧ x.val.length ≤ 9223372036854775807) :
    Calls Tryz.prog 3 #[v, str from_, str to, .int .i64 most] w (fun e w' => e = .returned (.bool true) ∧ Only (fun _ => False) w w') := by
  obtain ⟨i0, hi0, hz0, hz1, hz2⟩ := info_parts itemInfo
  obtain ⟨a, c, rfl⟩ := row_form h
  have HL := Lib.hid (Light_is w _ l h hn hlen)
  have HAL := Lib.hid alive_is
  have HR := Lib.hid (And.intro h hlt)
  clear h hlt hlen
  go_enter Tryz.func3, Tryz.ntmps3
  go_wp2_with fail
  (with_reducible refine HL.out.mono ?_)
  rintro e w1 ⟨bl, rfl, hbl, o1⟩
  have HO1 := Lib.hid o1
  have HBL := Lib.hid hbl
  clear hbl o1 HL
  cases bl with
  | false =>
    go_wp2_with fail
    (with_reducible refine (HAL.out w1).mono ?_)
    rintro e w2 ⟨rfl, o2⟩
    go_wp2_with fail
    go_ret
    exact ⟨rfl, HO1.out.trans o2 (fun _ _ q => q)⟩
  | true =>
    have hl150 : l.length ≤ 150 := HBL.out rfl
    by_cases hf60 : from_.length ≤ 60
    · have hf1 : ¬ (60 : Int) < (from_.length : Int) := by omega
      by_cases ht60 : to.length ≤ 60
      · have ht1 : ¬ (60 : Int) < (to.length : Int) := by omega
        go_wp2_with fail
        (with_reducible refine (HAL.out w1).mono ?_)
        rintro e w2 ⟨rfl, o2⟩
        have HMD := Lib.hid (Made_is w2 _ l (row_only HR.out.1 (HO1.out.trans o2 (fun _ _ q => q)) (fun _ _ => id)) (fun j hj => Nat.lt_of_lt_of_le (HR.out.2 j hj) (HO1.out.trans o2 (fun _ _ q => q)).size) hl150)
        have HO2 := Lib.hid (HO1.out.trans o2 (fun _ _ q => q))
        clear o2 HO1 HAL hf60 ht60
        go_wp2_with fail
        (with_reducible refine HMD.out.mono ?_)
        rintro e w3 ⟨b, root, vh, S, rfl, hP, hT, _, hRR, hA, ho3, hb3⟩
        have hG := hT.grown hl150
        obtain ⟨ah, nh, ch, rfl⟩ := capOk_form hRR.cap
        obtain rfl := row_n2 hRR.row
        have hml := madeL_length l
        have hmr := madeL_right l
        generalize madeL l = hv at *
        have hv150 : hv.length ≤ 150 := by omega
        have HX := Lib.hid (And.intro hP (And.intro hG (And.intro hRR (And.intro hA (And.intro (HO2.out.trans ho3 (fun _ _ q => q)) (fun j q => Nat.le_trans HO2.out.size (hb3 j q)))))))
        have HRIS := Lib.hid ((rightL_iff _).1 hmr).2
        clear hP hG hRR hA ho3 hb3 hT hmr hml HMD HO2 hf1 ht1
        go_wp2_with fail
        go_loopg [12, 13] hv.length (fun gh ov iv wr => ∃ i : Nat, gh + i = hv.length ∧ iv = .int .i64 i ∧ wr.ownsRow 0 29 3 ov (wantTo hv from_ to i).length ((wantTo hv from_ to i).flatMap itemC) ∧ (wantTo hv from_ to i).length ≤ most.toNat ∧ Only (fun _ => False) w3 wr ∧ ∀ j, ov.ownBlock = some j → w3.heap.size ≤ j)
        case atStart => exact ⟨0, by omega, rfl, ⟨rfl, .inl ⟨rfl, rfl⟩⟩, Nat.zero_le _, Only.refl _ w3, fun j hj => by simp [Value.ownBlock] at hj⟩
        case round =>
          obtain ⟨i, hgi, rfl, hown, hle, ho, hnew⟩ := hrel
          obtain ⟨aO, cO, rfl⟩ := ownsRow_form hown
          obtain ⟨W, hW⟩ : ∃ W, wantTo hv from_ to i = W := ⟨_, rfl⟩
          have hWl : W.length ≤ 150 := by have := wantTo_length hv from_ to i; rw [hW] at this; omega
          rw [hW] at hown hle hnew ⊢
          have HW := Lib.hid (And.intro hown (And.intro hle (And.intro ho (And.intro hnew hW))))
          clear hown hle ho hnew hW
          by_cases hcond : i < hv.length ∧ (W.length : Int) < most
          · obtain ⟨hi, hwm⟩ := hcond
            have hi2 : (i : Int) < (hv.length : Int) := by omega
            have hi3 : (0 : Int) ≤ (i : Int) := by omega
            have hw1 : IntKind.i64.wrap ((i : Int) + 1) = (i : Int) + 1 := by exact IntWalk.i64_in _ (by omega)
            obtain ⟨x, hx⟩ : ∃ x, hv[i]? = some x := ⟨_, List.getElem?_eq_getElem hi⟩
            have hrow := row_only HX.out.2.2.1.row HW.out.2.2.1 (fun _ _ => fun q => q)
            obtain ⟨g, off, rfl, x0, x1, x2⟩ := row_item hrow hx
            have HNX := Lib.hid (wantTo_next (from_ := from_) (to := to) hx)
            clear hrow hx hi
            obtain ⟨b1, hb1⟩ : ∃ b1, Op.bytesLess x.key from_ = b1 := ⟨_, rfl⟩
            obtain ⟨b2, hb2⟩ : ∃ b2, to.isEmpty = b2 := ⟨_, rfl⟩
            obtain ⟨b3, hb3⟩ : ∃ b3, Op.bytesLess x.key to = b3 := ⟨_, rfl⟩
            have HBK : Hid (belowK to x = (b2 || b3)) := Lib.hid (by unfold belowK; rw [hb2, hb3])
            have HB1 := Lib.hid hb1
            have hskip : (!b1 && (b2 || b3)) = false → wantTo hv from_ to (i + 1) = W := fun q => by
              have h5 := HNX.out
              rw [HB1.out, HBK.out, q, HW.out.2.2.2.2] at h5
              simpa using h5
            have htake : (!b1 && (b2 || b3)) = true → wantTo hv from_ to (i + 1) = W ++ [x] := fun q => by
              have h5 := HNX.out
              rw [HB1.out, HBK.out, q, HW.out.2.2.2.2] at h5
              simpa using h5
            have HSK := Lib.hid hskip
            have HTK := Lib.hid htake
            have HOWN := Lib.hid (HW.out.1.alloc (.cells #[str x.key, str x.val, .int .i64 x.kind] 29))
            have HCE := Lib.hid (cells_new wr (itemC x) 29 (0, 0))
            have HOA := Lib.hid ((Only.refl (fun _ => False) wr).alloc (.cells #[str x.key, str x.val, .int .i64 x.kind] 29))
            have hmax : W.length + 1 ≤ maxLen := by unfold maxLen; omega
            have HWM := Lib.hid hwm
            clear hskip htake
            have hskips : b1 = true ∨ (b1 = false ∧ b2 = false ∧ b3 = false) ∨ ((!b1 && (b2 || b3)) = true ∧ ((b1 = false ∧ b2 = true) ∨ (b1 = false ∧ b2 = false ∧ b3 = true))) := by
              cases b1 <;> cases b2 <;> cases b3 <;> simp
            rcases hskips with hb | hb | ⟨htk, hb⟩
            · as_aux_lemma =>
              subst hb
              have HE := Lib.hid (HSK.out rfl)
              clear hb2 hb3
              go_wp2_with fail
              go_roundg (hv.length - (i + 1))
              case measure => omega
              case rel => exact ⟨i + 1, by omega, by go_num, by rw [HE.out]; exact HW.out.1, by rw [HE.out]; exact HW.out.2.1, HW.out.2.2.1, HW.out.2.2.2.1⟩
            · as_aux_lemma =>
              obtain ⟨rfl, rfl, rfl⟩ := hb
              have HE := Lib.hid (HSK.out rfl)
              go_wp2_with fail
              go_roundg (hv.length - (i + 1))
              case measure => omega
              case rel => exact ⟨i + 1, by omega, by go_num, by rw [HE.out]; exact HW.out.1, by rw [HE.out]; exact HW.out.2.1, HW.out.2.2.1, HW.out.2.2.2.1⟩
            · have HE := Lib.hid (HTK.out htk)
              rcases hb with ⟨rfl, rfl⟩ | ⟨rfl, rfl, rfl⟩
              all_goals
                as_aux_lemma =>
                clear htk
                go_wp2_with (at_builtin; refine wpList_append_moved _ rfl _ _ 22 rfl 29 i0 _ 3 40 Tryz.underlying22 hi0 hz0 hz1 hz2 rfl (by decide) _ _ _ rfl HOWN.out ⟨wr.heap.size, 0, none⟩ 1 1 (itemC x) rfl rfl HCE.out (itemC_one x) hmax (by omega) ?_; intro a' c' wx hown2 hgr hmv; have HG := Lib.hid (And.intro hown2 (And.intro hgr hmv)); clear hown2 hgr hmv)
                all_goals
                  go_roundg (hv.length - (i + 1))
                  case measure => omega
                  case rel =>
                    obtain ⟨g1, g2, g3⟩ := HG.out
                    refine ⟨i + 1, by omega, by go_num, ?_, ?_, (HW.out.2.2.1.alloc _).grown g2 (fun j hj q => ?_), fun j hj => ?_⟩
                    · rw [HE.out, List.length_append, List.length_singleton, List.flatMap_append]
                      simpa using g1
                    · rw [HE.out, List.length_append, List.length_singleton]
                      have := HWM.out; omega
                    · have q2 : (Value.slice aO W.length cO).ownBlock = some j := q
                      have := HW.out.2.2.2.1 j q2; omega
                    · have h5 := HW.out.2.2.1.size
                      rcases g3 j hj with q | q
                      · exact HW.out.2.2.2.1 j q
                      · rw [World.size_alloc] at q; omega
          · have hend : hv.length ≤ i ∨ most ≤ (W.length : Int) := by omega
            have hwant : W = betL hv from_ to most := by
              have h5 := HW.out.2.2.2.2
              have h6 := wantTo_end (l := hv) (from_ := from_) (to := to) (most := most) (i := i) (by rw [h5]; exact HW.out.2.1) (by rw [h5]; exact hend)
              rw [h5, wantL_is HRIS.out] at h6
              exact h6
            have HWB := Lib.hid hwant
            obtain ⟨hP, hG, hRR, hA, ho3, hb3⟩ := HX.out
            have hsz3 := HW.out.2.2.1.size
            have hsz0 := ho3.size
            have oB := (Only.refl (fun _ => False) wr).alloc (.cells #[.slice none 0 0, .slice none 0 0, .slice none 0 0, .slice none 0 0, .slice none 0 0, .slice none 0 0, .slice none 0 0, .slice none 0 0, .slice none 0 0, .slice none 0 0, .slice none 0 0, .slice none 0 0, .slice none 0 0, .slice none 0 0, .slice none 0 0, .slice none 0 0, .slice none 0 0, .slice none 0 0] 41)
            have hPr := hP.still HW.out.2.2.1
            have hpl : ∀ j, pown (wr.alloc (.cells #[.slice none 0 0, .slice none 0 0, .slice none 0 0, .slice none 0 0, .slice none 0 0, .slice none 0 0, .slice none 0 0, .slice none 0 0, .slice none 0 0, .slice none 0 0, .slice none 0 0, .slice none 0 0, .slice none 0 0, .slice none 0 0, .slice none 0 0, .slice none 0 0, .slice none 0 0, .slice none 0 0] 41)) b j → pown w3 b j := fun j q => (pown_of_heap (HW.out.2.2.1.block b hP.lt id) j).1 ((pown_of_heap (oB.block b hPr.lt id) j).1 q)
            have hH0 : Betw w (wr.alloc (.cells #[.slice none 0 0, .slice none 0 0, .slice none 0 0, .slice none 0 0, .slice none 0 0, .slice none 0 0, .slice none 0 0, .slice none 0 0, .slice none 0 0, .slice none 0 0, .slice none 0 0, .slice none 0 0, .slice none 0 0, .slice none 0 0, .slice none 0 0, .slice none 0 0, .slice none 0 0, .slice none 0 0] 41)) b S wr.heap.size (.slice none 0 0) (.slice none 0 0) [] [] [] (.slice aO W.length cO) W := by
              refine ⟨hPr.still oB, fun j q => hb3 j (hpl j q), BookAt.empty (heap_alloc_new wr _) (by omega), fun j hj q => ?_, row_only (row_own (fun _ => rfl) HW.out.1) oB (fun _ _ q => q), fun j hj => ?_, (ho3.trans HW.out.2.2.1 (fun _ _ q => q)).trans oB (fun _ _ q => q)⟩
              · have h5 := pown_lt hP (hpl j q)
                rcases hj with rfl | q | q | ⟨u, hu, _⟩ | ⟨u, hu, _⟩
                · omega
                · simp [OwnB, Value.ownBlock] at q
                · simp [OwnB, Value.ownBlock] at q
                · cases hu
                · cases hu
              · rw [rowBlock_own HW.out.1] at hj
                have h5 := HW.out.2.2.2.1 j hj
                have h6 := (HW.out.1.lt j hj).2
                refine ⟨fun q => by have := pown_lt hP (hpl j q); omega, fun q => ?_, by rw [World.size_alloc]; omega⟩
                rcases q with rfl | q | q | ⟨u, hu, _⟩ | ⟨u, hu, _⟩
                · omega
                · simp [OwnB, Value.ownBlock] at q
                · simp [OwnB, Value.ownBlock] at q
                · cases hu
                · cases hu
            have HH0 := Lib.hid hH0
            have HG := Lib.hid hG
            have hx : (¬ (i : Int) < (hv.length : Int)) ∨ ((i : Int) < (hv.length : Int) ∧ ¬ (W.length : Int) < most) := by omega
            clear hwant hcond hend hP hG hRR hA ho3 hb3 hsz3 hsz0 oB hPr hpl hH0 HX HW HRIS hgi
            rcases hx with hx1 | ⟨hx1, hx2⟩
            all_goals
              as_aux_lemma =>
              go_wp2_with fail
              generalize wr.heap.size = kb at *
              go_loopg [15] 2 (fun gh iv wr => ∃ (k : Nat) (vI vW : Value) (xs ys : List Value), gh + k = 2 ∧ iv = .int .i64 k ∧ Betw w wr b S kb vI vW xs ys (List.replicate k W) (.slice aO W.length cO) W)
              case atStart => exact ⟨0, _, _, [], [], by omega, rfl, HH0.out⟩
              case round =>
                obtain ⟨k, vI, vW, xs, ys, hgk, rfl, hH⟩ := hrel
                have HH := Lib.hid hH
                clear hH HH0 hx1
                by_cases hk : k < 2
                · have hk1 : (k : Int) < 2 := by omega
                  have hwk : IntKind.i64.wrap ((k : Int) + 1) = (k : Int) + 1 := by exact IntWalk.i64_in _ (by omega)
                  have hbt := Bet_is wr b S root hv from_ to most HH.out.pages HG.out
                  rw [← HWB.out] at hbt
                  have HBT := Lib.hid hbt
                  clear hbt
                  unfold BetTold pagesV at HBT
                  go_wp2_with fail
                  (with_reducible refine HBT.out.mono ?_)
                  rintro e w5 ⟨vx, rfl, _, hown, hp5, st5, hn5⟩
                  have hH5 := HH.out.step st5 hp5
                  have hnb : ∀ j, OwnB vx j → ¬ bown kb vI vW xs ys j := fun j e q => by have := (hn5 j e).1; have := (HH.out.book.bown_lt q).1; omega
                  have hnw : ∀ j, OwnB vx j → ¬ pown w5 b j ∧ rowBlock (.slice aO W.length cO) ≠ some j := fun j e => ⟨(hn5 j e).2, fun q => by have := (hn5 j e).1; have := (HH.out.wapart j q).2.2; omega⟩
                  have HI := Lib.hid (BItems_is w5 kb vI vW xs ys (List.replicate k W) w.heap.size vx W hH5.book (by rw [List.length_replicate]; omega) hown (by omega) (fun j e => ⟨by have := (hn5 j e).1; have := HH.out.only.size; omega, hnb j e⟩))
                  have HV := Lib.hid (And.intro hown (And.intro hnb hnw))
                  have HH5 := Lib.hid hH5
                  obtain ⟨aX, cX, rfl⟩ := ownsRow_form hown
                  clear hown hp5 st5 hn5 hH5 hnb hnw HBT HH
                  unfold BookTold at HI
                  go_wp2_with fail
                  (with_reducible refine HI.out.mono ?_)
                  rintro e w6 ⟨rfl, hrest⟩
                  obtain ⟨vI', vW', y, hH6⟩ := HH5.out.kept (e := .returned (.tuple #[])) HV.out.2.2 ⟨rfl, hrest⟩
                  have HS := Lib.hid (SameI_is w6 (.slice aX W.length cX) (.slice aO W.length cO) W (row_only (row_own (fun _ => rfl) HV.out.1) hrest.1 (fun j e q => by
                    rw [rowBlock_own HV.out.1] at e
                    refine HV.out.2.1 j e ?_
                    rcases q with q | q | q
                    · exact .inl q
                    · exact .inr (.inl q)
                    · exact .inr (.inr (.inl q)))) hH6.want (by omega))
                  have HH6 := Lib.hid hH6
                  clear hrest hH6 HI HV HH5
                  go_wp2_with fail
                  (with_reducible refine HS.out.mono ?_)
                  rintro e w7 ⟨rfl, o7⟩
                  have HH7 := Lib.hid (HH6.out.still o7)
                  clear o7 HS HH6
                  go_wp2_with fail
                  go_roundg (gk - 1)
                  case measure => omega
                  case rel => exact ⟨k + 1, vI', vW', _, _, by omega, by go_num, by rw [List.replicate_succ']; exact HH7.out⟩
                · obtain rfl : k = 2 := by omega
                  have hk1 : ¬ ((2 : Nat) : Int) < 2 := by omega
                  have HA := Lib.hid (BApart_is wr kb vI vW xs ys (List.replicate 2 W) w.heap.size HH.out.book (by simp) (fun l hl => by rw [List.eq_of_mem_replicate hl]; omega))
                  unfold ApartTold at HA
                  go_wp2_with fail
                  (with_reducible refine HA.out.mono ?_)
                  rintro e w8 ⟨rfl, o8⟩
                  have HF : Hid (Only (fun _ => False) w w8) := Lib.hid (HH.out.only.trans o8 (fun j hj q => by omega))
                  clear o8 HA HH
                  go_wp2_with fail
                  go_ret
                  exact ⟨rfl, HF.out⟩
      · have ht1 : (60 : Int) < (to.length : Int) := by omega
        go_wp2_with fail
        (with_reducible refine (HAL.out w1).mono ?_)
        rintro e w2 ⟨rfl, o2⟩
        go_wp2_with fail
        go_ret
        exact ⟨rfl, HO1.out.trans o2 (fun _ _ q => q)⟩
    · have hf1 : (60 : Int) < (from_.length : Int) := by omega
      go_wp2_with fail
      (with_reducible refine (HAL.out w1).mono ?_)
      rintro e w2 ⟨rfl, o2⟩
      go_wp2_with fail
      go_ret
      exact ⟨rfl, HO1.out.trans o2 (fun _ _ q => q)⟩
end Go.Proofs.YtklccpaphkpgfaaGreat
