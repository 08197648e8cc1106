/- TreeOlds: an old root tells the same items behind all that was done since; each page of the old tree that the new one has not is given back once, and none that it has. Conditions: one goroutine; the acts lie in memory. -/
import Derived.Test.YtklccpaphkpgfaaGreatZDrops1
import Derived.Test.YtklccpaphkpgfaaGreatZAcc
import Derived.Test.YtklccpaphkpgfaaGreatZLight12
import Derived.Test.YtklccpaphkpgfaaGreatZSame
namespace Go.Proofs.YtklccpaphkpgfaaGreat
open Go.RowKit

/-- How the law ends. -/
def OldsEnds (w : World) : Ending → World → Prop := fun e w' => e = .returned (.bool true) ∧ Only (fun _ => False) w w'
/-- What became of the pages of the old tree, whichever the new one's are. -/
def Since12 (S0 : PSt) (ids0 : List Int) (S : PSt) (root : Int) (h : List Item) : Prop := ∃ ids, Rooted S.L root h ids ∧ Since S0 ids0 S ids
theorem Since12.act {S0 S : PSt} {ids0 : List Int} {root : Int} {h : List Item} {k : Nat} (H : PlaysTo S root h k) (C : Since12 S0 ids0 S root h) (hk : k < 250) (x : Do) : Since12 S0 ids0 (actP S root x).2 (actP S root x).1 (actL h x) := by
  obtain ⟨ids, R, hc⟩ := C
  obtain ⟨ids', R', few, M⟩ := act_moved H R hk x
  exact ⟨ids', R', hc.step M H.there⟩
/-- Rows that are kept beside the pages: the old tree's items, its pages. -/
structure Kept12 (w : World) (b : Nat) (va vo : Value) (h : List Item) (m : List Int) : Prop where
  ra : RowC itemC 3 w va h
  aa : Apart w b va
  ro : RowC intE 1 w vo m
  ao : Apart w b vo
theorem Kept12.step {w w' : World} {b : Nat} {va vo : Value} {h : List Item} {m : List Int} (H : Kept12 w b va vo h m) (s : PStep b w w') : Kept12 w' b va vo h m :=
  ⟨H.ra.step H.aa s, H.aa.step s, H.ro.step H.ao s, H.ao.step s⟩

set_option maxRecDepth 100000 in
set_option maxHeartbeats 40000000 in
theorem Olds12_is (w : World) (v v2 : Value) (l l2 : List Do) (h : RowAt doC 4 w v l) (h2 : RowAt doC 4 w v2 l2) (hn : l.length ≤ 9223372036854775807) (hn2 : l2.length ≤ 9223372036854775807) (hlen : ∀ x ∈ l, x.item.key.length ≤ 9223372036854775807 ∧ x.item.val.length ≤ 9223372036854775807) (hlen2 : ∀ x ∈ l2, x.item.key.length ≤ 9223372036854775807 ∧ x.item.val.length ≤ 9223372036854775807) :
    Calls Tryz.prog 4 #[v, v2] w (OldsEnds w) := by
  obtain ⟨a, c, rfl⟩ : ∃ a c, v = .slice a l.length c := by cases h with
    | none => exact ⟨_, _, rfl⟩
    | some g off cap => exact ⟨_, _, rfl⟩
  obtain ⟨a2, c2, rfl⟩ : ∃ a c, v2 = .slice a l2.length c := by cases h2 with
    | none => exact ⟨_, _, rfl⟩
    | some g off cap => exact ⟨_, _, rfl⟩
  have HL := Lib.hid (Light12_is w _ l h hn hlen)
  have HL2 : Hid (∀ W, Only (fun _ => False) w W → _) := Lib.hid (fun W (hW : Only (fun _ => False) w W) => Light12_is W _ l2 (row_only h2 hW (fun _ _ => id)) hn2 hlen2)
  have HAL := Lib.hid alive12_is
  have HV := Lib.hid h
  have HV2 := Lib.hid h2
  clear h h2 hlen hlen2
  go_enter Tryz.func4, Tryz.ntmps4
  go_wp2_with fail
  (with_reducible refine HL.out.mono ?_)
  rintro e w1 ⟨bl, rfl, hbl, o1⟩
  have HO1 := Lib.hid o1
  have HBL := Lib.hid hbl
  have HLW := Lib.hid (HL2.out w1 o1)
  clear hbl o1 HL HL2
  cases bl with
  | false =>
    clear HLW
    go_wp2_with fail
    (with_reducible refine (HAL.out w1).mono ?_)
    rintro e w2 ⟨rfl, o2⟩
    go_wp2_with fail
    go_ret
    exact ⟨rfl, HO1.out.trans o2 (fun _ _ q => q)⟩
  | true =>
    have hl250 := HBL.out rfl
    go_wp2_with fail
    (with_reducible refine HLW.out.mono ?_)
    rintro e w2 ⟨bl2, rfl, hbl2, o2⟩
    have HO2 := Lib.hid (HO1.out.trans o2 (fun _ _ q => q))
    have HBL2 := Lib.hid hbl2
    clear hbl2 o2 HLW HO1
    cases bl2 with
    | false =>
      go_wp2_with fail
      (with_reducible refine (HAL.out w2).mono ?_)
      rintro e w3 ⟨rfl, o3⟩
      go_wp2_with fail
      go_ret
      exact ⟨rfl, HO2.out.trans o3 (fun _ _ q => q)⟩
    | true =>
      have hl250b := HBL2.out rfl
      have hwsum : IntKind.i64.wrap ((l.length : Int) + (l2.length : Int)) = (l.length : Int) + (l2.length : Int) := IntWalk.i64_in _ (by omega)
      by_cases hsum : l.length + l2.length ≤ 250
      · have hsm : ¬ (250 : Int) < (l.length : Int) + (l2.length : Int) := by omega
        go_wp2_with fail
        (with_reducible refine (HAL.out w2).mono ?_)
        rintro e w3 ⟨rfl, o3⟩
        have HO3 := Lib.hid (HO2.out.trans o3 (fun _ _ q => q))
        have HF := Lib.hid (Fresh_is w3)
        clear o3 HAL HO2 hwsum hsm
        go_wp2_with fail
        (with_reducible refine HF.out.mono ?_)
        rintro e w4 ⟨rfl, hp4, o4, hpw4⟩
        have HA0 : Hid (Acts w w4 w3.heap.size noPages 0 [] 0) := Lib.hid ⟨hp4, plays_none, HO3.out.trans o4 (fun _ _ q => q), fun j hj => by have := hpw4 j hj; have := HO3.out.size; omega⟩
        clear hp4 o4 hpw4 HF HO3
        generalize w3.heap.size = b at *
        go_wp2_with fail
        go_loopg [6, 7] l.length (fun gh rt ix wr => ∃ (k : Nat) (S : PSt) (root : Int) (h : List Item), gh + k = l.length ∧ ix = .int .i64 k ∧ rt = .int .i64 root ∧ Acts w wr b S root h k)
        case atStart => exact ⟨0, noPages, 0, [], by omega, rfl, rfl, HA0.out⟩
        case round =>
          obtain ⟨k, S, root, h, hgk, rfl, rfl, hat⟩ := hrel
          have HAT := Lib.hid hat
          clear hat HA0
          by_cases hk : k < l.length
          · as_aux_lemma =>
            have hk2 : (k : Int) < (l.length : Int) := by omega
            have hk3 : (0 : Int) ≤ (k : Int) := by omega
            obtain ⟨x, hx⟩ : ∃ x, l[k]? = some x := ⟨_, List.getElem?_eq_getElem hk⟩
            obtain ⟨g, off, rfl, d0, d1, d2, d3⟩ := row_do (row_only HV.out HAT.out.only (fun _ _ => id)) hx
            have hw1 : IntKind.i64.wrap ((k : Int) + 1) = (k : Int) + 1 := by exact IntWalk.i64_in _ (by omega)
            have hpl := act_plays HAT.out.plays (by omega) x
            have HB := act12_is wr b S root h k x HAT.out.pages HAT.out.plays (by omega)
            unfold ActEnds at HB
            obtain ⟨r, S', hr⟩ : ∃ r S', actP S root x = (r, S') := ⟨_, _, rfl⟩
            rw [hr] at hpl HB
            dsimp only at hpl HB
            have HB := Lib.hid HB
            have HPL := Lib.hid hpl
            clear hx hpl hr
            go_wp2_with fail
            (with_reducible refine HB.out.mono ?_)
            rintro e w5 ⟨rfl, hp5, st5⟩
            have HN := Lib.hid (HAT.out.step st5 hp5 HPL.out)
            clear hp5 st5 HB HPL HAT
            go_wp2_with fail
            go_roundg (gk - 1)
            case measure => omega
            case rel => exact ⟨k + 1, _, _, _, by omega, by go_num, rfl, HN.out⟩
          · have hk2 : ¬ (k : Int) < (l.length : Int) := by omega
            obtain ⟨ids, R, hgv⟩ := HAT.out.plays.rooted
            have hln := HAT.out.plays.len
            have hst := HAT.out.plays.stop
            have HIT := Lib.hid (tItems_is wr b S root h ids [] 1000 HAT.out.pages R (by omega) (by omega) (by omega))
            have HR := Lib.hid R
            obtain ⟨k1, hk1⟩ : ∃ k1, k = k1 := ⟨_, rfl⟩
            have hk1s : k1 + l2.length ≤ 250 := by omega
            rw [hk1] at HAT
            clear R hgv
            unfold pagesV ItemsTold at HIT
            go_wp2_with fail
            (with_reducible refine HIT.out.mono ?_)
            rintro e w5 ⟨va, rfl, ra, aa, hp5, st5, _⟩
            rw [fromL_nil_key, List.take_of_length_le (by show h.length ≤ 1000; omega)] at ra
            have HA5 := Lib.hid (HAT.out.step st5 hp5 HAT.out.plays)
            have HRA := Lib.hid (And.intro ra aa)
            obtain ⟨aA, cA, rfl⟩ := row_form ra.row
            have HI := Lib.hid (tIds_is w5 b S root h ids hp5 HR.out (by omega) (by omega))
            clear ra aa hp5 st5 HIT HAT
            unfold IdsTold pagesV at HI
            go_wp2_with fail
            (with_reducible refine HI.out.mono ?_)
            rintro e w6 ⟨vo, rfl, ro, ao, hp6, st6, _⟩
            have HA6 := Lib.hid (HA5.out.step st6 hp6 HA5.out.plays)
            have HK6 : Hid (Kept12 w6 b (.slice aA h.length cA) vo h (sortI ids)) := Lib.hid ⟨HRA.out.1.step HRA.out.2 st6, HRA.out.2.step st6, ro, ao⟩
            have HM := Lib.hid (PMark_is w6 b S hp6)
            obtain ⟨aO, nO, cO, rfl⟩ := capOk_form ro.cap
            obtain ⟨rfl, _⟩ := row_shape ro.row
            clear ro ao hp6 st6 HI HA5 HRA
            go_wp2_with fail
            (with_reducible refine HM.out.mono ?_)
            rintro e w7 ⟨rfl, hp7, st7⟩
            have HA7 : Hid (Acts w w7 b (markP S) root h k1) := Lib.hid (HA6.out.step st7 hp7 (plays_mark0 HA6.out.plays))
            have HK7 := Lib.hid (HK6.out.step st7)
            have HS7 : Hid (Since12 (markP S) ids (markP S) root h) := Lib.hid ⟨ids, HR.out, Since.start rfl rfl⟩
            have HR7 : Hid (Rooted (markP S).L root h ids) := Lib.hid HR.out
            have HND := Lib.hid HR.out.nodup
            have hidl := HR.out.many
            have hh1000 : h.length ≤ 250 := by omega
            clear hp7 st7 HM HA6 HK6 HR
            generalize markP S = S0 at *
            go_wp2_with fail
            go_loopg [12, 13] l2.length (fun gh rt ix wr => ∃ (k : Nat) (S : PSt) (now : Int) (hh : List Item), gh + k = l2.length ∧ ix = .int .i64 k ∧ rt = .int .i64 now ∧ Acts w wr b S now hh (k1 + k) ∧ Since12 S0 ids S now hh ∧ Kept12 wr b (.slice aA h.length cA) (.slice aO (sortI ids).length cO) h (sortI ids))
            case atStart => exact ⟨0, S0, root, h, by omega, rfl, rfl, HA7.out, HS7.out, HK7.out⟩
            case round =>
              obtain ⟨k, S, now, hh, hgk, rfl, rfl, hat, hsi, hke⟩ := hrel
              have HAT := Lib.hid hat
              have HSI := Lib.hid hsi
              have HKE := Lib.hid hke
              clear hat hsi hke HA7 HS7 HK7
              by_cases hk : k < l2.length
              · as_aux_lemma =>
                have hk2 : (k : Int) < (l2.length : Int) := by omega
                have hk3 : (0 : Int) ≤ (k : Int) := by omega
                obtain ⟨x, hx⟩ : ∃ x, l2[k]? = some x := ⟨_, List.getElem?_eq_getElem hk⟩
                obtain ⟨g, off, rfl, d0, d1, d2, d3⟩ := row_do (row_only HV2.out HAT.out.only (fun _ _ => id)) hx
                have hw1 : IntKind.i64.wrap ((k : Int) + 1) = (k : Int) + 1 := by exact IntWalk.i64_in _ (by omega)
                have hpl := act_plays HAT.out.plays (by omega) x
                have hsi := HSI.out.act HAT.out.plays (by omega) x
                have HB := act12_is wr b S now hh (k1 + k) x HAT.out.pages HAT.out.plays (by omega)
                unfold ActEnds at HB
                obtain ⟨r, S', hr⟩ : ∃ r S', actP S now x = (r, S') := ⟨_, _, rfl⟩
                rw [hr] at hpl HB hsi
                dsimp only at hpl HB hsi
                have HB := Lib.hid HB
                have HPL := Lib.hid (And.intro hpl hsi)
                clear hx hpl hr hsi
                go_wp2_with fail
                (with_reducible refine HB.out.mono ?_)
                rintro e w8 ⟨rfl, hp8, st8⟩
                have HN := Lib.hid (And.intro (HAT.out.step st8 hp8 HPL.out.1) (HKE.out.step st8))
                clear hp8 st8 HB HAT HKE
                go_wp2_with fail
                go_roundg (gk - 1)
                case measure => omega
                case rel => exact ⟨k + 1, _, _, _, by omega, by go_num, rfl, HN.out.1, HPL.out.2, HN.out.2⟩
              · have hk2 : ¬ (k : Int) < (l2.length : Int) := by omega
                obtain ⟨ids2, R2, hsn⟩ := HSI.out
                have hst2 := HAT.out.plays.stop
                have hln2 := HAT.out.plays.len
                have hid2 := R2.many
                have HSN := Lib.hid (And.intro hsn (And.intro R2.nodup R2.there))
                have HIT := Lib.hid (tItems_is wr b S root h ids [] 1000 HAT.out.pages (HR7.out.since hsn) (by omega) (by omega) (by omega))
                have HR2 := Lib.hid R2
                clear R2 hsn HSI HR7
                unfold pagesV ItemsTold at HIT
                go_wp2_with fail
                (with_reducible refine HIT.out.mono ?_)
                rintro e w8 ⟨vb, rfl, rb, ab, hp8, st8, _⟩
                rw [fromL_nil_key, List.take_of_length_le (by show h.length ≤ 1000; omega)] at rb
                have HA8 := Lib.hid (HAT.out.step st8 hp8 HAT.out.plays)
                have HK8 := Lib.hid (HKE.out.step st8)
                have HRB := Lib.hid (And.intro rb ab)
                obtain ⟨aB, cB, rfl⟩ := row_form rb.row
                have HI := Lib.hid (tIds_is w8 b S now hh ids2 hp8 HR2.out (by omega) (by omega))
                clear rb ab hp8 st8 HIT HAT HKE
                unfold IdsTold pagesV at HI
                go_wp2_with fail
                (with_reducible refine HI.out.mono ?_)
                rintro e w9 ⟨vn, rfl, rn, an, hp9, st9, _⟩
                have HA9 := Lib.hid (HA8.out.step st9 hp9 HA8.out.plays)
                have HK9 := Lib.hid (HK8.out.step st9)
                have HRN := Lib.hid (And.intro rn an)
                obtain ⟨aN, nN, cN, rfl⟩ := capOk_form rn.cap
                obtain ⟨rfl, _⟩ := row_shape rn.row
                have HSA := Lib.hid (SameI_is w9 _ _ h HK9.out.ra.row (HRB.out.1.step HRB.out.2 st9).row (by omega))
                obtain ⟨aG, cG, g2, z2, rG, g3, g4⟩ := hp9.given_cell
                rw [HA9.out.plays.bad] at g3
                rw [HA9.out.plays.twice] at g4
                clear rn an hp9 st9 HI HA8 HK8 HRB rG z2
                go_wp2_with fail
                (with_reducible refine HSA.out.mono ?_)
                rintro e wa ⟨rfl, oa⟩
                have HAA := Lib.hid (HA9.out.still oa)
                have HKA := Lib.hid (HK9.out.step (PStep.still HA9.out.pages.lt oa))
                have HNA := Lib.hid (HRN.out.1.only oa (fun _ _ => id))
                have hback := HA9.out.plays.back
                have hsl : (sortI ids).length ≤ 1000 := by rw [sortI_length]; omega
                have hsl2 : (sortI ids2).length ≤ 1000 := by rw [sortI_length]; omega
                have hgl : S.given.length ≤ 1000000 := by omega
                have HXO : Hid (∀ (k : Nat) (x : Int), (sortI ids)[k]? = some x → ∃ bb, decide (x ∈ sortI ids2) = bb ∧ decide (x ∈ S.given) = !bb) := Lib.hid (fun k x hx => by
                  have h1 : x ∈ ids := (sortI_mem ids).mem_iff.1 (List.mem_of_getElem? hx)
                  by_cases h2 : x ∈ ids2
                  · exact ⟨true, decide_eq_true ((sortI_mem ids2).mem_iff.2 h2), decide_eq_false (HSN.out.1.apart x h2)⟩
                  · exact ⟨false, decide_eq_false (fun q => h2 ((sortI_mem ids2).mem_iff.1 q)), decide_eq_true ((HSN.out.1.keep x h1).resolve_left h2)⟩)
                have HXG : Hid (∀ (k : Nat) (x : Int), S.given[k]? = some x → decide (x ∈ sortI ids2) = false) := Lib.hid (fun k x hx =>
                  decide_eq_false (fun q => HSN.out.1.apart x ((sortI_mem ids2).mem_iff.1 q) (List.mem_of_getElem? hx)))
                have HXN : Hid (∀ (k : Nat) (x : Int), (sortI ids2)[k]? = some x → (-1000000 ≤ x ∧ x ≤ 1000000) ∧ (∀ y ∈ (sortI ids2).take k, y < x) ∧ (decide (x ∈ sortI ids) = true ∨ (decide (x ∈ sortI ids) = false ∧ isMine S x = true))) := Lib.hid (fun k x hx => by
                  have h1 : x ∈ ids2 := (sortI_mem ids2).mem_iff.1 (List.mem_of_getElem? hx)
                  have h2 := HSN.out.2.2 x h1
                  have h3 := HAA.out.plays.few
                  refine ⟨by
                    have h5 : S.L.length ≤ 3998 := by
                      obtain ⟨vL, vG, hI⟩ := HAA.out.pages
                      exact hI.few
                    omega, sortI_before HSN.out.2.1 hx, ?_⟩
                  by_cases h5 : x ∈ ids
                  · exact .inl (decide_eq_true ((sortI_mem ids).mem_iff.2 h5))
                  · refine .inr ⟨decide_eq_false (fun q => h5 ((sortI_mem ids).mem_iff.1 q)), ?_⟩
                    have h7 := (HSN.out.1.new x h1).resolve_left h5
                    have h8 := HSN.out.1.mine
                    unfold isMine
                    rw [decide_eq_true_eq]
                    omega)
                clear oa HSA HA9 HK9 HRN g2 g3 g4 hback HSN HR2 HND
                generalize sortI ids = mo at *
                generalize sortI ids2 = mn at *
                have HE : Hid (Acts w wa b S now hh (k1 + k) ∧ Kept12 wa b (.slice aA h.length cA) (.slice aO mo.length cO) h mo ∧ RowC intE 1 wa (.slice aN mn.length cN) mn) := Lib.hid ⟨HAA.out, HKA.out, HNA.out⟩
                clear HAA HKA HNA
                generalize k1 + k = kk at *
                go_wp2_with fail
                go_loopg [18] mo.length (fun gh ix wr => ∃ i : Nat, gh + i = mo.length ∧ ix = .int .i64 i ∧ Acts w wr b S now hh kk ∧ Kept12 wr b (.slice aA h.length cA) (.slice aO mo.length cO) h mo ∧ RowC intE 1 wr (.slice aN mn.length cN) mn)
                case atStart => exact ⟨0, by omega, rfl, HE.out⟩
                case round =>
                  obtain ⟨i, hgi, rfl, he⟩ := hrel
                  have HE3 := Lib.hid he
                  clear he HE
                  obtain ⟨aG, cG, g2, z2, rG, g3, g4⟩ := HE3.out.1.pages.given_cell
                  have HG := Lib.hid rG
                  clear rG g3 g4 z2
                  by_cases hi : i < mo.length
                  · as_aux_lemma =>
                    have hi2 : (i : Int) < (mo.length : Int) := by omega
                    have hi3 : (0 : Int) ≤ (i : Int) := by omega
                    have hw1 : IntKind.i64.wrap ((i : Int) + 1) = (i : Int) + 1 := by exact IntWalk.i64_in _ (by omega)
                    obtain ⟨x, hx⟩ : ∃ x, mo[i]? = some x := ⟨_, List.getElem?_eq_getElem hi⟩
                    obtain ⟨bb, hb1, hb2⟩ := HXO.out i x hx
                    obtain ⟨g, off, rfl, d0⟩ := row_int HE3.out.2.1.ro.row hx
                    have q0 : ∀ p : Grew wr, p.u.cell? ⟨g, off + i, none⟩ = some (.int .i64 x) := fun p => p.cell d0
                    have q2 : ∀ p : Grew wr, p.u.cell? ⟨b, 2, none⟩ = some (.slice aG S.given.length cG) := fun p => p.cell g2
                    have HV1 : Hid (∀ p : Grew wr, Calls Tryz.prog 21 #[.slice aN mn.length cN, .int .i64 x] p.u fun e w' => e = .returned (.bool bb) ∧ Only (fun _ => False) p.u w') := Lib.hid (fun p => by
                      have := In_is p.u _ mn x (row_only HE3.out.2.2.row p.h (fun _ _ => id)) (by omega)
                      rwa [hb1] at this)
                    have HV2 : Hid (∀ p : Grew wr, Calls Tryz.prog 21 #[.slice aG S.given.length cG, .int .i64 x] p.u fun e w' => e = .returned (.bool (!bb)) ∧ Only (fun _ => False) p.u w') := Lib.hid (fun p => by
                      have := In_is p.u _ S.given x (row_only HG.out p.h (fun _ _ => id)) hgl
                      rwa [hb2] at this)
                    clear hx hb1 hb2 d0 g2 HXO HXG HXN
                    cases bb
                    all_goals
                      go_wp2_with fail
                      refine wp_region_grew (by kernel_rfl) (by kernel_rfl) (fun _W h0 h1 => ?_)
                      repeat (refine h1 _ _ _ (fun K hK => ?_); go_simp; first | (refine hK _ ?_; clear hK K) | (apply Exists.intro; refine ⟨fun _ => ?_, hK _ ?_⟩; (first | (with_reducible refine Grew.calls _ (HV1.out _)) | (with_reducible refine Grew.calls _ (HV2.out _))); clear hK K))
                      refine h0 _ (fun p => ?_)
                      clear h0 h1 q0 q2
                      go_wp2_with fail
                      go_roundg (gk - 1)
                      case measure => omega
                      case rel => exact ⟨i + 1, by omega, by go_num, HE3.out.1.still p.h, HE3.out.2.1.step (PStep.still HE3.out.1.pages.lt p.h), HE3.out.2.2.only p.h (fun _ _ => id)⟩
                  · obtain rfl : i = mo.length := by omega
                    have hi2 : ¬ (mo.length : Int) < (mo.length : Int) := by omega
                    clear HXO g2 HG
                    go_wp2_with fail
                    go_loopg [19] S.given.length (fun gh ix wr => ∃ i : Nat, gh + i = S.given.length ∧ ix = .int .i64 i ∧ Acts w wr b S now hh kk ∧ Kept12 wr b (.slice aA h.length cA) (.slice aO mo.length cO) h mo ∧ RowC intE 1 wr (.slice aN mn.length cN) mn)
                    case atStart => exact ⟨0, by omega, rfl, HE3.out⟩
                    case round =>
                      obtain ⟨i, hgi, rfl, he⟩ := hrel
                      have HE4 := Lib.hid he
                      clear he HE3
                      obtain ⟨aG, cG, g2, z2, rG, g3, g4⟩ := HE4.out.1.pages.given_cell
                      have HG := Lib.hid rG
                      clear rG g3 g4 z2
                      by_cases hi : i < S.given.length
                      · as_aux_lemma =>
                        have hi2 : (i : Int) < (S.given.length : Int) := by omega
                        have hi3 : (0 : Int) ≤ (i : Int) := by omega
                        have hw1 : IntKind.i64.wrap ((i : Int) + 1) = (i : Int) + 1 := by exact IntWalk.i64_in _ (by omega)
                        obtain ⟨x, hx⟩ : ∃ x, S.given[i]? = some x := ⟨_, List.getElem?_eq_getElem hi⟩
                        obtain ⟨g, off, rfl, d0⟩ := row_int HG.out hx
                        have HV1 := In_is wr _ mn x HE4.out.2.2.row (by omega)
                        rw [HXG.out i x hx] at HV1
                        have HV1 := Lib.hid HV1
                        clear hx HG HXG HXN
                        go_wp2_with fail
                        (with_reducible refine HV1.out.mono ?_)
                        rintro e wb ⟨rfl, ob⟩
                        have HN := Lib.hid (And.intro (HE4.out.1.still ob) (And.intro (HE4.out.2.1.step (PStep.still HE4.out.1.pages.lt ob)) (HE4.out.2.2.only ob (fun _ _ => id))))
                        clear ob HV1 HE4
                        go_wp2_with fail
                        go_roundg (gk - 1)
                        case measure => omega
                        case rel => exact ⟨i + 1, by omega, by go_num, HN.out⟩
                      · obtain rfl : i = S.given.length := by omega
                        have hi2 : ¬ (S.given.length : Int) < (S.given.length : Int) := by omega
                        clear HXG HG
                        go_wp2_with fail
                        go_loopg [20] mn.length (fun gh ix wr => ∃ i : Nat, gh + i = mn.length ∧ ix = .int .i64 i ∧ Acts w wr b S now hh kk ∧ Kept12 wr b (.slice aA h.length cA) (.slice aO mo.length cO) h mo ∧ RowC intE 1 wr (.slice aN mn.length cN) mn)
                        case atStart => exact ⟨0, by omega, rfl, HE4.out⟩
                        case round =>
                          obtain ⟨i, hgi, rfl, he⟩ := hrel
                          have HE5 := Lib.hid he
                          clear he HE4 g2
                          by_cases hi : i < mn.length
                          · as_aux_lemma =>
                            have hi2 : (i : Int) < (mn.length : Int) := by omega
                            have hi3 : (0 : Int) ≤ (i : Int) := by omega
                            have hw1 : IntKind.i64.wrap ((i : Int) + 1) = (i : Int) + 1 := by exact IntWalk.i64_in _ (by omega)
                            obtain ⟨x, hx⟩ : ∃ x, mn[i]? = some x := ⟨_, List.getElem?_eq_getElem hi⟩
                            obtain ⟨hx1, hx2, hx3⟩ := HXN.out i x hx
                            have hrn := HE5.out.2.2.row
                            obtain ⟨g, off, rfl, d0⟩ := row_int hrn hx
                            have q0 : ∀ p : Grew wr, p.u.cell? ⟨g, off + i, none⟩ = some (.int .i64 x) := fun p => p.cell d0
                            have HV2 : Hid (∀ p : Grew wr, Calls Tryz.prog 22 #[.pointer (some ⟨b, 0, none⟩), .int .i64 x] p.u fun e w' => e = .returned (.bool (isMine S x)) ∧ Only (fun _ => False) p.u w') := Lib.hid (fun p =>
                              (PMine_is p.u b S x (HE5.out.1.pages.still p.h) hx1).mono fun e w' q => ⟨q.1, q.2 ▸ Only.refl _ _⟩)
                            have HV1 : Hid (∀ p : Grew wr, Calls Tryz.prog 21 #[.slice aO mo.length cO, .int .i64 x] p.u fun e w' => e = .returned (.bool (decide (x ∈ mo))) ∧ Only (fun _ => False) p.u w') := Lib.hid (fun p => In_is p.u _ mo x (row_only HE5.out.2.1.ro.row p.h (fun _ _ => id)) (by omega))
                            rcases Nat.eq_zero_or_pos i with hi0 | hi0
                            · have hp0 : ¬ (0 : Int) < (i : Int) := by omega
                              have hp1 : ¬ 0 < i := by omega
                              clear hx hx2 d0 HXN hrn hi0
                              rcases hx3 with hm | ⟨hm, hm2⟩
                              · rw [hm] at HV1
                                clear HV2 hm
                                go_wp2_with fail
                                refine wp_region_grew (by kernel_rfl) (by kernel_rfl) (fun _W h0 h1 => ?_)
                                repeat (refine h1 _ _ _ (fun K hK => ?_); go_simp; first | (refine hK _ ?_; clear hK K) | (apply Exists.intro; refine ⟨fun _ => ?_, hK _ ?_⟩; (with_reducible refine Grew.calls _ (HV1.out _)); clear hK K))
                                refine h0 _ (fun p => ?_)
                                clear h0 h1 q0
                                go_wp2_with fail
                                go_roundg (gk - 1)
                                case measure => omega
                                case rel => exact ⟨i + 1, by omega, by go_num, HE5.out.1.still p.h, HE5.out.2.1.step (PStep.still HE5.out.1.pages.lt p.h), HE5.out.2.2.only p.h (fun _ _ => id)⟩
                              · rw [hm] at HV1
                                rw [hm2] at HV2
                                clear hm hm2
                                go_wp2_with fail
                                refine wp_region_grew (by kernel_rfl) (by kernel_rfl) (fun _W h0 h1 => ?_)
                                repeat (refine h1 _ _ _ (fun K hK => ?_); go_simp; first | (refine hK _ ?_; clear hK K) | (apply Exists.intro; refine ⟨fun _ => ?_, hK _ ?_⟩; (first | (with_reducible refine Grew.calls _ (HV1.out _)) | (with_reducible refine Grew.calls _ (HV2.out _))); clear hK K))
                                refine h0 _ (fun p => ?_)
                                clear h0 h1 q0
                                go_wp2_with fail
                                go_roundg (gk - 1)
                                case measure => omega
                                case rel => exact ⟨i + 1, by omega, by go_num, HE5.out.1.still p.h, HE5.out.2.1.step (PStep.still HE5.out.1.pages.lt p.h), HE5.out.2.2.only p.h (fun _ _ => id)⟩
                            · obtain ⟨j, hj⟩ : ∃ j : Nat, (i : Int) - 1 = (j : Int) := ⟨i - 1, by omega⟩
                              have hji : j < i := by omega
                              obtain ⟨y, hy⟩ : ∃ y, mn[j]? = some y := ⟨_, List.getElem?_eq_getElem (by omega)⟩
                              have hyx : y < x := hx2 y (by
                                have h5 : (mn.take i)[j]? = some y := by rw [List.getElem?_take_of_lt hji]; exact hy
                                exact List.mem_of_getElem? h5)
                              have hle : ¬ x ≤ y := by omega
                              obtain ⟨g', off', he, e0⟩ := row_int hrn hy
                              cases he
                              have q1 : ∀ p : Grew wr, p.u.cell? ⟨g, off + j, none⟩ = some (.int .i64 y) := fun p => p.cell e0
                              have hwj : IntKind.i64.wrap ((i : Int) - 1) = (j : Int) := by rw [hj]; exact IntWalk.i64_in _ (by omega)
                              have hj2 : (j : Int) < (mn.length : Int) := by omega
                              have hj3 : (0 : Int) ≤ (j : Int) := by omega
                              have hp0 : (0 : Int) < (i : Int) := by omega
                              clear hx hx2 d0 HXN hrn hy hyx e0 hj hji
                              rcases hx3 with hm | ⟨hm, hm2⟩
                              · rw [hm] at HV1
                                clear HV2 hm
                                go_wp2_with fail
                                refine wp_region_grew (by kernel_rfl) (by kernel_rfl) (fun _W h0 h1 => ?_)
                                repeat (refine h1 _ _ _ (fun K hK => ?_); go_simp; first | (refine hK _ ?_; clear hK K) | (apply Exists.intro; refine ⟨fun _ => ?_, hK _ ?_⟩; (with_reducible refine Grew.calls _ (HV1.out _)); clear hK K))
                                refine h0 _ (fun p => ?_)
                                clear h0 h1 q0 q1
                                go_wp2_with fail
                                go_roundg (gk - 1)
                                case measure => omega
                                case rel => exact ⟨i + 1, by omega, by go_num, HE5.out.1.still p.h, HE5.out.2.1.step (PStep.still HE5.out.1.pages.lt p.h), HE5.out.2.2.only p.h (fun _ _ => id)⟩
                              · rw [hm] at HV1
                                rw [hm2] at HV2
                                clear hm hm2
                                go_wp2_with fail
                                refine wp_region_grew (by kernel_rfl) (by kernel_rfl) (fun _W h0 h1 => ?_)
                                repeat (refine h1 _ _ _ (fun K hK => ?_); go_simp; first | (refine hK _ ?_; clear hK K) | (apply Exists.intro; refine ⟨fun _ => ?_, hK _ ?_⟩; (first | (with_reducible refine Grew.calls _ (HV1.out _)) | (with_reducible refine Grew.calls _ (HV2.out _))); clear hK K))
                                refine h0 _ (fun p => ?_)
                                clear h0 h1 q0 q1
                                go_wp2_with fail
                                go_roundg (gk - 1)
                                case measure => omega
                                case rel => exact ⟨i + 1, by omega, by go_num, HE5.out.1.still p.h, HE5.out.2.1.step (PStep.still HE5.out.1.pages.lt p.h), HE5.out.2.2.only p.h (fun _ _ => id)⟩
                          · obtain rfl : i = mn.length := by omega
                            have hi2 : ¬ (mn.length : Int) < (mn.length : Int) := by omega
                            clear HXN
                            go_wp2_with fail
                            go_ret
                            exact ⟨rfl, HE5.out.1.only⟩
      · have hsm : (250 : Int) < (l.length : Int) + (l2.length : Int) := by omega
        go_wp2_with fail
        (with_reducible refine (HAL.out w2).mono ?_)
        rintro e w3 ⟨rfl, o3⟩
        go_wp2_with fail
        go_ret
        exact ⟨rfl, HO2.out.trans o3 (fun _ _ q => q)⟩
end Go.Proofs.YtklccpaphkpgfaaGreat
