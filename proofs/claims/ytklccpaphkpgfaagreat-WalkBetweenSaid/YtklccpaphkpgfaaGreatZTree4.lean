/- Package tree over the law's pages: children are kept as twigs. Conditions: one goroutine; the children may be laid, there are two at least, there is room for the pages. -/
import Derived.Test.YtklccpaphkpgfaaGreatZTree3
namespace Go.Proofs.YtklccpaphkpgfaaGreat
open Go.RowKit

set_option maxRecDepth 100000 in
set_option maxHeartbeats 4000000 in
theorem ttwigs_is (w : World) (b : Nat) (S S2 : PSt) (old : Int) (l : List Kid) (ks : List Kid) (v : Value) (h : PagesAt w b S) (hv : RowC kidC 2 w v l) (hr : rightL l = true) (hs : sizeL l ≤ 1000000) (h2 : 2 ≤ l.length) (hL : S.L.length + (cutT l).length ≤ 3998) (ho : 0 ≤ old ∧ old ≤ 4000) (ho2 : old < (S.L.length + 2 : Nat)) (hg : S.given.length < 1000000)
    (hk : twigsP S old l = (.ok ks, S2)) :
    Calls Tryz.prog 121 #[pagesV b, .int .i64 old, v] w fun e w' => ∃ V, e = .returned (.tuple #[V, .int .i64 0]) ∧ KidRow w w' b V ks ∧ PagesAt w' b S2 ∧ PStep b w w' := by
  obtain ⟨i0, hi, hz0, hz1, hz2⟩ := info_parts pageInfo
  obtain ⟨j0, hj, hjz0, hjz1, hjz2⟩ := info_parts kidInfo
  have hC := Lib.hid (TCut_is v l w hv hr hs h2)
  unfold twigsP at hk
  rw [if_pos hr] at hk
  have hri := (rightL_iff _).1 hr
  have hmost : ∀ x ∈ l, Keyed.cost x ≤ 36 := fun x hx => (cost_kid (hri.1 x hx)).2
  have hFX := fix_spec (cutL l) (cutL_big _ (fun x hx => (cost_kid (hri.1 x hx)).1) hmost) (by rw [cutL_flat]; exact h2) (by rw [cutL_flat]; exact hmost) (cutL_fit _ fun x hx => by have := hmost x hx; omega)
  rw [cutL_flat] at hFX
  change (cutT l).flatten = _ ∧ _ ∧ (∀ p ∈ cutT l, _) ∧ ∀ p ∈ cutT l, _ at hFX
  have hne : ∀ p ∈ cutT l, p ≠ [] := fun p hp q => by have := hFX.2.2.1 p hp; rw [q] at this; simp at this
  have hfit := hFX.2.2.2
  have hright : ∀ p ∈ cutT l, rightL p = true := fun p hp => rightL_sub hr (by have := part_sub hp; rwa [hFX.1] at this)
  clear hFX hmost hri
  generalize cutT l = pp at *
  have hsound : ∀ n ∈ pp.map Node.twig, soundN n := fun n hn => by
    obtain ⟨p, hp, rfl⟩ := List.mem_map.1 hn
    exact ⟨⟨hright p hp, (hfit p hp).2, (hfit p hp).1⟩, hne p hp⟩
  obtain ⟨ids, hids, hks⟩ : ∃ ids, keepP S old (pp.map Node.twig) = (.ok ids, S2) ∧ ks = kidsOf pp ids := by
    cases hkp : keepP S old (pp.map Node.twig) with
    | mk r p' =>
      rw [hkp] at hk
      cases r with
      | error e => simp at hk
      | ok ids => simp at hk; exact ⟨ids, by rw [hk.2], hk.1.symm⟩
  have hidl : ids.length = pp.length := by
    obtain ⟨ids', p', h1, K⟩ := keepP_is S old (pp.map Node.twig) (by rw [List.length_map]; exact hL) ho2
    rw [h1] at hids
    cases hids
    rw [K.len, List.length_map]
  have HP := Lib.hid h
  have hpw := h.lt
  have HPP := Lib.hid (And.intro hne (And.intro hfit hright))
  have HSN := Lib.hid hsound
  have HID := Lib.hid hids
  have hplen : pp.length ≤ 3998 := by omega
  clear hk hne hfit hright hsound hids h hv
  unfold pagesV
  go_enter Tryz.func121, Tryz.ntmps121
  go_wp2_with fail
  refine hC.out.mono ?_
  rintro e w1 ⟨V0, vs, rfl, own0, hparts, o1, new0, far0⟩
  obtain ⟨a0, c0, rfl⟩ := ownsRow_form own0
  have hvl : vs.length = pp.length := hparts.len
  have HW1 := Lib.hid (And.intro own0 (And.intro hparts (And.intro new0 far0)))
  have HO1 := Lib.hid o1
  clear own0 hparts o1 new0 far0 hC
  go_wp2_with fail
  go_loopg [10, 28] pp.length (fun gh pv ix wr => ∃ (k : Nat), gh + k = pp.length ∧ ix = .int .i64 k ∧ wr.ownsRow 0 188 4 pv k (((pp.map Node.twig).take k).flatMap newC) ∧ Only (fun _ => False) w1 wr ∧ ∀ j, pv.ownBlock = some j → w1.heap.size ≤ j)
  case atStart => exact ⟨0, by omega, rfl, ⟨rfl, .inl ⟨rfl, rfl⟩⟩, Only.refl _ _, (fun j hj => by simp [Value.ownBlock] at hj)⟩
  case round =>
    obtain ⟨k, hgh, rfl, own, ho1, hnew⟩ := hrel
    have HOW := Lib.hid own
    have HO := Lib.hid ho1
    have HNW := Lib.hid hnew
    clear own ho1 hnew
    by_cases hk : k < pp.length
    · have hk1 : (k : Int) < (vs.length : Int) := by omega
      obtain ⟨p, hp⟩ : ∃ p, pp[k]? = some p := ⟨_, List.getElem?_eq_getElem hk⟩
      obtain ⟨vk, hvk⟩ : ∃ vk, vs[k]? = some vk := ⟨_, List.getElem?_eq_getElem (by omega)⟩
      have hpm := List.mem_of_getElem? hp
      have hrow := (HW1.out.2.1.each k vk p hvk hp).only HO.out (fun _ _ => id)
      obtain ⟨ak, nk, ck, rfl⟩ := capOk_form hrow.cap
      obtain ⟨g0, rfl⟩ : ∃ g0, a0 = some ⟨g0, 0, none⟩ := by
        rcases HW1.out.1.2 with ⟨q, h0⟩ | ⟨g, cap, cur, q, _⟩
        · omega
        · injection q with q1 q2 q3; exact ⟨g, q1⟩
      have e0 := own_cell (own_only HW1.out.1 HO.out (fun _ _ => id)) k _ hvk
      have hL := TLay_is _ p wr hrow.row (HPP.out.1 p hpm) (HPP.out.2.2 p hpm) (HPP.out.2.1 p hpm).2 (HPP.out.2.1 p hpm).1
      have HLAY := Lib.hid hL
      have hw1 : IntKind.i64.wrap ((k : Int) + 1) = (k : Int) + 1 := by exact IntWalk.i64_in _ (by omega)
      have HX := Lib.hid (show (pp.map Node.twig)[k]? = some (Node.twig p) by rw [List.getElem?_map, hp]; rfl)
      clear hL hrow hp hvk hpm
      go_wp2_with fail
      refine HLAY.out.mono ?_
      rintro e w2 ⟨rfl, o2⟩
      have HO2 := Lib.hid (HO.out.trans o2 (fun _ _ q => q))
      have oV := (Only.refl (fun _ => False) w2).alloc (.cells #[.int .i64 4, .int .i64 0, .int .i64 0, str (twigB p)] 188)
      have HOWN := Lib.hid (own_only HOW.out (o2.trans oV (fun _ _ q => q)) (fun _ _ => id))
      have HC := Lib.hid (cells_new w2 [.int .i64 4, .int .i64 0, .int .i64 0, str (twigB p)] 188 (0, 0))
      have HOV := Lib.hid (HO2.out.trans oV (fun _ _ q => q))
      clear o2 oV
      go_wp2_with (at_builtin; refine wpList_append_moved _ rfl _ _ 58 rfl 188 i0 _ 4 40 Tryz.underlying58 hi hz0 hz1 hz2 rfl (by decide) _ _ _ rfl HOWN.out ⟨w2.heap.size, 0, none⟩ 1 1 [.int .i64 4, .int .i64 0, .int .i64 0, str (twigB p)] rfl rfl HC.out (by simp [Value.oneCell', str]) (by unfold maxLen; omega) (by omega) ?_; intro a' c' wx hown2 hgr hmv; have HX2 := Lib.hid (And.intro hown2 (And.intro hgr hmv)); clear hown2 hgr hmv)
      go_roundg (gk - 1)
      case measure => omega
      case rel =>
        obtain ⟨hown2, hgr, hmv⟩ := HX2.out
        refine ⟨k + 1, by omega, by go_num, ?_, HOV.out.grown hgr (fun j hj e => by have := HNW.out j e; omega), fun j hj => ?_⟩
        · rw [take_snoc newC HX.out]; exact hown2
        · rcases hmv j hj with e | e
          · exact HNW.out j e
          · have := HO2.out.size; simp at e; omega
    · obtain rfl : k = pp.length := by omega
      have hk1 : ¬ (pp.length : Int) < (vs.length : Int) := by omega
      have hml : (pp.map Node.twig).length = pp.length := List.length_map ..
      have hown := HOW.out
      rw [← hml, List.take_length] at hown
      have hb1 := HP.out.still HO1.out
      have hb2 := hb1.still HO.out
      have hap : Apart wr b u10 := Apart.new hb1 HO.out (fun j hj => by rw [rowBlock_own hown] at hj; exact ⟨HNW.out j hj, (hown.lt j hj).2⟩)
      have hK := tkeep_is wr b S S2 old (pp.map Node.twig) ids u10 hb2 (row_own (enc := newC) (k := 4) (fun _ => rfl) hown) hap HSN.out (by rw [hml]; exact hL) ho hg HID.out
      have HK := Lib.hid hK
      have HS2 := Lib.hid ((PStep.still hpw HO1.out).trans (PStep.still hb1.lt HO.out))
      have hparts2 := HW1.out.2.1.only HO.out (fun _ _ _ _ => id)
      have hown0 := own_only HW1.out.1 HO.out (fun _ _ => id)
      have HAPV : ∀ vk ∈ vs, Apart wr b vk := fun vk hvk j hj => by
        obtain ⟨f1, f2, _⟩ := HW1.out.2.2.2 vk hvk j hj
        exact ⟨fun q => by have := pown_lt HP.out ((pown_of_heap ((HO1.out.trans HO.out (fun _ _ q => q)).block b hpw id) j).1 q); omega, by have := HO.out.size; omega⟩
      have HAP0 : ∀ j, (Value.slice a0 vs.length c0).ownBlock = some j → ¬ pown wr b j := fun j hj q => by
        have := HW1.out.2.2.1 j hj
        have := pown_lt HP.out ((pown_of_heap ((HO1.out.trans HO.out (fun _ _ q => q)).block b hpw id) j).1 q); omega
      have HW2 := Lib.hid (And.intro hown0 (And.intro hparts2 (And.intro HAPV HAP0)))
      clear hown hb1 hb2 hap hK hparts2 hown0 HAPV HAP0 HW1
      unfold pagesV at HK
      go_wp2_with fail
      (with_reducible refine HK.out.mono ?_)
      rintro e w3 ⟨V, rfl, hrow3, hap3, hp3, st3⟩
      obtain ⟨aI, nI, cI, rfl⟩ := capOk_form hrow3.cap
      have hnI : nI = ids.length := by
        cases hrow3.row with
        | none => rfl
        | some => rfl
      subst hnI
      have hown0 := own_only HW2.out.1 st3.only HW2.out.2.2.2
      have hparts3 : PartsK w3 vs pp := HW2.out.2.1.only st3.only (fun vk hvk j hj => (HW2.out.2.2.1 vk hvk j hj).1)
      have HI3 := Lib.hid hrow3
      have HP3 := Lib.hid hp3
      have HS3 := Lib.hid (HS2.out.trans st3)
      have HW3 := Lib.hid (And.intro hown0 hparts3)
      clear hrow3 hap3 hp3 st3 hown0 hparts3 HW2 HS2 HK HNW
      have hkl := kidsOf_length pp ids hidl
      go_wp2_with fail
      go_loopg [16, 55] ids.length (fun gh ov ix wr => ∃ (k : Nat), gh + k = ids.length ∧ ix = .int .i64 k ∧ wr.ownsRow 0 159 2 ov k (((kidsOf pp ids).take k).flatMap kidC) ∧ Only (fun _ => False) w3 wr ∧ ∀ j, ov.ownBlock = some j → w3.heap.size ≤ j)
      case atStart => exact ⟨0, by omega, rfl, ⟨rfl, .inl ⟨rfl, rfl⟩⟩, Only.refl _ _, (fun j hj => by simp [Value.ownBlock] at hj)⟩
      case round =>
        obtain ⟨k, hgh, rfl, own, ho1, hnew⟩ := hrel
        have HOW := Lib.hid own
        have HO := Lib.hid ho1
        have HNW := Lib.hid hnew
        clear own ho1 hnew
        by_cases hk : k < ids.length
        · have hk1 : (k : Int) < (ids.length : Int) := by omega
          have hk2 : (k : Int) < (vs.length : Int) := by omega
          obtain ⟨p, hp⟩ : ∃ p, pp[k]? = some p := ⟨_, List.getElem?_eq_getElem (by omega)⟩
          obtain ⟨i, hi2⟩ : ∃ i, ids[k]? = some i := ⟨_, List.getElem?_eq_getElem hk⟩
          obtain ⟨vk, hvk⟩ : ∃ vk, vs[k]? = some vk := ⟨_, List.getElem?_eq_getElem (by omega)⟩
          have hpm := List.mem_of_getElem? hp
          obtain ⟨x, p', rfl⟩ := List.exists_cons_of_ne_nil (HPP.out.1 p hpm)
          have hrow := (HW3.out.2.each k vk _ hvk hp).only HO.out (fun _ _ => id)
          obtain ⟨ak, nk, ck, rfl⟩ := capOk_form hrow.cap
          obtain ⟨gk2, offk, rfl, q0, _⟩ := row_kid hrow.row (k := 0) (x := x) rfl
          have hnk : 0 < nk := by
            cases hrow.row with
            | some => simp
          obtain ⟨g0, rfl⟩ : ∃ g0, a0 = some ⟨g0, 0, none⟩ := by
            rcases HW3.out.1.2 with ⟨q, h0⟩ | ⟨g, cap, cur, q, _⟩
            · omega
            · injection q with q1 q2 q3; exact ⟨g, q1⟩
          have e0 := own_cell (own_only HW3.out.1 HO.out (fun _ _ => id)) k _ hvk
          obtain ⟨gi, offi, rfl, e1⟩ := row_int (row_only HI3.out.row HO.out (fun _ _ => id)) hi2
          simp only [Nat.zero_mul, Nat.add_zero] at q0
          have hw1 : IntKind.i64.wrap ((k : Int) + 1) = (k : Int) + 1 := by exact IntWalk.i64_in _ (by omega)
          have HX := Lib.hid (kidsOf_get hp hi2)
          have hnk1 : (0 : Int) < (nk : Int) := by omega
          have oV := (Only.refl (fun _ => False) wr).alloc (.cells #[str x.key, .int .i64 i] 159)
          have HOWN := Lib.hid (own_only HOW.out oV (fun _ _ => id))
          have HC := Lib.hid (cells_new wr [str x.key, .int .i64 i] 159 (0, 0))
          have HOV := Lib.hid (HO.out.trans oV (fun _ _ q => q))
          clear oV hrow hp hi2 hvk hpm
          go_wp2_with (at_builtin; refine wpList_append_moved _ rfl _ _ 121 rfl 159 j0 _ 2 24 Tryz.underlying121 hj hjz0 hjz1 hjz2 rfl (by decide) _ _ _ rfl HOWN.out ⟨wr.heap.size, 0, none⟩ 1 1 [str x.key, .int .i64 i] rfl rfl HC.out (by simp [Value.oneCell', str]) (by unfold maxLen; omega) (by omega) ?_; intro a' c' wx hown2 hgr hmv; have HX2 := Lib.hid (And.intro hown2 (And.intro hgr hmv)); clear hown2 hgr hmv)
          go_roundg (gk - 1)
          case measure => omega
          case rel =>
            obtain ⟨hown2, hgr, hmv⟩ := HX2.out
            refine ⟨k + 1, by omega, by go_num, ?_, HOV.out.grown hgr (fun j hj e => by have := HNW.out j e; omega), fun j hj => ?_⟩
            · rw [take_snoc kidC HX.out]; exact hown2
            · rcases hmv j hj with e | e
              · exact HNW.out j e
              · have := HO.out.size; simp at e; omega
        · obtain rfl : k = ids.length := by omega
          have hk1 : ¬ (ids.length : Int) < (ids.length : Int) := by omega
          go_wp2_with fail
          go_ret2
          have hown := HOW.out
          rw [← hkl, List.take_length] at hown
          refine ⟨u16, rfl, ⟨by first | exact hown | (rw [hks]; exact hown), fun j hj => ⟨?_, fun q => ?_⟩⟩, HP3.out.still HO.out, HS3.out.trans (PStep.still HP3.out.lt HO.out)⟩
          · have := HNW.out j hj; have := HS3.out.only.size; omega
          · have := HNW.out j hj; have := pown_lt HP3.out ((pown_of_heap (HO.out.block b HP3.out.lt id) j).1 q); omega
end Go.Proofs.YtklccpaphkpgfaaGreat
