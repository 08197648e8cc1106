/- Package tree over the law's pages: items are kept as leaves. Conditions: one goroutine; the items may be laid, there is room for the pages. -/
import Derived.Test.YtbhiamcmiopnoaaGreatDoorZTree2
import Derived.Test.YtbhiamcmiopnoaaGreatDoorZPlainB
import Derived.Deep.RegionWith
import Derived.BigRegion
namespace Go.Proofs.YtbhiamcmiopnoaaGreatDoor
section
open Go.RowKit
structure KidRow (w0 w : World) (b : Nat) (V : Value) (ks : List Kid) : Prop where
  own : w.ownsRow 0 185 2 V ks.length (ks.flatMap kidC)
  far : ∀ j, V.ownBlock = some j → w0.heap.size ≤ j ∧ ¬ pown w b j
theorem KidRow.row {w0 w : World} {b : Nat} {V : Value} {ks : List Kid} (h : KidRow w0 w b V ks) : RowC kidC 2 w V ks := ⟨row_own (fun _ => rfl) h.own, cap_own h.own⟩
theorem KidRow.apart {w0 w : World} {b : Nat} {V : Value} {ks : List Kid} (h : KidRow w0 w b V ks) : Apart w b V := fun j hj => by
  rw [rowBlock_own h.own] at hj
  exact ⟨(h.far j hj).2, (h.own.lt j hj).2⟩
theorem kidsOf_get {α : Type} [Keyed α] {pp : List (List α)} {ids : List Int} {k : Nat} {p : List α} {i : Int} (hp : pp[k]? = some p) (hi : ids[k]? = some i) : (kidsOf pp ids)[k]? = some ⟨(p.head?.map Keyed.key).getD [], i⟩ := by
  unfold kidsOf
  rw [List.getElem?_zipWith, hp, hi]
theorem kidsOf_length {α : Type} [Keyed α] (pp : List (List α)) (ids : List Int) (h : ids.length = pp.length) : (kidsOf pp ids).length = ids.length := by
  unfold kidsOf
  rw [List.length_zipWith]
  omega
theorem row_int {w : World} {a : Option Addr} {n c : Nat} {l : List Int} (h : RowAt intE 1 w (.slice a n c) l) {k : Nat} {i : Int} (hx : l[k]? = some i) : ∃ g off, a = some ⟨g, off, none⟩ ∧ w.cell? ⟨g, off + k, none⟩ = some (.int .i64 i) := by
  cases h with
  | none => simp at hx
  | some g off cap _ hc => exact ⟨g, off, rfl, by simpa using hc k i 0 _ hx rfl⟩
theorem take_snoc {α β : Type} (f : α → List β) {l : List α} {k : Nat} {x : α} (h : l[k]? = some x) : (l.take (k + 1)).flatMap f = (l.take k).flatMap f ++ f x := by
  rw [List.take_add_one, h, List.flatMap_append]
  simp
set_option maxRecDepth 100000 in
set_option maxHeartbeats 4000000 in
theorem tleaves_is (w : World) (b : Nat) (S S2 : PSt) (old : Int) (l : List Item) (ks : List Kid) (v : Value) (h : PagesAt w b S) (hv : RowC itemC 3 w v l) (hr : rightL l = true) (hs : sizeL l ≤ 1000000) (hL : S.L.length + (cutL l).length ≤ 3998) (ho : 0 ≤ old ∧ old ≤ 4000) (ho2 : old < (S.L.length + 2 : Nat)) (hg : S.given.length < 1000000)
    (hk : leavesP S old l = (.ok ks, S2)) :
    Calls Tryz.prog 173 #[pagesV b, .int .i64 old, v] w fun e w' => ∃ V, e = .returned (.tuple #[V, .int .i64 0]) ∧ KidRow w w' b V ks ∧ PagesAt w' b S2 ∧ PStep b w w' := by
  obtain ⟨i0, hi, hz0, hz1, hz2⟩ := info_parts pageInfo
  obtain ⟨j0, hj, hjz0, hjz1, hjz2⟩ := info_parts kidInfo
  have hC := Lib.hid (Cut_is v l w hv hr hs)
  unfold leavesP at hk
  rw [if_pos hr] at hk
  have hne := cutL_ne l
  have hfit := cutL_fit l fun x hx => by have := (cost_item (((rightL_iff _).1 hr).1 x hx)).2; omega
  have hright : ∀ p ∈ cutL l, rightL p = true := fun p hp => rightL_sub hr (by have := part_sub hp; rwa [cutL_flat] at this)
  generalize cutL l = pp at *
  have hsound : ∀ n ∈ pp.map Node.leaf, soundN n := fun n hn => by
    obtain ⟨p, hp, rfl⟩ := List.mem_map.1 hn
    exact ⟨⟨hright p hp, (hfit p hp).2, (hfit p hp).1⟩, hne p hp⟩
  obtain ⟨ids, hids, hks⟩ : ∃ ids, keepP S old (pp.map Node.leaf) = (.ok ids, S2) ∧ ks = kidsOf pp ids := by
    cases hkp : keepP S old (pp.map Node.leaf) with
    | mk r p' =>
      rw [hkp] at hk
      cases r with
      | error e => simp at hk
      | ok ids => simp at hk; exact ⟨ids, by rw [hk.2], hk.1.symm⟩
  have hidl : ids.length = pp.length := by
    obtain ⟨ids', p', h1, K⟩ := keepP_is S old (pp.map Node.leaf) (by rw [List.length_map]; exact hL) ho2
    rw [h1] at hids
    cases hids
    rw [K.len, List.length_map]
  have HP := Lib.hid h
  have hpw := h.lt
  have HPP := Lib.hid (And.intro hne (And.intro hfit hright))
  have HSN := Lib.hid hsound
  have HID := Lib.hid hids
  have hplen : pp.length ≤ 3998 := by omega
  clear hk hne hfit hright hsound hids h hv
  unfold pagesV
  go_enter Tryz.func173, Tryz.ntmps173
  go_wp2_with fail
  refine hC.out.mono ?_
  rintro e w1 ⟨V0, vs, rfl, own0, hparts, o1, new0, far0⟩
  obtain ⟨a0, c0, rfl⟩ := ownsRow_form own0
  have hvl : vs.length = pp.length := hparts.len
  have HW1 := Lib.hid (And.intro own0 (And.intro hparts (And.intro new0 far0)))
  have HO1 := Lib.hid o1
  clear own0 hparts o1 new0 far0 hC
  go_wp2_with fail
  go_loopg [10, 29] pp.length (fun gh pv ix wr => ∃ (k : Nat), gh + k = pp.length ∧ ix = .int .i64 k ∧ wr.ownsRow 0 252 4 pv k (((pp.map Node.leaf).take k).flatMap newC) ∧ Only (fun _ => False) w1 wr ∧ ∀ j, pv.ownBlock = some j → w1.heap.size ≤ j)
  case atStart => exact ⟨0, by omega, rfl, ⟨rfl, .inl ⟨rfl, rfl⟩⟩, Only.refl _ _, (fun j hj => by simp [Value.ownBlock] at hj)⟩
  case round =>
    obtain ⟨k, hgh, rfl, own, ho1, hnew⟩ := hrel
    have HOW := Lib.hid own
    have HO := Lib.hid ho1
    have HNW := Lib.hid hnew
    clear own ho1 hnew
    by_cases hk : k < pp.length
    · have hk1 : (k : Int) < (vs.length : Int) := by omega
      obtain ⟨p, hp⟩ : ∃ p, pp[k]? = some p := ⟨_, List.getElem?_eq_getElem hk⟩
      obtain ⟨vk, hvk⟩ : ∃ vk, vs[k]? = some vk := ⟨_, List.getElem?_eq_getElem (by omega)⟩
      have hpm := List.mem_of_getElem? hp
      have hrow := (HW1.out.2.1.each k vk p hvk hp).only HO.out (fun _ _ => id)
      obtain ⟨ak, nk, ck, rfl⟩ := capOk_form hrow.cap
      obtain ⟨g0, rfl⟩ : ∃ g0, a0 = some ⟨g0, 0, none⟩ := by
        rcases HW1.out.1.2 with ⟨q, h0⟩ | ⟨g, cap, cur, q, _⟩
        · omega
        · injection q with q1 q2 q3; exact ⟨g, q1⟩
      have e0 := own_cell (own_only HW1.out.1 HO.out (fun _ _ => id)) k _ hvk
      have hlay : layItems p = (leafB p, 0) := by
        unfold layItems
        rw [if_pos (HPP.out.2.2 p hpm), if_neg (by have := HPP.out.2.1 p hpm; omega)]
      have hL := Lay_is _ p wr hrow.row (by have := HPP.out.2.1 p hpm; omega)
      rw [hlay] at hL
      have HLAY := Lib.hid hL
      have hw1 : IntKind.i64.wrap ((k : Int) + 1) = (k : Int) + 1 := by exact IntWalk.i64_in _ (by omega)
      have HX := Lib.hid (show (pp.map Node.leaf)[k]? = some (Node.leaf p) by rw [List.getElem?_map, hp]; rfl)
      clear hL hlay hrow hp hvk hpm
      go_wp2_with fail
      refine HLAY.out.mono ?_
      rintro e w2 ⟨rfl, o2⟩
      have HO2 := Lib.hid (HO.out.trans o2 (fun _ _ q => q))
      have oV := (Only.refl (fun _ => False) w2).alloc (.cells #[.int .i64 3, .int .i64 0, .int .i64 0, str (leafB p)] 252)
      have HOWN := Lib.hid (own_only HOW.out (o2.trans oV (fun _ _ q => q)) (fun _ _ => id))
      have HC := Lib.hid (cells_new w2 [.int .i64 3, .int .i64 0, .int .i64 0, str (leafB p)] 252 (0, 0))
      have HOV := Lib.hid (HO2.out.trans oV (fun _ _ q => q))
      clear o2 oV
      go_wp2_with (at_builtin; refine wpList_append_moved _ rfl _ _ 60 rfl 252 i0 _ 4 40 Tryz.underlying60 hi hz0 hz1 hz2 rfl (by decide) _ _ _ rfl HOWN.out ⟨w2.heap.size, 0, none⟩ 1 1 [.int .i64 3, .int .i64 0, .int .i64 0, str (leafB p)] rfl rfl HC.out (by simp [Value.oneCell', str]) (by unfold maxLen; omega) (by omega) ?_; intro a' c' wx hown2 hgr hmv; have HX2 := Lib.hid (And.intro hown2 (And.intro hgr hmv)); clear hown2 hgr hmv)
      go_roundg (gk - 1)
      case measure => omega
      case rel =>
        obtain ⟨hown2, hgr, hmv⟩ := HX2.out
        refine ⟨k + 1, by omega, by go_num, ?_, HOV.out.grown hgr (fun j hj e => by have := HNW.out j e; omega), fun j hj => ?_⟩
        · rw [take_snoc newC HX.out]; exact hown2
        · rcases hmv j hj with e | e
          · exact HNW.out j e
          · have := HO2.out.size; simp at e; omega
    · obtain rfl : k = pp.length := by omega
      have hk1 : ¬ (pp.length : Int) < (vs.length : Int) := by omega
      have hml : (pp.map Node.leaf).length = pp.length := List.length_map ..
      have hown := HOW.out
      rw [← hml, List.take_length] at hown
      have hb1 := HP.out.still HO1.out
      have hb2 := hb1.still HO.out
      have hap : Apart wr b u10 := Apart.new hb1 HO.out (fun j hj => by rw [rowBlock_own hown] at hj; exact ⟨HNW.out j hj, (hown.lt j hj).2⟩)
      have hK := tkeep_is wr b S S2 old (pp.map Node.leaf) ids u10 hb2 (row_own (enc := newC) (k := 4) (fun _ => rfl) hown) hap HSN.out (by rw [hml]; exact hL) ho hg HID.out
      have HK := Lib.hid hK
      have HS2 := Lib.hid ((PStep.still hpw HO1.out).trans (PStep.still hb1.lt HO.out))
      have hparts2 := HW1.out.2.1.only HO.out (fun _ _ _ _ => id)
      have hown0 := own_only HW1.out.1 HO.out (fun _ _ => id)
      have HAPV : ∀ vk ∈ vs, Apart wr b vk := fun vk hvk j hj => by
        obtain ⟨f1, f2, _⟩ := HW1.out.2.2.2 vk hvk j hj
        exact ⟨fun q => by have := pown_lt HP.out ((pown_of_heap ((HO1.out.trans HO.out (fun _ _ q => q)).block b hpw id) j).1 q); omega, by have := HO.out.size; omega⟩
      have HAP0 : ∀ j, (Value.slice a0 vs.length c0).ownBlock = some j → ¬ pown wr b j := fun j hj q => by
        have := HW1.out.2.2.1 j hj
        have := pown_lt HP.out ((pown_of_heap ((HO1.out.trans HO.out (fun _ _ q => q)).block b hpw id) j).1 q); omega
      have HW2 := Lib.hid (And.intro hown0 (And.intro hparts2 (And.intro HAPV HAP0)))
      clear hown hb1 hb2 hap hK hparts2 hown0 HAPV HAP0 HW1
      unfold pagesV at HK
      go_wp2_with fail
      (with_reducible refine HK.out.mono ?_)
      rintro e w3 ⟨V, rfl, hrow3, hap3, hp3, st3⟩
      obtain ⟨aI, nI, cI, rfl⟩ := capOk_form hrow3.cap
      have hnI : nI = ids.length := by
        cases hrow3.row with
        | none => rfl
        | some => rfl
      subst hnI
      have hown0 := own_only HW2.out.1 st3.only HW2.out.2.2.2
      have hparts3 : Parts w3 vs pp := HW2.out.2.1.only st3.only (fun vk hvk j hj => (HW2.out.2.2.1 vk hvk j hj).1)
      have HI3 := Lib.hid hrow3
      have HP3 := Lib.hid hp3
      have HS3 := Lib.hid (HS2.out.trans st3)
      have HW3 := Lib.hid (And.intro hown0 hparts3)
      clear hrow3 hap3 hp3 st3 hown0 hparts3 HW2 HS2 HK HNW
      have hkl := kidsOf_length pp ids hidl
      go_wp2_with fail
      go_loopg [16, 56] ids.length (fun gh ov ix wr => ∃ (k : Nat), gh + k = ids.length ∧ ix = .int .i64 k ∧ wr.ownsRow 0 185 2 ov k (((kidsOf pp ids).take k).flatMap kidC) ∧ Only (fun _ => False) w3 wr ∧ ∀ j, ov.ownBlock = some j → w3.heap.size ≤ j)
      case atStart => exact ⟨0, by omega, rfl, ⟨rfl, .inl ⟨rfl, rfl⟩⟩, Only.refl _ _, (fun j hj => by simp [Value.ownBlock] at hj)⟩
      case round =>
        obtain ⟨k, hgh, rfl, own, ho1, hnew⟩ := hrel
        have HOW := Lib.hid own
        have HO := Lib.hid ho1
        have HNW := Lib.hid hnew
        clear own ho1 hnew
        by_cases hk : k < ids.length
        · have hk1 : (k : Int) < (ids.length : Int) := by omega
          have hk2 : (k : Int) < (vs.length : Int) := by omega
          obtain ⟨p, hp⟩ : ∃ p, pp[k]? = some p := ⟨_, List.getElem?_eq_getElem (by omega)⟩
          obtain ⟨i, hi2⟩ : ∃ i, ids[k]? = some i := ⟨_, List.getElem?_eq_getElem hk⟩
          obtain ⟨vk, hvk⟩ : ∃ vk, vs[k]? = some vk := ⟨_, List.getElem?_eq_getElem (by omega)⟩
          have hpm := List.mem_of_getElem? hp
          obtain ⟨x, p', rfl⟩ := List.exists_cons_of_ne_nil (HPP.out.1 p hpm)
          have hrow := (HW3.out.2.each k vk _ hvk hp).only HO.out (fun _ _ => id)
          obtain ⟨ak, nk, ck, rfl⟩ := capOk_form hrow.cap
          obtain ⟨gk2, offk, rfl, q0, _, _⟩ := row_item hrow.row (k := 0) (x := x) rfl
          have hnk : 0 < nk := by
            cases hrow.row with
            | some => simp
          obtain ⟨g0, rfl⟩ : ∃ g0, a0 = some ⟨g0, 0, none⟩ := by
            rcases HW3.out.1.2 with ⟨q, h0⟩ | ⟨g, cap, cur, q, _⟩
            · omega
            · injection q with q1 q2 q3; exact ⟨g, q1⟩
          have e0 := own_cell (own_only HW3.out.1 HO.out (fun _ _ => id)) k _ hvk
          obtain ⟨gi, offi, rfl, e1⟩ := row_int (row_only HI3.out.row HO.out (fun _ _ => id)) hi2
          simp only [Nat.zero_mul, Nat.add_zero] at q0
          have hw1 : IntKind.i64.wrap ((k : Int) + 1) = (k : Int) + 1 := by exact IntWalk.i64_in _ (by omega)
          have HX := Lib.hid (kidsOf_get hp hi2)
          have hnk1 : (0 : Int) < (nk : Int) := by omega
          have oV := (Only.refl (fun _ => False) wr).alloc (.cells #[str x.key, .int .i64 i] 185)
          have HOWN := Lib.hid (own_only HOW.out oV (fun _ _ => id))
          have HC := Lib.hid (cells_new wr [str x.key, .int .i64 i] 185 (0, 0))
          have HOV := Lib.hid (HO.out.trans oV (fun _ _ q => q))
          clear oV hrow hp hi2 hvk hpm
          go_wp2_with (at_builtin; refine wpList_append_moved _ rfl _ _ 163 rfl 185 j0 _ 2 24 Tryz.underlying163 hj hjz0 hjz1 hjz2 rfl (by decide) _ _ _ rfl HOWN.out ⟨wr.heap.size, 0, none⟩ 1 1 [str x.key, .int .i64 i] rfl rfl HC.out (by simp [Value.oneCell', str]) (by unfold maxLen; omega) (by omega) ?_; intro a' c' wx hown2 hgr hmv; have HX2 := Lib.hid (And.intro hown2 (And.intro hgr hmv)); clear hown2 hgr hmv)
          go_roundg (gk - 1)
          case measure => omega
          case rel =>
            obtain ⟨hown2, hgr, hmv⟩ := HX2.out
            refine ⟨k + 1, by omega, by go_num, ?_, HOV.out.grown hgr (fun j hj e => by have := HNW.out j e; omega), fun j hj => ?_⟩
            · rw [take_snoc kidC HX.out]; exact hown2
            · rcases hmv j hj with e | e
              · exact HNW.out j e
              · have := HO.out.size; simp at e; omega
        · obtain rfl : k = ids.length := by omega
          have hk1 : ¬ (ids.length : Int) < (ids.length : Int) := by omega
          go_wp2_with fail
          go_ret2
          have hown := HOW.out
          rw [← hkl, List.take_length] at hown
          refine ⟨u16, rfl, ⟨by first | exact hown | (rw [hks]; exact hown), fun j hj => ⟨?_, fun q => ?_⟩⟩, HP3.out.still HO.out, HS3.out.trans (PStep.still HP3.out.lt HO.out)⟩
          · have := HNW.out j hj; have := HS3.out.only.size; omega
          · have := HNW.out j hj; have := pown_lt HP3.out ((pown_of_heap (HO.out.block b HP3.out.lt id) j).1 q); omega
end
section
open Go.RowKit
set_option maxRecDepth 100000 in
set_option maxHeartbeats 4000000 in
theorem ttwigs_is (w : World) (b : Nat) (S S2 : PSt) (old : Int) (l : List Kid) (ks : List Kid) (v : Value) (h : PagesAt w b S) (hv : RowC kidC 2 w v l) (hr : rightL l = true) (hs : sizeL l ≤ 1000000) (h2 : 2 ≤ l.length) (hL : S.L.length + (cutT l).length ≤ 3998) (ho : 0 ≤ old ∧ old ≤ 4000) (ho2 : old < (S.L.length + 2 : Nat)) (hg : S.given.length < 1000000)
    (hk : twigsP S old l = (.ok ks, S2)) :
    Calls Tryz.prog 197 #[pagesV b, .int .i64 old, v] w fun e w' => ∃ V, e = .returned (.tuple #[V, .int .i64 0]) ∧ KidRow w w' b V ks ∧ PagesAt w' b S2 ∧ PStep b w w' := by
  obtain ⟨i0, hi, hz0, hz1, hz2⟩ := info_parts pageInfo
  obtain ⟨j0, hj, hjz0, hjz1, hjz2⟩ := info_parts kidInfo
  have hC := Lib.hid (TCut_is v l w hv hr hs h2)
  unfold twigsP at hk
  rw [if_pos hr] at hk
  have hri := (rightL_iff _).1 hr
  have hmost : ∀ x ∈ l, Keyed.cost x ≤ 36 := fun x hx => (cost_kid (hri.1 x hx)).2
  have hFX := fix_spec (cutL l) (cutL_big _ (fun x hx => (cost_kid (hri.1 x hx)).1) hmost) (by rw [cutL_flat]; exact h2) (by rw [cutL_flat]; exact hmost) (cutL_fit _ fun x hx => by have := hmost x hx; omega)
  rw [cutL_flat] at hFX
  change (cutT l).flatten = _ ∧ _ ∧ (∀ p ∈ cutT l, _) ∧ ∀ p ∈ cutT l, _ at hFX
  have hne : ∀ p ∈ cutT l, p ≠ [] := fun p hp q => by have := hFX.2.2.1 p hp; rw [q] at this; simp at this
  have hfit := hFX.2.2.2
  have hright : ∀ p ∈ cutT l, rightL p = true := fun p hp => rightL_sub hr (by have := part_sub hp; rwa [hFX.1] at this)
  clear hFX hmost hri
  generalize cutT l = pp at *
  have hsound : ∀ n ∈ pp.map Node.twig, soundN n := fun n hn => by
    obtain ⟨p, hp, rfl⟩ := List.mem_map.1 hn
    exact ⟨⟨hright p hp, (hfit p hp).2, (hfit p hp).1⟩, hne p hp⟩
  obtain ⟨ids, hids, hks⟩ : ∃ ids, keepP S old (pp.map Node.twig) = (.ok ids, S2) ∧ ks = kidsOf pp ids := by
    cases hkp : keepP S old (pp.map Node.twig) with
    | mk r p' =>
      rw [hkp] at hk
      cases r with
      | error e => simp at hk
      | ok ids => simp at hk; exact ⟨ids, by rw [hk.2], hk.1.symm⟩
  have hidl : ids.length = pp.length := by
    obtain ⟨ids', p', h1, K⟩ := keepP_is S old (pp.map Node.twig) (by rw [List.length_map]; exact hL) ho2
    rw [h1] at hids
    cases hids
    rw [K.len, List.length_map]
  have HP := Lib.hid h
  have hpw := h.lt
  have HPP := Lib.hid (And.intro hne (And.intro hfit hright))
  have HSN := Lib.hid hsound
  have HID := Lib.hid hids
  have hplen : pp.length ≤ 3998 := by omega
  clear hk hne hfit hright hsound hids h hv
  unfold pagesV
  go_enter Tryz.func197, Tryz.ntmps197
  go_wp2_with fail
  refine hC.out.mono ?_
  rintro e w1 ⟨V0, vs, rfl, own0, hparts, o1, new0, far0⟩
  obtain ⟨a0, c0, rfl⟩ := ownsRow_form own0
  have hvl : vs.length = pp.length := hparts.len
  have HW1 := Lib.hid (And.intro own0 (And.intro hparts (And.intro new0 far0)))
  have HO1 := Lib.hid o1
  clear own0 hparts o1 new0 far0 hC
  go_wp2_with fail
  go_loopg [10, 28] pp.length (fun gh pv ix wr => ∃ (k : Nat), gh + k = pp.length ∧ ix = .int .i64 k ∧ wr.ownsRow 0 252 4 pv k (((pp.map Node.twig).take k).flatMap newC) ∧ Only (fun _ => False) w1 wr ∧ ∀ j, pv.ownBlock = some j → w1.heap.size ≤ j)
  case atStart => exact ⟨0, by omega, rfl, ⟨rfl, .inl ⟨rfl, rfl⟩⟩, Only.refl _ _, (fun j hj => by simp [Value.ownBlock] at hj)⟩
  case round =>
    obtain ⟨k, hgh, rfl, own, ho1, hnew⟩ := hrel
    have HOW := Lib.hid own
    have HO := Lib.hid ho1
    have HNW := Lib.hid hnew
    clear own ho1 hnew
    by_cases hk : k < pp.length
    · have hk1 : (k : Int) < (vs.length : Int) := by omega
      obtain ⟨p, hp⟩ : ∃ p, pp[k]? = some p := ⟨_, List.getElem?_eq_getElem hk⟩
      obtain ⟨vk, hvk⟩ : ∃ vk, vs[k]? = some vk := ⟨_, List.getElem?_eq_getElem (by omega)⟩
      have hpm := List.mem_of_getElem? hp
      have hrow := (HW1.out.2.1.each k vk p hvk hp).only HO.out (fun _ _ => id)
      obtain ⟨ak, nk, ck, rfl⟩ := capOk_form hrow.cap
      obtain ⟨g0, rfl⟩ : ∃ g0, a0 = some ⟨g0, 0, none⟩ := by
        rcases HW1.out.1.2 with ⟨q, h0⟩ | ⟨g, cap, cur, q, _⟩
        · omega
        · injection q with q1 q2 q3; exact ⟨g, q1⟩
      have e0 := own_cell (own_only HW1.out.1 HO.out (fun _ _ => id)) k _ hvk
      have hL := TLay_is _ p wr hrow.row (HPP.out.1 p hpm) (HPP.out.2.2 p hpm) (HPP.out.2.1 p hpm).2 (HPP.out.2.1 p hpm).1
      have HLAY := Lib.hid hL
      have hw1 : IntKind.i64.wrap ((k : Int) + 1) = (k : Int) + 1 := by exact IntWalk.i64_in _ (by omega)
      have HX := Lib.hid (show (pp.map Node.twig)[k]? = some (Node.twig p) by rw [List.getElem?_map, hp]; rfl)
      clear hL hrow hp hvk hpm
      go_wp2_with fail
      refine HLAY.out.mono ?_
      rintro e w2 ⟨rfl, o2⟩
      have HO2 := Lib.hid (HO.out.trans o2 (fun _ _ q => q))
      have oV := (Only.refl (fun _ => False) w2).alloc (.cells #[.int .i64 4, .int .i64 0, .int .i64 0, str (twigB p)] 252)
      have HOWN := Lib.hid (own_only HOW.out (o2.trans oV (fun _ _ q => q)) (fun _ _ => id))
      have HC := Lib.hid (cells_new w2 [.int .i64 4, .int .i64 0, .int .i64 0, str (twigB p)] 252 (0, 0))
      have HOV := Lib.hid (HO2.out.trans oV (fun _ _ q => q))
      clear o2 oV
      go_wp2_with (at_builtin; refine wpList_append_moved _ rfl _ _ 60 rfl 252 i0 _ 4 40 Tryz.underlying60 hi hz0 hz1 hz2 rfl (by decide) _ _ _ rfl HOWN.out ⟨w2.heap.size, 0, none⟩ 1 1 [.int .i64 4, .int .i64 0, .int .i64 0, str (twigB p)] rfl rfl HC.out (by simp [Value.oneCell', str]) (by unfold maxLen; omega) (by omega) ?_; intro a' c' wx hown2 hgr hmv; have HX2 := Lib.hid (And.intro hown2 (And.intro hgr hmv)); clear hown2 hgr hmv)
      go_roundg (gk - 1)
      case measure => omega
      case rel =>
        obtain ⟨hown2, hgr, hmv⟩ := HX2.out
        refine ⟨k + 1, by omega, by go_num, ?_, HOV.out.grown hgr (fun j hj e => by have := HNW.out j e; omega), fun j hj => ?_⟩
        · rw [take_snoc newC HX.out]; exact hown2
        · rcases hmv j hj with e | e
          · exact HNW.out j e
          · have := HO2.out.size; simp at e; omega
    · obtain rfl : k = pp.length := by omega
      have hk1 : ¬ (pp.length : Int) < (vs.length : Int) := by omega
      have hml : (pp.map Node.twig).length = pp.length := List.length_map ..
      have hown := HOW.out
      rw [← hml, List.take_length] at hown
      have hb1 := HP.out.still HO1.out
      have hb2 := hb1.still HO.out
      have hap : Apart wr b u10 := Apart.new hb1 HO.out (fun j hj => by rw [rowBlock_own hown] at hj; exact ⟨HNW.out j hj, (hown.lt j hj).2⟩)
      have hK := tkeep_is wr b S S2 old (pp.map Node.twig) ids u10 hb2 (row_own (enc := newC) (k := 4) (fun _ => rfl) hown) hap HSN.out (by rw [hml]; exact hL) ho hg HID.out
      have HK := Lib.hid hK
      have HS2 := Lib.hid ((PStep.still hpw HO1.out).trans (PStep.still hb1.lt HO.out))
      have hparts2 := HW1.out.2.1.only HO.out (fun _ _ _ _ => id)
      have hown0 := own_only HW1.out.1 HO.out (fun _ _ => id)
      have HAPV : ∀ vk ∈ vs, Apart wr b vk := fun vk hvk j hj => by
        obtain ⟨f1, f2, _⟩ := HW1.out.2.2.2 vk hvk j hj
        exact ⟨fun q => by have := pown_lt HP.out ((pown_of_heap ((HO1.out.trans HO.out (fun _ _ q => q)).block b hpw id) j).1 q); omega, by have := HO.out.size; omega⟩
      have HAP0 : ∀ j, (Value.slice a0 vs.length c0).ownBlock = some j → ¬ pown wr b j := fun j hj q => by
        have := HW1.out.2.2.1 j hj
        have := pown_lt HP.out ((pown_of_heap ((HO1.out.trans HO.out (fun _ _ q => q)).block b hpw id) j).1 q); omega
      have HW2 := Lib.hid (And.intro hown0 (And.intro hparts2 (And.intro HAPV HAP0)))
      clear hown hb1 hb2 hap hK hparts2 hown0 HAPV HAP0 HW1
      unfold pagesV at HK
      go_wp2_with fail
      (with_reducible refine HK.out.mono ?_)
      rintro e w3 ⟨V, rfl, hrow3, hap3, hp3, st3⟩
      obtain ⟨aI, nI, cI, rfl⟩ := capOk_form hrow3.cap
      have hnI : nI = ids.length := by
        cases hrow3.row with
        | none => rfl
        | some => rfl
      subst hnI
      have hown0 := own_only HW2.out.1 st3.only HW2.out.2.2.2
      have hparts3 : PartsK w3 vs pp := HW2.out.2.1.only st3.only (fun vk hvk j hj => (HW2.out.2.2.1 vk hvk j hj).1)
      have HI3 := Lib.hid hrow3
      have HP3 := Lib.hid hp3
      have HS3 := Lib.hid (HS2.out.trans st3)
      have HW3 := Lib.hid (And.intro hown0 hparts3)
      clear hrow3 hap3 hp3 st3 hown0 hparts3 HW2 HS2 HK HNW
      have hkl := kidsOf_length pp ids hidl
      go_wp2_with fail
      go_loopg [16, 55] ids.length (fun gh ov ix wr => ∃ (k : Nat), gh + k = ids.length ∧ ix = .int .i64 k ∧ wr.ownsRow 0 185 2 ov k (((kidsOf pp ids).take k).flatMap kidC) ∧ Only (fun _ => False) w3 wr ∧ ∀ j, ov.ownBlock = some j → w3.heap.size ≤ j)
      case atStart => exact ⟨0, by omega, rfl, ⟨rfl, .inl ⟨rfl, rfl⟩⟩, Only.refl _ _, (fun j hj => by simp [Value.ownBlock] at hj)⟩
      case round =>
        obtain ⟨k, hgh, rfl, own, ho1, hnew⟩ := hrel
        have HOW := Lib.hid own
        have HO := Lib.hid ho1
        have HNW := Lib.hid hnew
        clear own ho1 hnew
        by_cases hk : k < ids.length
        · have hk1 : (k : Int) < (ids.length : Int) := by omega
          have hk2 : (k : Int) < (vs.length : Int) := by omega
          obtain ⟨p, hp⟩ : ∃ p, pp[k]? = some p := ⟨_, List.getElem?_eq_getElem (by omega)⟩
          obtain ⟨i, hi2⟩ : ∃ i, ids[k]? = some i := ⟨_, List.getElem?_eq_getElem hk⟩
          obtain ⟨vk, hvk⟩ : ∃ vk, vs[k]? = some vk := ⟨_, List.getElem?_eq_getElem (by omega)⟩
          have hpm := List.mem_of_getElem? hp
          obtain ⟨x, p', rfl⟩ := List.exists_cons_of_ne_nil (HPP.out.1 p hpm)
          have hrow := (HW3.out.2.each k vk _ hvk hp).only HO.out (fun _ _ => id)
          obtain ⟨ak, nk, ck, rfl⟩ := capOk_form hrow.cap
          obtain ⟨gk2, offk, rfl, q0, _⟩ := row_kid hrow.row (k := 0) (x := x) rfl
          have hnk : 0 < nk := by
            cases hrow.row with
            | some => simp
          obtain ⟨g0, rfl⟩ : ∃ g0, a0 = some ⟨g0, 0, none⟩ := by
            rcases HW3.out.1.2 with ⟨q, h0⟩ | ⟨g, cap, cur, q, _⟩
            · omega
            · injection q with q1 q2 q3; exact ⟨g, q1⟩
          have e0 := own_cell (own_only HW3.out.1 HO.out (fun _ _ => id)) k _ hvk
          obtain ⟨gi, offi, rfl, e1⟩ := row_int (row_only HI3.out.row HO.out (fun _ _ => id)) hi2
          simp only [Nat.zero_mul, Nat.add_zero] at q0
          have hw1 : IntKind.i64.wrap ((k : Int) + 1) = (k : Int) + 1 := by exact IntWalk.i64_in _ (by omega)
          have HX := Lib.hid (kidsOf_get hp hi2)
          have hnk1 : (0 : Int) < (nk : Int) := by omega
          have oV := (Only.refl (fun _ => False) wr).alloc (.cells #[str x.key, .int .i64 i] 185)
          have HOWN := Lib.hid (own_only HOW.out oV (fun _ _ => id))
          have HC := Lib.hid (cells_new wr [str x.key, .int .i64 i] 185 (0, 0))
          have HOV := Lib.hid (HO.out.trans oV (fun _ _ q => q))
          clear oV hrow hp hi2 hvk hpm
          go_wp2_with (at_builtin; refine wpList_append_moved _ rfl _ _ 163 rfl 185 j0 _ 2 24 Tryz.underlying163 hj hjz0 hjz1 hjz2 rfl (by decide) _ _ _ rfl HOWN.out ⟨wr.heap.size, 0, none⟩ 1 1 [str x.key, .int .i64 i] rfl rfl HC.out (by simp [Value.oneCell', str]) (by unfold maxLen; omega) (by omega) ?_; intro a' c' wx hown2 hgr hmv; have HX2 := Lib.hid (And.intro hown2 (And.intro hgr hmv)); clear hown2 hgr hmv)
          go_roundg (gk - 1)
          case measure => omega
          case rel =>
            obtain ⟨hown2, hgr, hmv⟩ := HX2.out
            refine ⟨k + 1, by omega, by go_num, ?_, HOV.out.grown hgr (fun j hj e => by have := HNW.out j e; omega), fun j hj => ?_⟩
            · rw [take_snoc kidC HX.out]; exact hown2
            · rcases hmv j hj with e | e
              · exact HNW.out j e
              · have := HO.out.size; simp at e; omega
        · obtain rfl : k = ids.length := by omega
          have hk1 : ¬ (ids.length : Int) < (ids.length : Int) := by omega
          go_wp2_with fail
          go_ret2
          have hown := HOW.out
          rw [← hkl, List.take_length] at hown
          refine ⟨u16, rfl, ⟨by first | exact hown | (rw [hks]; exact hown), fun j hj => ⟨?_, fun q => ?_⟩⟩, HP3.out.still HO.out, HS3.out.trans (PStep.still HP3.out.lt HO.out)⟩
          · have := HNW.out j hj; have := HS3.out.only.size; omega
          · have := HNW.out j hj; have := pown_lt HP3.out ((pown_of_heap (HO.out.block b HP3.out.lt id) j).1 q); omega
end
section
open Go.RowKit
def PutDoes (i : Item) (f : Nat) : Prop := ∀ (n : Nat) (S S2 : PSt) (id : Int) (b0 : Bytes) (l : List Item) (ids : List Int) (depth : Int) (ks : List Kid) (w : World) (b : Nat), Tree S.L n id b0 l ids → n < f → 1 ≤ depth → depth + n ≤ 12 → S.stop < 0 → S.L.length + 3 + 2 * n ≤ 3998 → S.given.length + f < 1000000 → PagesAt w b S → putP f S id i depth = (.ok ks, S2) →
    Calls Tryz.prog 174 #[pagesV b, .int .i64 id, itemV i, .int .i64 depth] w fun e w' => ∃ V, e = .returned (.tuple #[V, .int .i64 0]) ∧ KidRow w w' b V ks ∧ PagesAt w' b S2 ∧ PStep b w w'
set_option maxRecDepth 100000 in
set_option maxHeartbeats 4000000 in
theorem tput_leaf (i : Item) (hi : okItem i = true) (f : Nat) (S S2 : PSt) (id : Int) (l : List Item) (depth : Int) (ks : List Kid) (w : World) (b : Nat) (hn : nodeAt S.L id = some (.leaf l)) (ok : okNode (.leaf l)) (hd : depth ≤ 12) (hs : S.stop < 0) (hL : S.L.length + 3 ≤ 3998) (hg : S.given.length + 1 < 1000000) (h : PagesAt w b S) (hk : putP (f + 1) S id i depth = (.ok ks, S2)) :
    Calls Tryz.prog 174 #[pagesV b, .int .i64 id, itemV i, .int .i64 depth] w fun e w' => ∃ V, e = .returned (.tuple #[V, .int .i64 0]) ∧ KidRow w w' b V ks ∧ PagesAt w' b S2 ∧ PStep b w w' := by
  have hid := nodeAt_lt hn
  rw [putP, loadP_is hn (by omega) hs] at hk
  simp only at hk
  have hri := (rightL_iff _).1 ok.1
  have hc := (cost_item hi).2
  have hsz := putL_size l i
  have hpr := putL_right ok.1 hi
  have hcf := cutL_few3 (putL l i) (fun x hx => (cost_item (((rightL_iff _).1 hpr).1 x hx)).1) (by have := ok.2.1; omega)
  have hsl := ok.2.1
  have oW := (Only.refl (fun _ => False) w).alloc (.cells #[str i.key, str i.val, .int .i64 i.kind] 131)
  have hLD := tload_leaf (w.alloc (.cells #[str i.key, str i.val, .int .i64 i.kind] 131)) b S id depth l (h.still oW) hs hn hd (by omega)
  have HLD := Lib.hid hLD
  have hpw := h.lt
  have hWs : (w.alloc (.cells #[str i.key, str i.val, .int .i64 i.kind] 131)).heap.size = w.heap.size + 1 := by simp
  have hRn : ¬ pown (w.alloc (.cells #[str i.key, str i.val, .int .i64 i.kind] 131)) b w.heap.size := fun q => by
    have := pown_lt h ((pown_of_heap (oW.block b h.lt (fun q => q)) _).1 q); omega
  have hR0 := heap_alloc_new w (.cells #[str i.key, str i.val, .int .i64 i.kind] 131)
  have HW0 := Lib.hid (PStep.still h.lt oW)
  have HP := Lib.hid h
  have HK := Lib.hid hk
  have HPR := Lib.hid hpr
  clear hLD h hk hpr
  unfold itemV itemC
  unfold pagesV at HLD ⊢
  go_enter Tryz.func174, Tryz.ntmps174
  go_wp2_with fail
  refine HLD.out.mono ?_
  rintro e w1 ⟨v1, rfl, hrow, hap, hp1, st1⟩
  obtain ⟨a1, n1, c1, rfl⟩ := capOk_form hrow.cap
  have hR1 := (st1.only.block _ (by rw [hWs]; omega) hRn).trans hR0
  have hs1 := st1.only.size
  rw [hWs] at hs1
  have o2 := (Only.refl (fun _ => False) w1).alloc (.cells #[.int .i64 id, .bool true, .slice a1 n1 c1, .slice none 0 0] 207)
  have hR2 := (o2.block _ (by omega) (fun q => q)).trans hR1
  have r0 := heap_cell hR2 0
  have r1 := heap_cell hR2 1
  have r2 := heap_cell hR2 2
  have hrow2 := row_only hrow.row o2 (fun _ _ => fun q => q)
  have HPT := Lib.hid (Put_is _ l i _ hrow2 hri.2 (by have := length_le_size l; omega))
  have HP1 := Lib.hid hp1
  have HS1 := Lib.hid (HW0.out.trans st1)
  have HO2 := Lib.hid o2
  simp only [List.getElem?_toArray, List.getElem?_cons_zero, List.getElem?_cons_succ] at r0 r1 r2
  clear hR1 hR2 hR0 hRn hWs oW hrow hap hp1 st1 o2 hrow2 HLD HW0
  unfold itemV itemC at HPT
  go_wp2_with fail
  refine HPT.out.mono ?_
  rintro e w3 ⟨v3, rfl, hrow3, o3, hnew3⟩
  have HB := HP1.out.still (HO2.out.trans o3 (fun _ _ q => q))
  have hLV := tleaves_is w3 b S S2 id (putL l i) ks v3 HB hrow3 HPR.out (by omega) (by omega) (by omega) hid.2 (by omega) HK.out
  have HLV := Lib.hid hLV
  have HS3 := Lib.hid (HS1.out.trans (PStep.still HP1.out.lt (HO2.out.trans o3 (fun _ _ q => q))))
  clear hLV HB hrow3 o3 hnew3 HPT
  unfold pagesV at HLV
  go_wp2_with fail
  refine HLV.out.mono ?_
  rintro e w4 ⟨V, rfl, hkr, hp4, st4⟩
  have HKR := Lib.hid hkr
  have HP4 := Lib.hid hp4
  have HS4 := Lib.hid (HS3.out.trans st4)
  have hs3 := HS3.out.only.size
  clear hkr hp4 st4
  go_wp2_with fail
  go_ret2
  exact ⟨V, rfl, ⟨HKR.out.own, fun j hj => ⟨by have := (HKR.out.far j hj).1; omega, (HKR.out.far j hj).2⟩⟩, HP4.out, HS4.out⟩
end
end Go.Proofs.YtbhiamcmiopnoaaGreatDoor
