/- Package leaf: items are cut into parts. Conditions: fewer than 2^30 bytes; each item may be. -/
import Derived.Test.YtbhiamcmiopnoaaGreatDoorZLeaf5
namespace Go.Proofs.YtbhiamcmiopnoaaGreatDoor
open Go.RowKit
theorem row_part {w : World} {g off c N : Nat} {l : List Item} (h : RowAt itemC 3 w (.slice (some ⟨g, off, none⟩) N c) l) (a n c' : Nat) (hn : a + n ≤ l.length) : RowAt itemC 3 w (.slice (some ⟨g, off + a * 3, none⟩) n c') ((l.drop a).take n) := by
  have hl : ((l.drop a).take n).length = n := by rw [List.length_take, List.length_drop]; omega
  have hc : ∀ (i : Nat) (x : Item) (j : Nat) (u : Value), l[i]? = some x → (itemC x)[j]? = some u → w.cell? ⟨g, off + (i * 3 + j), none⟩ = some u := by
    cases h with
    | some _ _ _ _ hc => exact hc
  have := RowAt.some (enc := itemC) (k := 3) (w := w) g (off + a * 3) c' ((l.drop a).take n) (fun i x j u hx hu => by
    rw [List.getElem?_take] at hx
    split at hx
    · rw [List.getElem?_drop] at hx
      have := hc _ _ _ _ hx hu
      rwa [show off + ((a + i) * 3 + j) = off + a * 3 + (i * 3 + j) by omega] at this
    · cases hx)
  rwa [hl] at this
structure Parts (w : World) (vs : List Value) (pp : List (List Item)) : Prop where
  len : vs.length = pp.length
  each : ∀ (k : Nat) (v : Value) (p : List Item), vs[k]? = some v → pp[k]? = some p → RowC itemC 3 w v p
theorem Parts.only {w w' : World} {vs : List Value} {pp : List (List Item)} {S : Nat → Prop} (h : Parts w vs pp) (ho : Only S w w') (hs : ∀ v ∈ vs, ∀ b, rowBlock v = some b → ¬ S b) : Parts w' vs pp :=
  ⟨h.len, fun k v p hv hp => (h.each k v p hv hp).only ho (hs v (List.mem_of_getElem? hv))⟩
theorem Parts.snoc {w : World} {vs : List Value} {pp : List (List Item)} {v : Value} {p : List Item} (h : Parts w vs pp) (hv : RowC itemC 3 w v p) : Parts w (vs ++ [v]) (pp ++ [p]) := by
  refine ⟨by simp [h.len], fun k u q hu hq => ?_⟩
  rw [List.getElem?_append] at hu hq
  rw [h.len] at hu
  split at hu
  · rename_i hk; rw [if_pos hk] at hq; exact h.each k u q hu hq
  · rename_i hk
    rw [if_neg hk] at hq
    rw [List.getElem?_singleton] at hu hq
    split at hu
    · rename_i h0
      rw [if_pos h0] at hq
      cases hu; cases hq; exact hv
    · cases hu
theorem rowInfoI : (Tryz.prog.info? 140).map (fun i => (i.zero, i.size, i.bytes)) = some (some (.slice none 0 0), 1, 24) := by kernel_rfl
theorem cutL_few {α : Type} [Keyed α] (l : List α) : (cutL l).length ≤ l.length := by
  induction l using cutL_ind with
  | h0 => simp [cutL_nil]
  | h1 d h ih =>
    rw [cutL_step d h, List.length_cons]
    have := cut1_le d h
    rw [List.length_drop] at ih
    omega
def FarRows (w0 w : World) (ov : Value) (vs : List Value) : Prop := ∀ v ∈ vs, ∀ b, rowBlock v = some b → w0.heap.size ≤ b ∧ b < w.heap.size ∧ ov.ownBlock ≠ some b
set_option maxRecDepth 100000 in
set_option maxHeartbeats 4000000 in
theorem Cut_is (v : Value) (l : List Item) (w : World) (h : RowC itemC 3 w v l) (hr : rightL l = true) (hs : sizeL l ≤ 1000000) :
    Calls Tryz.prog 193 #[v] w fun e w' => ∃ V vs, e = .returned (.tuple #[V, .int .i64 0]) ∧ w'.ownsRow 0 140 1 V vs.length vs ∧ Parts w' vs (cutL l) ∧ Only (fun _ => False) w w' ∧ (∀ b, V.ownBlock = some b → w.heap.size ≤ b) ∧ FarRows w w' V vs := by
  obtain ⟨i0, hi, hz0, hz1, hz2⟩ := info_parts rowInfoI
  have hll := length_le_size l
  have HR := Lib.hid (right_is v l w h.row (by omega))
  rw [hr] at HR
  obtain ⟨hrow, hcap⟩ := h
  have hform : ∃ a c, v = .slice a l.length c := by cases hrow with
    | none => exact ⟨_, _, rfl⟩
    | some g off cap => exact ⟨_, _, rfl⟩
  obtain ⟨a, c, rfl⟩ := hform
  have hc1 : l.length ≤ c := hcap.1
  have hc2 : c ≤ 9223372036854775807 := by have := hcap.2; unfold maxLen at this; omega
  have HA := Lib.hid hrow
  have HS := Lib.hid hs
  clear hrow hr hcap
  go_enter Tryz.func193, Tryz.ntmps193
  go_wp2_with fail
  (with_reducible refine HR.out.mono ?_)
  rintro e w1 ⟨rfl, o1⟩
  have O1 := Lib.hid o1
  clear o1 HR
  go_wp2_with fail
  go_loopg [4, 5] l.length (fun gh ov fr wr => ∃ (from_ : Nat) (vs : List Value) (pp : List (List Item)), gh + from_ = l.length ∧ fr = .int .i64 from_ ∧ wr.ownsRow 0 140 1 ov vs.length vs ∧ Parts wr vs pp ∧ cutL l = pp ++ cutL (l.drop from_) ∧ Only (fun _ => False) w wr ∧ (∀ b, ov.ownBlock = some b → w.heap.size ≤ b) ∧ FarRows w wr ov vs)
  case atStart => exact ⟨0, [], [], by omega, rfl, ⟨rfl, .inl ⟨rfl, rfl⟩⟩, ⟨rfl, fun k v p hv _ => by simp at hv⟩, rfl, O1.out, fun b hb => by simp [Value.ownBlock] at hb, fun v hv => by cases hv⟩
  case round =>
    obtain ⟨fr, vs, pp, hgh, rfl, own, hparts, hcut, ho, hnew, hfar⟩ := hrel
    have HP := Lib.hid (And.intro own (And.intro hparts (And.intro hcut (And.intro hnew hfar))))
    have HO := Lib.hid ho
    clear own hparts hcut ho hnew hfar
    by_cases hk : fr < l.length
    · have hk1 : (fr : Int) < (l.length : Int) := by omega
      have hw1 : IntKind.i64.wrap ((fr : Int) + 1) = (fr : Int) + 1 := by exact IntWalk.i64_in _ (by omega)
      have hdl : (l.drop fr).length = l.length - fr := List.length_drop
      obtain ⟨g, off, rfl⟩ : ∃ g off, a = some ⟨g, off, none⟩ := by
        have hx : l[fr]? = some l[fr] := List.getElem?_eq_getElem hk
        obtain ⟨g, off, e, _⟩ := row_item HA.out hx
        exact ⟨g, off, e⟩
      go_wp2_with fail
      generalize wr = wo at *
      go_loopg [6] (l.length - fr - 1) (fun gh t wi => ∃ t' : Nat, t = .int .i64 t' ∧ fr < t' ∧ gh + t' = l.length ∧ cut1 (l.drop fr) = cutFrom (l.drop fr) ((l.drop fr).length - (t' - fr)) (t' - fr) ∧ Only (fun _ => False) wo wi)
      case atStart => exact ⟨fr + 1, by simp, by omega, by omega, by rw [show fr + 1 - fr = 1 by omega]; rfl, Only.refl _ _⟩
      case round =>
        obtain ⟨t, rfl, ht1, ht2, htc, hoi⟩ := hrel
        have HT := Lib.hid htc
        have HOI := Lib.hid hoi
        clear htc hoi
        have ht0 : (0 : Int) ≤ (fr : Int) := by omega
        have hft : (fr : Int) ≤ (t : Int) := by omega
        have htc : (t : Int) ≤ (c : Int) := by omega
        by_cases hA1 : t < l.length
        · have hA2 : (t : Int) < (l.length : Int) := by omega
          have hw2 : IntKind.i64.wrap ((t : Int) - (fr : Int)) = (t : Int) - (fr : Int) := by exact IntWalk.i64_in _ (by omega)
          by_cases hB1 : t - fr < 255
          · have hB2 : (t : Int) - (fr : Int) < 255 := by omega
            have hw3 : IntKind.i64.wrap ((t : Int) + 1) = (t : Int) + 1 := by exact IntWalk.i64_in _ (by omega)
            have hft1 : (fr : Int) ≤ (t : Int) + 1 := by omega
            have htc1 : (t : Int) + 1 ≤ (c : Int) := by omega
            have HROWZ := Lib.hid (row_part (row_only HA.out (HO.out.trans HOI.out (fun _ _ => id)) (fun _ _ => id)) fr (t - fr + 1) (c - fr) (by omega))
            have HSZ := Lib.hid (Size_is _ _ _ HROWZ.out (by have := sizeL_le (l.drop fr) (t - fr + 1); have := sizeL_drop l fr; have := HS.out; omega))
            have hsub : t + 1 - fr = t - fr + 1 := by omega
            by_cases hC1 : sizeL ((l.drop fr).take (t - fr + 1)) ≤ 232
            · have hfit : Fits (l.drop fr) (t - fr) := ⟨by omega, hB1, hC1⟩
              have HFS := Lib.hid (cutFrom_step hfit)
              have hC2 : (sizeL ((l.drop fr).take (t - fr + 1)) : Int) ≤ 232 := by omega
              generalize sizeL ((l.drop fr).take (t - fr + 1)) = z at *
              clear hfit
              go_wp2_with fail
              (with_reducible refine HSZ.out.mono ?_)
              rintro e wz ⟨rfl, oz⟩
              have HOZ := Lib.hid (HOI.out.trans oz (fun _ _ => id))
              clear oz
              go_wp2_with fail
              go_roundg (gk - 1)
              case measure => omega
              case rel => exact ⟨t + 1, by go_num, by omega, by omega, by rw [HT.out, HFS.out, hsub], HOZ.out⟩
            · have hfit : ¬ Fits (l.drop fr) (t - fr) := fun q => hC1 q.2.2
              have hC2 : ¬ (sizeL ((l.drop fr).take (t - fr + 1)) : Int) ≤ 232 := by omega
              generalize sizeL ((l.drop fr).take (t - fr + 1)) = z at *
              go_wp2_with fail
              (with_reducible refine HSZ.out.mono ?_)
              rintro e wz ⟨rfl, oz⟩
              have HOZ := Lib.hid (HOI.out.trans oz (fun _ _ => id))
              clear oz HSZ HROWZ
              have hce : cut1 (l.drop fr) = t - fr := by rw [HT.out]; exact cutFrom_stop _ hfit
              have HCE := Lib.hid hce
              clear hce hfit
              have HROW := Lib.hid (row_part (row_only HA.out (HO.out.trans HOZ.out (fun _ _ => id)) (fun _ _ => id)) fr (t - fr) (c - fr) (by omega))
              have HCL := Lib.hid (CloneI_is _ _ _ HROW.out (by rw [List.length_take, hdl]; omega))
              have HWX := Lib.hid (HO.out.trans HOZ.out (fun _ _ => id))
              have HPX := Lib.hid (HOZ.out)
              have hplen : ((l.drop fr).take (t - fr)).length = t - fr := by rw [List.length_take, hdl]; omega
              go_wp2_with fail
              (with_reducible refine HCL.out.mono ?_)
              rintro e w4 ⟨v4, rfl, own4, o4, new4⟩
              have HROW4 : Hid (RowC itemC 3 w4 v4 ((l.drop fr).take (t - fr))) := Lib.hid ⟨row_own (enc := itemC) (k := 3) (fun _ => rfl) own4, cap_own own4⟩
              rw [hplen] at own4
              have HRB4 := Lib.hid (rowBlock_own own4)
              obtain ⟨a4, c4, rfl⟩ := ownsRow_form own4
              have HLT4 := Lib.hid (fun q hq => (own4.lt q hq).2)
              have HNEW4 := Lib.hid new4
              have hwr : wo.heap.size ≤ wz.heap.size := HPX.out.size
              have HS4 := Lib.hid o4.size
              have HPW := Lib.hid (HPX.out.trans o4 (fun _ _ => id))
              have oV := (Only.refl (fun _ => False) w4).alloc (.cells #[(.slice a4 (t - fr) c4)] 140)
              have HOV := Lib.hid ((HWX.out.trans o4 (fun _ _ => id)).trans oV (fun _ _ => id))
              have HPV := Lib.hid (HPW.out.trans oV (fun _ _ => id))
              have HV := Lib.hid oV
              have HOWNV := Lib.hid (own_only HP.out.1 HPV.out (fun _ _ => id))
              have HCV := Lib.hid (cells_new w4 [(.slice a4 (t - fr) c4)] 140 (0, 0))
              have h4one : ∀ u ∈ [(Value.slice a4 (t - fr) c4)], u.oneCell' = true := by intro u hu; rw [List.mem_singleton.1 hu]; rfl
              have hvl : vs.length ≤ 1000000 := by
                have h1 := HP.out.2.1.len
                have h2 := congrArg List.length (cutL_flat l)
                have h3 := HP.out.2.2.1
                have h4 : (cutL l).length ≤ l.length := cutL_few l
                rw [h3, List.length_append] at h4
                have := HS.out
                omega
              clear own4 o4 new4 oV HCL HROW
              go_wp2_with (at_builtin; refine wpList_append_moved _ rfl _ _ 28 rfl 140 i0 _ 1 24 Tryz.underlying28 hi hz0 hz1 hz2 rfl (by decide) _ _ _ rfl HOWNV.out ⟨w4.heap.size, 0, none⟩ 1 1 [(.slice a4 (t - fr) c4)] rfl rfl HCV.out h4one (by unfold maxLen; omega) (by omega) ?_; intro a' c' wx hown2 hgr hmv; have HX := Lib.hid (And.intro hown2 (And.intro hgr hmv)); clear hown2 hgr hmv)
              go_roundg (l.length - t)
              case measure => omega
              case rel =>
                obtain ⟨hown2, hgr, hmv⟩ := HX.out
                obtain ⟨_, hparts, hcut, hnew, hfar⟩ := HP.out
                have hwsz := HO.out.size
                have hs4 := HS4.out
                have hvs4 : (w4.alloc (.cells #[(.slice a4 (t - fr) c4)] 140)).heap.size = w4.heap.size + 1 := by simp
                have hq := HV.out.grown (row := u4.ownBlock) hgr
                have hv4far : ∀ b, rowBlock (Value.slice a4 (t - fr) c4) = some b → wz.heap.size ≤ b ∧ b < w4.heap.size := fun b hb => by rw [HRB4.out] at hb; exact ⟨HNEW4.out b hb, HLT4.out b hb⟩
                have hovlt : ∀ b, u4.ownBlock = some b → b < wo.heap.size := fun b hb => (HP.out.1.lt b hb).2
                have hgrow : ∀ S : Nat → Prop, (∀ k, k < w4.heap.size → u4.ownBlock = some k → S k) → Only S w4 wx := fun S hS => (((Only.refl S w4).alloc _).grown hgr hS)
                have hgs := (hgrow (fun k => u4.ownBlock = some k) (fun k _ e => e)).size
                refine ⟨t, vs ++ [(.slice a4 (t - fr) c4)], pp ++ [(l.drop fr).take (t - fr)], by omega, rfl, by rw [List.length_append]; exact hown2, ?_, ?_, HOV.out.grown hgr (fun k hk e => by have := hnew k e; omega), fun b hb => ?_, fun v hv b hb => ?_⟩
                · refine ((hparts.only HPW.out (fun v hv b hb => id)).snoc HROW4.out).only (hgrow (fun k => u4.ownBlock = some k) (fun k _ e => e)) (fun v hv b hb e => ?_)
                  rcases List.mem_append.1 hv with hv | hv
                  · exact (hfar v hv b hb).2.2 e
                  · rw [List.mem_singleton.1 hv] at hb
                    have := (hv4far b hb).1
                    have := hovlt b e
                    omega
                · rw [hcut, cutL_step (l.drop fr) (by intro q; have := congrArg List.length q; rw [hdl] at this; simp at this; omega), HCE.out, List.drop_drop, show fr + (t - fr) = t by omega]
                  simp
                · rcases hmv b hb with e | e
                  · exact hnew b e
                  · rw [hvs4] at e; omega
                · have hne2 : b < w4.heap.size → u4.ownBlock ≠ some b → (Value.slice a' (vs.length + 1) c').ownBlock ≠ some b := fun h1 h2 e => by
                    rcases hmv b e with e | e
                    · exact h2 e
                    · rw [hvs4] at e; omega
                  rcases List.mem_append.1 hv with hv | hv
                  · obtain ⟨f1, f2, f3⟩ := hfar v hv b hb
                    exact ⟨f1, by omega, hne2 (by omega) f3⟩
                  · rw [List.mem_singleton.1 hv] at hb
                    obtain ⟨f1, f2⟩ := hv4far b hb
                    exact ⟨by omega, by omega, hne2 f2 (fun e => by have := hovlt b e; omega)⟩
          · have hfit : ¬ Fits (l.drop fr) (t - fr) := fun q => hB1 q.2.1
            have hB2 : ¬ (t : Int) - (fr : Int) < 255 := by omega
            have hce : cut1 (l.drop fr) = t - fr := by rw [HT.out]; exact cutFrom_stop _ hfit
            have HCE := Lib.hid hce
            clear hce hfit
            have HROW := Lib.hid (row_part (row_only HA.out (HO.out.trans HOI.out (fun _ _ => id)) (fun _ _ => id)) fr (t - fr) (c - fr) (by omega))
            have HCL := Lib.hid (CloneI_is _ _ _ HROW.out (by rw [List.length_take, hdl]; omega))
            have HWX := Lib.hid (HO.out.trans HOI.out (fun _ _ => id))
            have HPX := Lib.hid (HOI.out)
            have hplen : ((l.drop fr).take (t - fr)).length = t - fr := by rw [List.length_take, hdl]; omega
            go_wp2_with fail
            (with_reducible refine HCL.out.mono ?_)
            rintro e w4 ⟨v4, rfl, own4, o4, new4⟩
            have HROW4 : Hid (RowC itemC 3 w4 v4 ((l.drop fr).take (t - fr))) := Lib.hid ⟨row_own (enc := itemC) (k := 3) (fun _ => rfl) own4, cap_own own4⟩
            rw [hplen] at own4
            have HRB4 := Lib.hid (rowBlock_own own4)
            obtain ⟨a4, c4, rfl⟩ := ownsRow_form own4
            have HLT4 := Lib.hid (fun q hq => (own4.lt q hq).2)
            have HNEW4 := Lib.hid new4
            have hwr : wo.heap.size ≤ wr.heap.size := HPX.out.size
            have HS4 := Lib.hid o4.size
            have HPW := Lib.hid (HPX.out.trans o4 (fun _ _ => id))
            have oV := (Only.refl (fun _ => False) w4).alloc (.cells #[(.slice a4 (t - fr) c4)] 140)
            have HOV := Lib.hid ((HWX.out.trans o4 (fun _ _ => id)).trans oV (fun _ _ => id))
            have HPV := Lib.hid (HPW.out.trans oV (fun _ _ => id))
            have HV := Lib.hid oV
            have HOWNV := Lib.hid (own_only HP.out.1 HPV.out (fun _ _ => id))
            have HCV := Lib.hid (cells_new w4 [(.slice a4 (t - fr) c4)] 140 (0, 0))
            have h4one : ∀ u ∈ [(Value.slice a4 (t - fr) c4)], u.oneCell' = true := by intro u hu; rw [List.mem_singleton.1 hu]; rfl
            have hvl : vs.length ≤ 1000000 := by
              have h1 := HP.out.2.1.len
              have h2 := congrArg List.length (cutL_flat l)
              have h3 := HP.out.2.2.1
              have h4 : (cutL l).length ≤ l.length := cutL_few l
              rw [h3, List.length_append] at h4
              have := HS.out
              omega
            clear own4 o4 new4 oV HCL HROW
            go_wp2_with (at_builtin; refine wpList_append_moved _ rfl _ _ 28 rfl 140 i0 _ 1 24 Tryz.underlying28 hi hz0 hz1 hz2 rfl (by decide) _ _ _ rfl HOWNV.out ⟨w4.heap.size, 0, none⟩ 1 1 [(.slice a4 (t - fr) c4)] rfl rfl HCV.out h4one (by unfold maxLen; omega) (by omega) ?_; intro a' c' wx hown2 hgr hmv; have HX := Lib.hid (And.intro hown2 (And.intro hgr hmv)); clear hown2 hgr hmv)
            go_roundg (l.length - t)
            case measure => omega
            case rel =>
              obtain ⟨hown2, hgr, hmv⟩ := HX.out
              obtain ⟨_, hparts, hcut, hnew, hfar⟩ := HP.out
              have hwsz := HO.out.size
              have hs4 := HS4.out
              have hvs4 : (w4.alloc (.cells #[(.slice a4 (t - fr) c4)] 140)).heap.size = w4.heap.size + 1 := by simp
              have hq := HV.out.grown (row := u4.ownBlock) hgr
              have hv4far : ∀ b, rowBlock (Value.slice a4 (t - fr) c4) = some b → wr.heap.size ≤ b ∧ b < w4.heap.size := fun b hb => by rw [HRB4.out] at hb; exact ⟨HNEW4.out b hb, HLT4.out b hb⟩
              have hovlt : ∀ b, u4.ownBlock = some b → b < wo.heap.size := fun b hb => (HP.out.1.lt b hb).2
              have hgrow : ∀ S : Nat → Prop, (∀ k, k < w4.heap.size → u4.ownBlock = some k → S k) → Only S w4 wx := fun S hS => (((Only.refl S w4).alloc _).grown hgr hS)
              have hgs := (hgrow (fun k => u4.ownBlock = some k) (fun k _ e => e)).size
              refine ⟨t, vs ++ [(.slice a4 (t - fr) c4)], pp ++ [(l.drop fr).take (t - fr)], by omega, rfl, by rw [List.length_append]; exact hown2, ?_, ?_, HOV.out.grown hgr (fun k hk e => by have := hnew k e; omega), fun b hb => ?_, fun v hv b hb => ?_⟩
              · refine ((hparts.only HPW.out (fun v hv b hb => id)).snoc HROW4.out).only (hgrow (fun k => u4.ownBlock = some k) (fun k _ e => e)) (fun v hv b hb e => ?_)
                rcases List.mem_append.1 hv with hv | hv
                · exact (hfar v hv b hb).2.2 e
                · rw [List.mem_singleton.1 hv] at hb
                  have := (hv4far b hb).1
                  have := hovlt b e
                  omega
              · rw [hcut, cutL_step (l.drop fr) (by intro q; have := congrArg List.length q; rw [hdl] at this; simp at this; omega), HCE.out, List.drop_drop, show fr + (t - fr) = t by omega]
                simp
              · rcases hmv b hb with e | e
                · exact hnew b e
                · rw [hvs4] at e; omega
              · have hne2 : b < w4.heap.size → u4.ownBlock ≠ some b → (Value.slice a' (vs.length + 1) c').ownBlock ≠ some b := fun h1 h2 e => by
                  rcases hmv b e with e | e
                  · exact h2 e
                  · rw [hvs4] at e; omega
                rcases List.mem_append.1 hv with hv | hv
                · obtain ⟨f1, f2, f3⟩ := hfar v hv b hb
                  exact ⟨f1, by omega, hne2 (by omega) f3⟩
                · rw [List.mem_singleton.1 hv] at hb
                  obtain ⟨f1, f2⟩ := hv4far b hb
                  exact ⟨by omega, by omega, hne2 f2 (fun e => by have := hovlt b e; omega)⟩
        · have hfit : ¬ Fits (l.drop fr) (t - fr) := fun q => hA1 (by have := q.1; omega)
          have hA2 : ¬ (t : Int) < (l.length : Int) := by omega
          have hce : cut1 (l.drop fr) = t - fr := by rw [HT.out]; exact cutFrom_stop _ hfit
          have HCE := Lib.hid hce
          clear hce hfit
          have HROW := Lib.hid (row_part (row_only HA.out (HO.out.trans HOI.out (fun _ _ => id)) (fun _ _ => id)) fr (t - fr) (c - fr) (by omega))
          have HCL := Lib.hid (CloneI_is _ _ _ HROW.out (by rw [List.length_take, hdl]; omega))
          have HWX := Lib.hid (HO.out.trans HOI.out (fun _ _ => id))
          have HPX := Lib.hid (HOI.out)
          have hplen : ((l.drop fr).take (t - fr)).length = t - fr := by rw [List.length_take, hdl]; omega
          go_wp2_with fail
          (with_reducible refine HCL.out.mono ?_)
          rintro e w4 ⟨v4, rfl, own4, o4, new4⟩
          have HROW4 : Hid (RowC itemC 3 w4 v4 ((l.drop fr).take (t - fr))) := Lib.hid ⟨row_own (enc := itemC) (k := 3) (fun _ => rfl) own4, cap_own own4⟩
          rw [hplen] at own4
          have HRB4 := Lib.hid (rowBlock_own own4)
          obtain ⟨a4, c4, rfl⟩ := ownsRow_form own4
          have HLT4 := Lib.hid (fun q hq => (own4.lt q hq).2)
          have HNEW4 := Lib.hid new4
          have hwr : wo.heap.size ≤ wr.heap.size := HPX.out.size
          have HS4 := Lib.hid o4.size
          have HPW := Lib.hid (HPX.out.trans o4 (fun _ _ => id))
          have oV := (Only.refl (fun _ => False) w4).alloc (.cells #[(.slice a4 (t - fr) c4)] 140)
          have HOV := Lib.hid ((HWX.out.trans o4 (fun _ _ => id)).trans oV (fun _ _ => id))
          have HPV := Lib.hid (HPW.out.trans oV (fun _ _ => id))
          have HV := Lib.hid oV
          have HOWNV := Lib.hid (own_only HP.out.1 HPV.out (fun _ _ => id))
          have HCV := Lib.hid (cells_new w4 [(.slice a4 (t - fr) c4)] 140 (0, 0))
          have h4one : ∀ u ∈ [(Value.slice a4 (t - fr) c4)], u.oneCell' = true := by intro u hu; rw [List.mem_singleton.1 hu]; rfl
          have hvl : vs.length ≤ 1000000 := by
            have h1 := HP.out.2.1.len
            have h2 := congrArg List.length (cutL_flat l)
            have h3 := HP.out.2.2.1
            have h4 : (cutL l).length ≤ l.length := cutL_few l
            rw [h3, List.length_append] at h4
            have := HS.out
            omega
          clear own4 o4 new4 oV HCL HROW
          go_wp2_with (at_builtin; refine wpList_append_moved _ rfl _ _ 28 rfl 140 i0 _ 1 24 Tryz.underlying28 hi hz0 hz1 hz2 rfl (by decide) _ _ _ rfl HOWNV.out ⟨w4.heap.size, 0, none⟩ 1 1 [(.slice a4 (t - fr) c4)] rfl rfl HCV.out h4one (by unfold maxLen; omega) (by omega) ?_; intro a' c' wx hown2 hgr hmv; have HX := Lib.hid (And.intro hown2 (And.intro hgr hmv)); clear hown2 hgr hmv)
          go_roundg (l.length - t)
          case measure => omega
          case rel =>
            obtain ⟨hown2, hgr, hmv⟩ := HX.out
            obtain ⟨_, hparts, hcut, hnew, hfar⟩ := HP.out
            have hwsz := HO.out.size
            have hs4 := HS4.out
            have hvs4 : (w4.alloc (.cells #[(.slice a4 (t - fr) c4)] 140)).heap.size = w4.heap.size + 1 := by simp
            have hq := HV.out.grown (row := u4.ownBlock) hgr
            have hv4far : ∀ b, rowBlock (Value.slice a4 (t - fr) c4) = some b → wr.heap.size ≤ b ∧ b < w4.heap.size := fun b hb => by rw [HRB4.out] at hb; exact ⟨HNEW4.out b hb, HLT4.out b hb⟩
            have hovlt : ∀ b, u4.ownBlock = some b → b < wo.heap.size := fun b hb => (HP.out.1.lt b hb).2
            have hgrow : ∀ S : Nat → Prop, (∀ k, k < w4.heap.size → u4.ownBlock = some k → S k) → Only S w4 wx := fun S hS => (((Only.refl S w4).alloc _).grown hgr hS)
            have hgs := (hgrow (fun k => u4.ownBlock = some k) (fun k _ e => e)).size
            refine ⟨t, vs ++ [(.slice a4 (t - fr) c4)], pp ++ [(l.drop fr).take (t - fr)], by omega, rfl, by rw [List.length_append]; exact hown2, ?_, ?_, HOV.out.grown hgr (fun k hk e => by have := hnew k e; omega), fun b hb => ?_, fun v hv b hb => ?_⟩
            · refine ((hparts.only HPW.out (fun v hv b hb => id)).snoc HROW4.out).only (hgrow (fun k => u4.ownBlock = some k) (fun k _ e => e)) (fun v hv b hb e => ?_)
              rcases List.mem_append.1 hv with hv | hv
              · exact (hfar v hv b hb).2.2 e
              · rw [List.mem_singleton.1 hv] at hb
                have := (hv4far b hb).1
                have := hovlt b e
                omega
            · rw [hcut, cutL_step (l.drop fr) (by intro q; have := congrArg List.length q; rw [hdl] at this; simp at this; omega), HCE.out, List.drop_drop, show fr + (t - fr) = t by omega]
              simp
            · rcases hmv b hb with e | e
              · exact hnew b e
              · rw [hvs4] at e; omega
            · have hne2 : b < w4.heap.size → u4.ownBlock ≠ some b → (Value.slice a' (vs.length + 1) c').ownBlock ≠ some b := fun h1 h2 e => by
                rcases hmv b e with e | e
                · exact h2 e
                · rw [hvs4] at e; omega
              rcases List.mem_append.1 hv with hv | hv
              · obtain ⟨f1, f2, f3⟩ := hfar v hv b hb
                exact ⟨f1, by omega, hne2 (by omega) f3⟩
              · rw [List.mem_singleton.1 hv] at hb
                obtain ⟨f1, f2⟩ := hv4far b hb
                exact ⟨by omega, by omega, hne2 f2 (fun e => by have := hovlt b e; omega)⟩
    · obtain rfl : fr = l.length := by omega
      have hk1 : ¬ ((l.length : Int) < (l.length : Int)) := by omega
      go_wp2_with fail
      go_ret2
      obtain ⟨own, hparts, hcut, hnew, hfar⟩ := HP.out
      rw [List.drop_length, cutL_nil, List.append_nil] at hcut
      exact ⟨u4, rfl, vs, own, by rw [hcut]; exact hparts, HO.out, hnew, hfar⟩
end Go.Proofs.YtbhiamcmiopnoaaGreatDoor
