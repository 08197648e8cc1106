/- Package twig: children are cut into parts, none of just one. Conditions: fewer than 2^30 bytes; each child may be. -/
import Derived.Test.YtbhiamcmiopnoaaGreatDoorZTwig5
import Derived.Test.YtbhiamcmiopnoaaGreatDoorZPlain
namespace Go.Proofs.YtbhiamcmiopnoaaGreatDoor
open Go.RowKit
theorem row_partK {w : World} {g off c N : Nat} {l : List Kid} (h : RowAt kidC 2 w (.slice (some ⟨g, off, none⟩) N c) l) (a n c' : Nat) (hn : a + n ≤ l.length) : RowAt kidC 2 w (.slice (some ⟨g, off + a * 2, none⟩) n c') ((l.drop a).take n) := by
  have hl : ((l.drop a).take n).length = n := by rw [List.length_take, List.length_drop]; omega
  have hc : ∀ (i : Nat) (x : Kid) (j : Nat) (u : Value), l[i]? = some x → (kidC x)[j]? = some u → w.cell? ⟨g, off + (i * 2 + j), none⟩ = some u := by
    cases h with
    | some _ _ _ _ hc => exact hc
  have := RowAt.some (enc := kidC) (k := 2) (w := w) g (off + a * 2) c' ((l.drop a).take n) (fun i x j u hx hu => by
    rw [List.getElem?_take] at hx
    split at hx
    · rw [List.getElem?_drop] at hx
      have := hc _ _ _ _ hx hu
      rwa [show off + ((a + i) * 2 + j) = off + a * 2 + (i * 2 + j) by omega] at this
    · cases hx)
  rwa [hl] at this
structure PartsK (w : World) (vs : List Value) (pp : List (List Kid)) : Prop where
  len : vs.length = pp.length
  each : ∀ (k : Nat) (v : Value) (p : List Kid), vs[k]? = some v → pp[k]? = some p → RowC kidC 2 w v p
theorem PartsK.only {w w' : World} {vs : List Value} {pp : List (List Kid)} {S : Nat → Prop} (h : PartsK w vs pp) (ho : Only S w w') (hs : ∀ v ∈ vs, ∀ b, rowBlock v = some b → ¬ S b) : PartsK w' vs pp :=
  ⟨h.len, fun k v p hv hp => (h.each k v p hv hp).only ho (hs v (List.mem_of_getElem? hv))⟩
theorem PartsK.snoc {w : World} {vs : List Value} {pp : List (List Kid)} {v : Value} {p : List Kid} (h : PartsK w vs pp) (hv : RowC kidC 2 w v p) : PartsK w (vs ++ [v]) (pp ++ [p]) := by
  refine ⟨by simp [h.len], fun k u q hu hq => ?_⟩
  rw [List.getElem?_append] at hu hq
  rw [h.len] at hu
  split at hu
  · rename_i hk; rw [if_pos hk] at hq; exact h.each k u q hu hq
  · rename_i hk
    rw [if_neg hk] at hq
    rw [List.getElem?_singleton] at hu hq
    split at hu
    · rename_i h0
      rw [if_pos h0] at hq
      cases hu; cases hq; exact hv
    · cases hu
def endsOf : List (List Kid) → Nat → List Nat
  | [], _ => []
  | p :: pp, s => (s + p.length) :: endsOf pp (s + p.length)
theorem endsOf_app (pp qq : List (List Kid)) (s : Nat) : endsOf (pp ++ qq) s = endsOf pp s ++ endsOf qq (s + pp.flatten.length) := by
  induction pp generalizing s with
  | nil => rfl
  | cons p pp ih =>
    rw [List.cons_append, endsOf, endsOf, ih, List.flatten_cons, List.length_append, List.cons_append, Nat.add_assoc]
theorem endsOf_length (pp : List (List Kid)) (s : Nat) : (endsOf pp s).length = pp.length := by
  induction pp generalizing s with
  | nil => rfl
  | cons p pp ih => rw [endsOf, List.length_cons, ih, List.length_cons]
theorem endsOf_get (pp : List (List Kid)) (s k : Nat) (p : List Kid) (hp : pp[k]? = some p) : (endsOf pp s)[k]? = some (s + (pp.take k).flatten.length + p.length) := by
  induction pp generalizing s k with
  | nil => simp at hp
  | cons q pp ih =>
    cases k with
    | zero =>
      simp only [List.getElem?_cons_zero, Option.some.injEq] at hp
      subst hp
      simp [endsOf]
    | succ k =>
      rw [List.getElem?_cons_succ] at hp
      rw [endsOf, List.getElem?_cons_succ, ih _ k hp, List.take_succ_cons, List.flatten_cons, List.length_append]
      congr 1
      omega
theorem fixParts_snoc (qq : List (List Kid)) (a b : List Kid) : fixParts (qq ++ [a, b]) = qq ++ (if b.length = 1 then [a.dropLast, a.getLast?.toList ++ b] else [a, b]) := by
  induction qq with
  | nil => rfl
  | cons q qq ih =>
    cases qq with
    | nil => rw [List.nil_append] at ih; show fixParts [q, a, b] = _; rw [fixParts, ih]; rfl
    | cons r qq =>
      obtain ⟨c, cs, e⟩ : ∃ c cs, qq ++ [a, b] = c :: cs := by cases qq with | nil => exact ⟨a, [b], rfl⟩ | cons c cs => exact ⟨c, cs ++ [a, b], rfl⟩
      show fixParts (q :: r :: (qq ++ [a, b])) = _
      rw [List.cons_append, e] at ih
      rw [e, fixParts, ih]
      rfl
theorem ends_fix (qq : List (List Kid)) (a b : List Kid) (ha : a ≠ []) :
    endsOf (qq ++ [a, b]) 0 = endsOf qq 0 ++ [qq.flatten.length + a.length, qq.flatten.length + a.length + b.length] ∧
    endsOf (fixParts (qq ++ [a, b])) 0 = endsOf qq 0 ++ [if b.length = 1 then qq.flatten.length + a.length - 1 else qq.flatten.length + a.length, qq.flatten.length + a.length + b.length] := by
  have hl := List.length_pos_iff.2 ha
  refine ⟨by rw [endsOf_app, Nat.zero_add]; rfl, ?_⟩
  rw [fixParts_snoc, endsOf_app, Nat.zero_add]
  split
  · simp only [endsOf, List.length_dropLast, List.getLast?_eq_some_getLast ha, Option.toList, List.length_append, List.length_cons, List.length_nil]
    congr 2
    · omega
    · congr 1; omega
  · rfl
theorem intInfo : (Tryz.prog.info? 3).map (fun i => (i.zero, i.size, i.bytes)) = some (some (.int .i64 0), 1, 8) := by kernel_rfl
theorem rowInfoK : (Tryz.prog.info? 163).map (fun i => (i.zero, i.size, i.bytes)) = some (some (.slice none 0 0), 1, 24) := by kernel_rfl
def intsC (l : List Nat) : List Value := l.map fun (n : Nat) => .int .i64 (n : Int)
theorem part_eq (pp : List (List Kid)) (l : List Kid) (h : pp.flatten = l) (k : Nat) (p : List Kid) (hp : pp[k]? = some p) : (l.drop (pp.take k).flatten.length).take p.length = p ∧ (pp.take k).flatten.length + p.length ≤ l.length ∧ (pp.take (k + 1)).flatten.length = (pp.take k).flatten.length + p.length := by
  have hk := (List.getElem?_eq_some_iff.1 hp).1
  have hx : pp[k] = p := by rw [List.getElem?_eq_getElem hk] at hp; exact Option.some.inj hp
  have e : l = (pp.take k).flatten ++ (p ++ (pp.drop (k + 1)).flatten) := by
    rw [← h]
    conv => lhs; rw [← List.take_append_drop k pp]
    rw [List.flatten_append, List.drop_eq_getElem_cons hk, List.flatten_cons, hx]
  refine ⟨?_, ?_, ?_⟩
  · rw [e, List.drop_left, List.take_left]
  · rw [e]; simp only [List.length_append]; omega
  · rw [take_parts pp k hk, List.length_append, hx]
theorem last_two (pp : List (List Kid)) (h : 2 ≤ pp.length) : ∃ qq a b, pp = qq ++ [a, b] := by
  refine ⟨pp.take (pp.length - 2), pp[pp.length - 2], pp[pp.length - 1], ?_⟩
  conv => lhs; rw [← List.take_append_drop (pp.length - 2) pp]
  rw [List.drop_eq_getElem_cons (by omega), List.drop_eq_getElem_cons (by omega), List.drop_eq_nil_of_le (by omega)]
  congr 3
  congr 1
  omega
theorem ends_cells {W W' : World} {g4 N : Nat} {Q : List Nat} (hQ : Q.length = N) {A A' B : Nat} (h : ∀ (k e : Nat), (Q ++ [A, B])[k]? = some e → W.cell? ⟨g4, k, none⟩ = some (.int .i64 e))
    (hN : W'.cell? ⟨g4, N, none⟩ = some (.int .i64 (A' : Nat))) (ho : ∀ k, k ≠ N → W'.cell? ⟨g4, k, none⟩ = W.cell? ⟨g4, k, none⟩) : ∀ (k e : Nat), (Q ++ [A', B])[k]? = some e → W'.cell? ⟨g4, k, none⟩ = some (.int .i64 e) := by
  intro k e he
  by_cases hk : k = N
  · subst hk
    rw [List.getElem?_append_right (by omega), hQ, Nat.sub_self] at he
    simp only [List.getElem?_cons_zero, Option.some.injEq] at he
    subst he
    exact hN
  · rw [ho k hk]
    refine h k e ?_
    rw [List.getElem?_append] at he ⊢
    rw [hQ] at he ⊢
    split
    · rename_i hlt; rw [if_pos hlt] at he; exact he
    · rename_i hlt
      rw [if_neg hlt] at he
      obtain ⟨j, hj⟩ : ∃ j, k - N = j + 1 := ⟨k - N - 1, by omega⟩
      rw [hj] at he ⊢
      exact he
set_option maxRecDepth 100000 in
set_option maxHeartbeats 4000000 in
theorem TCut_is (v : Value) (l : List Kid) (w : World) (h : RowC kidC 2 w v l) (hr : rightL l = true) (hs : sizeL l ≤ 1000000) (h2 : 2 ≤ l.length) :
    Calls Tryz.prog 217 #[v] w fun e w' => ∃ V vs, e = .returned (.tuple #[V, .int .i64 0]) ∧ w'.ownsRow 0 163 1 V vs.length vs ∧ PartsK w' vs (cutT l) ∧ Only (fun _ => False) w w' ∧ (∀ b, V.ownBlock = some b → w.heap.size ≤ b) ∧ FarRows w w' V vs := by
  obtain ⟨i0, hi, hz0, hz1, hz2⟩ := info_parts intInfo
  obtain ⟨j0, hj, hjz0, hjz1, hjz2⟩ := info_parts rowInfoK
  have hri := (rightL_iff _).1 hr
  have hcost : ∀ x ∈ l, 4 ≤ Keyed.cost x := fun x hx => (cost_kid (hri.1 x hx)).1
  have hmost : ∀ x ∈ l, Keyed.cost x ≤ 36 := fun x hx => (cost_kid (hri.1 x hx)).2
  have HFX := Lib.hid (fix_spec (cutL l) (cutL_big _ hcost hmost) (by rw [cutL_flat]; exact h2) (by rw [cutL_flat]; exact hmost) (cutL_fit _ fun x hx => by have := hmost x hx; omega))
  have HNE := Lib.hid (cutL_ne l)
  have hll := length_le_sizeK l
  have HR := Lib.hid (Tright_is v l w h.row (by omega))
  rw [hr] at HR
  obtain ⟨hrow, hcap⟩ := h
  have hform : ∃ a c, v = .slice a l.length c := by cases hrow with
    | none => exact ⟨_, _, rfl⟩
    | some g off cap => exact ⟨_, _, rfl⟩
  obtain ⟨a, c, rfl⟩ := hform
  have hc1 : l.length ≤ c := hcap.1
  have hc2 : c ≤ 9223372036854775807 := by have := hcap.2; unfold maxLen at this; omega
  have HA := Lib.hid hrow
  have HS := Lib.hid hs
  clear hrow hr hcap hri hcost hmost
  go_enter Tryz.func217, Tryz.ntmps217
  go_wp2_with fail
  (with_reducible refine HR.out.mono ?_)
  rintro e w1 ⟨rfl, o1⟩
  have O1 := Lib.hid o1
  clear o1 HR
  go_wp2_with fail
  go_loopg [4, 5] l.length (fun gh ov fr wr => ∃ (from_ : Nat) (pp : List (List Kid)), gh + from_ = l.length ∧ fr = .int .i64 from_ ∧ wr.ownsRow 0 3 1 ov pp.length (intsC (endsOf pp 0)) ∧ cutL l = pp ++ cutL (l.drop from_) ∧ pp.flatten.length = from_ ∧ Only (fun _ => False) w wr ∧ ∀ b, ov.ownBlock = some b → w.heap.size ≤ b)
  case atStart => exact ⟨0, [], by omega, rfl, ⟨rfl, .inl ⟨rfl, rfl⟩⟩, rfl, rfl, O1.out, fun b hb => by simp [Value.ownBlock] at hb⟩
  case round =>
    obtain ⟨fr, pp, hgh, rfl, own, hcut, hflat, ho, hnew⟩ := hrel
    have hpl : pp.length ≤ 1000000 := by
      have h3 := congrArg List.length hcut
      have h4 : (cutL l).length ≤ l.length := cutL_few l
      rw [List.length_append] at h3
      omega
    have HP := Lib.hid (And.intro own (And.intro hcut (And.intro hflat hnew)))
    have HO := Lib.hid ho
    clear own hcut ho hnew hflat
    by_cases hk : fr < l.length
    · have hk1 : (fr : Int) < (l.length : Int) := by omega
      have hw1 : IntKind.i64.wrap ((fr : Int) + 1) = (fr : Int) + 1 := by exact IntWalk.i64_in _ (by omega)
      have hdl : (l.drop fr).length = l.length - fr := List.length_drop
      obtain ⟨g, off, rfl⟩ : ∃ g off, a = some ⟨g, off, none⟩ := by
        have hx : l[fr]? = some l[fr] := List.getElem?_eq_getElem hk
        obtain ⟨g, off, e, _⟩ := row_kid HA.out hx
        exact ⟨g, off, e⟩
      go_wp2_with fail
      generalize wr = wo at *
      go_loopg [6] (l.length - fr - 1) (fun gh t wi => ∃ t' : Nat, t = .int .i64 t' ∧ fr < t' ∧ gh + t' = l.length ∧ cut1 (l.drop fr) = cutFrom (l.drop fr) ((l.drop fr).length - (t' - fr)) (t' - fr) ∧ Only (fun _ => False) wo wi)
      case atStart => exact ⟨fr + 1, by simp, by omega, by omega, by rw [show fr + 1 - fr = 1 by omega]; rfl, Only.refl _ _⟩
      case round =>
        obtain ⟨t, rfl, ht1, ht2, htc, hoi⟩ := hrel
        have HT := Lib.hid htc
        have HOI := Lib.hid hoi
        clear htc hoi
        have ht0 : (0 : Int) ≤ (fr : Int) := by omega
        have hft : (fr : Int) ≤ (t : Int) := by omega
        have htc : (t : Int) ≤ (c : Int) := by omega
        by_cases hA1 : t < l.length
        · have hA2 : (t : Int) < (l.length : Int) := by omega
          have hw2 : IntKind.i64.wrap ((t : Int) - (fr : Int)) = (t : Int) - (fr : Int) := by exact IntWalk.i64_in _ (by omega)
          by_cases hB1 : t - fr < 255
          · have hB2 : (t : Int) - (fr : Int) < 255 := by omega
            have hw3 : IntKind.i64.wrap ((t : Int) + 1) = (t : Int) + 1 := by exact IntWalk.i64_in _ (by omega)
            have hft1 : (fr : Int) ≤ (t : Int) + 1 := by omega
            have htc1 : (t : Int) + 1 ≤ (c : Int) := by omega
            have HROWZ := Lib.hid (row_partK (row_only HA.out (HO.out.trans HOI.out (fun _ _ => id)) (fun _ _ => id)) fr (t - fr + 1) (c - fr) (by omega))
            have HSZ := Lib.hid (TSize_is _ _ _ HROWZ.out (by have := sizeL_le (l.drop fr) (t - fr + 1); have := sizeL_drop l fr; have := HS.out; omega))
            have hsub : t + 1 - fr = t - fr + 1 := by omega
            by_cases hC1 : sizeL ((l.drop fr).take (t - fr + 1)) ≤ 232
            · have hfit : Fits (l.drop fr) (t - fr) := ⟨by omega, hB1, hC1⟩
              have HFS := Lib.hid (cutFrom_step hfit)
              have hC2 : (sizeL ((l.drop fr).take (t - fr + 1)) : Int) ≤ 232 := by omega
              generalize sizeL ((l.drop fr).take (t - fr + 1)) = z at *
              clear hfit
              go_wp2_with fail
              (with_reducible refine HSZ.out.mono ?_)
              rintro e wz ⟨rfl, oz⟩
              have HOZ := Lib.hid (HOI.out.trans oz (fun _ _ => id))
              clear oz
              go_wp2_with fail
              go_roundg (gk - 1)
              case measure => omega
              case rel => exact ⟨t + 1, by go_num, by omega, by omega, by rw [HT.out, HFS.out, hsub], HOZ.out⟩
            · have hfit : ¬ Fits (l.drop fr) (t - fr) := fun q => hC1 q.2.2
              have hC2 : ¬ (sizeL ((l.drop fr).take (t - fr + 1)) : Int) ≤ 232 := by omega
              generalize sizeL ((l.drop fr).take (t - fr + 1)) = z at *
              go_wp2_with fail
              (with_reducible refine HSZ.out.mono ?_)
              rintro e wz ⟨rfl, oz⟩
              have HOZ := Lib.hid (HOI.out.trans oz (fun _ _ => id))
              clear oz HSZ HROWZ
              have hce : cut1 (l.drop fr) = t - fr := by rw [HT.out]; exact cutFrom_stop _ hfit
              have HCE := Lib.hid hce
              clear hce hfit
              have HPX := Lib.hid (HO.out.trans HOZ.out (fun _ _ => id))
              have HOWX := Lib.hid (own_only HP.out.1 (HOZ.out) (fun _ _ => id))
              have oV := (Only.refl (fun _ => False) wz).alloc (.cells #[.int .i64 (t : Int)] 3)
              have HOV := Lib.hid (HPX.out.trans oV (fun _ _ => id))
              have HOWNV := Lib.hid (own_only HOWX.out oV (fun _ _ => id))
              have HCV := Lib.hid (cells_new wz [.int .i64 (t : Int)] 3 (0, 0))
              have h4one : ∀ u ∈ [Value.int .i64 (t : Int)], u.oneCell' = true := by intro u hu; rw [List.mem_singleton.1 hu]; rfl
              clear oV HOWX
              go_wp2_with (at_builtin; refine wpList_append_moved _ rfl _ _ 57 rfl 3 i0 _ 1 8 Tryz.underlying57 hi hz0 hz1 hz2 rfl (by decide) _ _ _ rfl HOWNV.out ⟨wz.heap.size, 0, none⟩ 1 1 [.int .i64 (t : Int)] rfl rfl HCV.out h4one (by unfold maxLen; omega) (by omega) ?_; intro a' c' wx hown2 hgr hmv; have HX := Lib.hid (And.intro hown2 (And.intro hgr hmv)); clear hown2 hgr hmv)
              go_roundg (l.length - t)
              case measure => omega
              case rel =>
                obtain ⟨hown2, hgr, hmv⟩ := HX.out
                obtain ⟨_, hcut, hflat, hnew⟩ := HP.out
                have hplen : ((l.drop fr).take (t - fr)).length = t - fr := by rw [List.length_take, hdl]; omega
                have hwsz := HPX.out.size
                have hvs4 : (wz.alloc (.cells #[.int .i64 (t : Int)] 3)).heap.size = wz.heap.size + 1 := by simp
                refine ⟨t, pp ++ [(l.drop fr).take (t - fr)], by omega, rfl, ?_, ?_, ?_, HOV.out.grown hgr (fun k hk e => by have := hnew k e; omega), fun b hb => ?_⟩
                · rw [endsOf_app, Nat.zero_add, List.length_append]
                  simp only [endsOf, hflat, hplen, intsC, List.map_append, List.map_cons, List.map_nil]
                  rw [show fr + (t - fr) = t by omega]
                  exact hown2
                · rw [hcut, cutL_step (l.drop fr) (by intro q; have := congrArg List.length q; rw [hdl] at this; simp at this; omega), HCE.out, List.drop_drop, show fr + (t - fr) = t by omega]
                  simp
                · rw [List.flatten_append, List.length_append, hflat]
                  simp only [List.flatten_cons, List.flatten_nil, List.append_nil, hplen]
                  omega
                · rcases hmv b hb with e | e
                  · exact hnew b e
                  · rw [hvs4] at e; omega
          · have hfit : ¬ Fits (l.drop fr) (t - fr) := fun q => hB1 q.2.1
            have hB2 : ¬ (t : Int) - (fr : Int) < 255 := by omega
            have hce : cut1 (l.drop fr) = t - fr := by rw [HT.out]; exact cutFrom_stop _ hfit
            have HCE := Lib.hid hce
            clear hce hfit
            have HPX := Lib.hid (HO.out.trans HOI.out (fun _ _ => id))
            have HOWX := Lib.hid (own_only HP.out.1 (HOI.out) (fun _ _ => id))
            have oV := (Only.refl (fun _ => False) wr).alloc (.cells #[.int .i64 (t : Int)] 3)
            have HOV := Lib.hid (HPX.out.trans oV (fun _ _ => id))
            have HOWNV := Lib.hid (own_only HOWX.out oV (fun _ _ => id))
            have HCV := Lib.hid (cells_new wr [.int .i64 (t : Int)] 3 (0, 0))
            have h4one : ∀ u ∈ [Value.int .i64 (t : Int)], u.oneCell' = true := by intro u hu; rw [List.mem_singleton.1 hu]; rfl
            clear oV HOWX
            go_wp2_with (at_builtin; refine wpList_append_moved _ rfl _ _ 57 rfl 3 i0 _ 1 8 Tryz.underlying57 hi hz0 hz1 hz2 rfl (by decide) _ _ _ rfl HOWNV.out ⟨wr.heap.size, 0, none⟩ 1 1 [.int .i64 (t : Int)] rfl rfl HCV.out h4one (by unfold maxLen; omega) (by omega) ?_; intro a' c' wx hown2 hgr hmv; have HX := Lib.hid (And.intro hown2 (And.intro hgr hmv)); clear hown2 hgr hmv)
            go_roundg (l.length - t)
            case measure => omega
            case rel =>
              obtain ⟨hown2, hgr, hmv⟩ := HX.out
              obtain ⟨_, hcut, hflat, hnew⟩ := HP.out
              have hplen : ((l.drop fr).take (t - fr)).length = t - fr := by rw [List.length_take, hdl]; omega
              have hwsz := HPX.out.size
              have hvs4 : (wr.alloc (.cells #[.int .i64 (t : Int)] 3)).heap.size = wr.heap.size + 1 := by simp
              refine ⟨t, pp ++ [(l.drop fr).take (t - fr)], by omega, rfl, ?_, ?_, ?_, HOV.out.grown hgr (fun k hk e => by have := hnew k e; omega), fun b hb => ?_⟩
              · rw [endsOf_app, Nat.zero_add, List.length_append]
                simp only [endsOf, hflat, hplen, intsC, List.map_append, List.map_cons, List.map_nil]
                rw [show fr + (t - fr) = t by omega]
                exact hown2
              · rw [hcut, cutL_step (l.drop fr) (by intro q; have := congrArg List.length q; rw [hdl] at this; simp at this; omega), HCE.out, List.drop_drop, show fr + (t - fr) = t by omega]
                simp
              · rw [List.flatten_append, List.length_append, hflat]
                simp only [List.flatten_cons, List.flatten_nil, List.append_nil, hplen]
                omega
              · rcases hmv b hb with e | e
                · exact hnew b e
                · rw [hvs4] at e; omega
        · have hfit : ¬ Fits (l.drop fr) (t - fr) := fun q => hA1 (by have := q.1; omega)
          have hA2 : ¬ (t : Int) < (l.length : Int) := by omega
          have hce : cut1 (l.drop fr) = t - fr := by rw [HT.out]; exact cutFrom_stop _ hfit
          have HCE := Lib.hid hce
          clear hce hfit
          have HPX := Lib.hid (HO.out.trans HOI.out (fun _ _ => id))
          have HOWX := Lib.hid (own_only HP.out.1 (HOI.out) (fun _ _ => id))
          have oV := (Only.refl (fun _ => False) wr).alloc (.cells #[.int .i64 (t : Int)] 3)
          have HOV := Lib.hid (HPX.out.trans oV (fun _ _ => id))
          have HOWNV := Lib.hid (own_only HOWX.out oV (fun _ _ => id))
          have HCV := Lib.hid (cells_new wr [.int .i64 (t : Int)] 3 (0, 0))
          have h4one : ∀ u ∈ [Value.int .i64 (t : Int)], u.oneCell' = true := by intro u hu; rw [List.mem_singleton.1 hu]; rfl
          clear oV HOWX
          go_wp2_with (at_builtin; refine wpList_append_moved _ rfl _ _ 57 rfl 3 i0 _ 1 8 Tryz.underlying57 hi hz0 hz1 hz2 rfl (by decide) _ _ _ rfl HOWNV.out ⟨wr.heap.size, 0, none⟩ 1 1 [.int .i64 (t : Int)] rfl rfl HCV.out h4one (by unfold maxLen; omega) (by omega) ?_; intro a' c' wx hown2 hgr hmv; have HX := Lib.hid (And.intro hown2 (And.intro hgr hmv)); clear hown2 hgr hmv)
          go_roundg (l.length - t)
          case measure => omega
          case rel =>
            obtain ⟨hown2, hgr, hmv⟩ := HX.out
            obtain ⟨_, hcut, hflat, hnew⟩ := HP.out
            have hplen : ((l.drop fr).take (t - fr)).length = t - fr := by rw [List.length_take, hdl]; omega
            have hwsz := HPX.out.size
            have hvs4 : (wr.alloc (.cells #[.int .i64 (t : Int)] 3)).heap.size = wr.heap.size + 1 := by simp
            refine ⟨t, pp ++ [(l.drop fr).take (t - fr)], by omega, rfl, ?_, ?_, ?_, HOV.out.grown hgr (fun k hk e => by have := hnew k e; omega), fun b hb => ?_⟩
            · rw [endsOf_app, Nat.zero_add, List.length_append]
              simp only [endsOf, hflat, hplen, intsC, List.map_append, List.map_cons, List.map_nil]
              rw [show fr + (t - fr) = t by omega]
              exact hown2
            · rw [hcut, cutL_step (l.drop fr) (by intro q; have := congrArg List.length q; rw [hdl] at this; simp at this; omega), HCE.out, List.drop_drop, show fr + (t - fr) = t by omega]
              simp
            · rw [List.flatten_append, List.length_append, hflat]
              simp only [List.flatten_cons, List.flatten_nil, List.append_nil, hplen]
              omega
            · rcases hmv b hb with e | e
              · exact hnew b e
              · rw [hvs4] at e; omega
    · obtain rfl : fr = l.length := by omega
      have hk1 : ¬ ((l.length : Int) < (l.length : Int)) := by omega
      obtain ⟨g, off, rfl⟩ : ∃ g off, a = some ⟨g, off, none⟩ := by
        have hx : l[0]? = some l[0] := List.getElem?_eq_getElem (by omega)
        obtain ⟨g, off, e, _⟩ := row_kid HA.out hx
        exact ⟨g, off, e⟩
      obtain ⟨own, hcut, hflat, hnew⟩ := HP.out
      rw [List.drop_length, cutL_nil, List.append_nil] at hcut
      have hFX := HFX.out
      rw [cutL_flat] at hFX
      change (cutT l).flatten = _ ∧ (cutT l).length = _ ∧ _ at hFX
      rw [hcut] at hFX
      have HF5 := Lib.hid hFX.1
      have HCL5 := Lib.hid hFX.2.1
      have HF6 := Lib.hid hFX.2.2.1
      have hpe : cutT l = fixParts pp := by rw [← hcut]; rfl
      have HF7 := Lib.hid hpe
      have hppn : ∀ x ∈ pp, x ≠ [] := fun x hx => HNE.out x (by rw [hcut]; exact hx)
      have hpp1 : 1 ≤ pp.length := by
        cases pp with
        | nil => simp at hflat; omega
        | cons _ _ => simp
      obtain ⟨g4, c4, rfl, hc41⟩ : ∃ g4 c4, u4 = .slice (some ⟨g4, 0, none⟩) pp.length c4 ∧ pp.length ≤ c4 := by
        rcases own.2 with ⟨_, h0⟩ | ⟨g4, c4, _, rfl, _, _, h1, _⟩
        · omega
        · exact ⟨g4, c4, rfl, h1⟩
      have hcell : ∀ (k e : Nat), (endsOf pp 0)[k]? = some e → wr.cell? ⟨g4, k, none⟩ = some (.int .i64 e) := fun k e he => own_cell own k _ (by unfold intsC; rw [List.getElem?_map, he]; rfl)
      have hnw : w.heap.size ≤ g4 := hnew g4 rfl
      have hz := fun j => own_frozen own j
      have HCELL := Lib.hid hcell
      have HNW := Lib.hid hnw
      clear own hcell hnew hnw HNE HFX
      by_cases h2p : 2 ≤ pp.length
      · obtain ⟨qq, x, y, rfl⟩ := last_two pp h2p
        have hx := List.length_pos_iff.2 (hppn x (by simp))
        have hy := List.length_pos_iff.2 (hppn y (by simp))
        obtain ⟨e1, e2⟩ := ends_fix qq x y (List.length_pos_iff.1 hx)
        rw [← hpe] at e2
        rw [e1] at HCELL
        have hql : (endsOf qq 0).length = qq.length := endsOf_length qq 0
        have hcA := HCELL.out qq.length (qq.flatten.length + x.length) (by rw [List.getElem?_append_right (by omega), hql, Nat.sub_self]; rfl)
        have hcB := HCELL.out (qq.length + 1) (qq.flatten.length + x.length + y.length) (by rw [List.getElem?_append_right (by omega), hql, Nat.add_sub_cancel_left]; rfl)
        have hlp : (qq ++ [x, y]).length = qq.length + 2 := by simp
        rw [hlp] at HCL5 hpl hc41 hpp1
        rw [hlp]
        have hAB : qq.flatten.length + x.length + y.length ≤ l.length := by
          rw [← hflat, List.flatten_append]; simp; omega
        have hA0 : 1 ≤ qq.flatten.length + x.length := by omega
        have HE2 := Lib.hid e2
        have HQL := Lib.hid hql
        clear e1 e2 hql hpe hflat hcut hppn h2p hlp hFX
        generalize hN : qq.length = N at *
        generalize qq.flatten.length + x.length = A at *
        have hw4 : IntKind.i64.wrap ((N : Int) + 2 - 1) = (N : Int) + 1 := by rw [show (N : Int) + 2 - 1 = (N : Int) + 1 by omega]; exact IntWalk.i64_in _ (by omega)
        have hw5 : IntKind.i64.wrap ((N : Int) + 2 - 2) = (N : Int) := by rw [show (N : Int) + 2 - 2 = (N : Int) by omega]; exact IntWalk.i64_in _ (by omega)
        have hw6 : IntKind.i64.wrap (N : Int) = (N : Int) := by exact IntWalk.i64_in _ (by omega)
        have hn1 : (0 : Int) ≤ (N : Int) + 1 := by omega
        have hn2 : (N : Int) + 1 < (N : Int) + 2 := by omega
        have hn3 : (N : Int) < (N : Int) + 2 := by omega
        have hn4 : ((N : Int) + 1).toNat = N + 1 := by omega
        have hN2 : (1 : Int) < (N : Int) + 2 := by omega
        by_cases hy1 : y.length = 1
        · rw [if_pos hy1] at HE2
          rw [hy1] at hcB hAB HE2 HCELL
          have HY := Lib.hid hy1
          have hw7 : IntKind.i64.wrap ((A : Int) + 1 - (A : Int)) = 1 := by rw [show (A : Int) + 1 - (A : Int) = 1 by omega]; rfl
          have hw8 : IntKind.i64.wrap 1 = 1 := rfl
          have hw9 : (A : Int) + 1 - (A : Int) = 1 := by omega
          clear hy1 hy hx
          go_wp2_with fail
          have q0 : ∀ p : Grew wr, p.u.cell? ⟨g4, N, none⟩ = some (.int .i64 A) := fun p => p.cell hcA
          have q1 : ∀ p : Grew wr, p.u.cell? ⟨g4, N + 1, none⟩ = some (.int .i64 (A + 1 : Nat)) := fun p => p.cell hcB
          refine wp_region_grew (by kernel_rfl) (by kernel_rfl) (fun _W h0 h1 => ?_)
          repeat (refine h1 _ _ _ (fun K hK => ?_); go_simp; refine hK _ ?_; clear hK K)
          refine h0 _ (fun p => ?_)
          clear h0 h1
          have o3 := Lib.hid p.h
          have a0 := q0 p
          clear q0 q1
          generalize p.u = w3 at *
          have z3 : w3.frozen? ⟨g4, N, none⟩ = false := (o3.out.frozen (p := ⟨g4, N, none⟩) (lt_of_cell hcA) id).trans (hz N)
          have hwA : IntKind.i64.wrap ((A : Int) - 1) = ((A - 1 : Nat) : Int) := by rw [show (A : Int) - 1 = ((A - 1 : Nat) : Int) by omega]; exact IntWalk.i64_in _ (by omega)
          have HO5 := Lib.hid ((HO.out.trans o3.out (fun _ _ => id)).setCell (p := ⟨g4, N, none⟩) (fun hlt => absurd hlt (Nat.not_lt.2 HNW.out)) (.int .i64 ((A - 1 : Nat) : Int)))
          have HO5c := Lib.hid (ends_cells (W' := w3.setCell ⟨g4, N, none⟩ (.int .i64 ((A - 1 : Nat) : Int))) HQL.out HCELL.out (same_cell a0 _) (fun k hk => by
            rw [World.cell?_setCell_other _ ⟨g4, N, none⟩ ⟨g4, k, none⟩ _ (ne_off _ _ _ (Ne.symm hk))]
            exact o3.out.cell (p := ⟨g4, k, none⟩) (lt_of_cell hcA) id))
          rw [← HE2.out] at HO5c
          clear HE2 HQL HCELL hcA hcB o3
          go_wp2_with fail
          go_loopg [8, 9, 74] (cutT l).length (fun gh ov fr ix wr => ∃ (k : Nat) (vs : List Value), gh + k = (cutT l).length ∧ ix = .int .i64 k ∧ fr = .int .i64 ((cutT l).take k).flatten.length ∧ wr.ownsRow 0 163 1 ov vs.length vs ∧ PartsK wr vs ((cutT l).take k) ∧ Only (fun _ => False) (w3.setCell ⟨g4, N, none⟩ (.int .i64 ((A - 1 : Nat) : Int))) wr ∧ (∀ b, ov.ownBlock = some b → (w3.setCell ⟨g4, N, none⟩ (.int .i64 ((A - 1 : Nat) : Int))).heap.size ≤ b) ∧ FarRows w wr ov vs)
          case atStart => exact ⟨0, [], by omega, rfl, rfl, ⟨rfl, .inl ⟨rfl, rfl⟩⟩, ⟨rfl, fun k v p hv _ => by simp at hv⟩, Only.refl _ _, fun b hb => by simp [Value.ownBlock] at hb, fun v hv => by cases hv⟩
          case round =>
            obtain ⟨k, vs, hgh, rfl, rfl, own, hparts, ho, hnew, hfar⟩ := hrel
            have HP := Lib.hid (And.intro own (And.intro hparts (And.intro hnew hfar)))
            have HOI := Lib.hid ho
            clear own hparts ho hnew hfar
            have HM := HCL5.out
            have hk9 : (cutT l).length ≤ 1000000 := by omega
            by_cases hk : k < (cutT l).length
            · have hk1 : (k : Int) < ((N : Int) + 2) := by omega
              obtain ⟨p, hp⟩ : ∃ p, (cutT l)[k]? = some p := ⟨_, List.getElem?_eq_getElem hk⟩
              have hp2 : 2 ≤ p.length := HF6.out p (by rw [← HF7.out]; exact List.mem_of_getElem? hp)
              obtain ⟨pe1, pe2, pe3⟩ := part_eq (cutT l) l HF5.out k p hp
              have hce := (HO5c.out k _ (endsOf_get (cutT l) 0 k p hp))
              have hcr : wr.cell? ⟨g4, k, none⟩ = some (.int .i64 (((cutT l).take k).flatten.length + p.length : Nat)) := by
                rw [Nat.zero_add] at hce
                exact (HOI.out.cell (p := ⟨g4, k, none⟩) (lt_of_cell hce) id).trans hce
              clear hce
              obtain ⟨fr, hfr⟩ : ∃ fr, ((cutT l).take k).flatten.length = fr := ⟨_, rfl⟩
              rw [hfr] at pe1 pe2 pe3 hcr
              have HTK := Lib.hid hfr
              rw [hfr]
              clear hfr
              obtain ⟨t, ht⟩ : ∃ t, fr + p.length = t := ⟨_, rfl⟩
              rw [ht] at pe2 pe3 hcr
              have htf : p.length = t - fr := by omega
              have hft0 : fr < t := by omega
              have hfl : fr < l.length := by omega
              have hfc : fr < c := by omega
              have hfc2 : (fr : Int) < (c : Int) := by omega
              rw [htf] at pe1
              have HPE := Lib.hid (And.intro pe1 (And.intro pe3 htf))
              clear pe1 pe3 htf ht hp2 HM
              have ht0 : (0 : Int) ≤ (fr : Int) := by omega
              have hft : (fr : Int) ≤ (t : Int) := by omega
              have htc : (t : Int) ≤ (c : Int) := by omega
              have hw2 : IntKind.i64.wrap ((k : Int) + 1) = (k : Int) + 1 := by have := HS.out; have := HCL5.out; exact IntWalk.i64_in _ (by omega)
              have HROW := Lib.hid (row_partK (row_only HA.out (HO5.out.trans HOI.out (fun _ _ => id)) (fun _ _ => id)) fr (t - fr) (c - fr) (by omega))
              have HCL := Lib.hid (CloneK_is _ _ _ HROW.out (by rw [List.length_take, List.length_drop]; omega))
              have hplen : ((l.drop fr).take (t - fr)).length = t - fr := by rw [List.length_take, List.length_drop]; omega
              go_wp2_with fail
              (with_reducible refine HCL.out.mono ?_)
              rintro e w4 ⟨v4, rfl, own4, o4, new4⟩
              have HROW4 : Hid (RowC kidC 2 w4 v4 ((l.drop fr).take (t - fr))) := Lib.hid ⟨row_own (enc := kidC) (k := 2) (fun _ => rfl) own4, cap_own own4⟩
              rw [hplen] at own4
              have HRB4 := Lib.hid (rowBlock_own own4)
              obtain ⟨a4, c4, rfl⟩ := ownsRow_form own4
              have HLT4 := Lib.hid (fun q hq => (own4.lt q hq).2)
              have HNEW4 := Lib.hid new4
              have HS4 := Lib.hid o4.size
              have HO4 := Lib.hid o4
              have HWX := Lib.hid (HO5.out.trans HOI.out (fun _ _ => id))
              have oV := (Only.refl (fun _ => False) w4).alloc (.cells #[(.slice a4 (t - fr) c4)] 163)
              have HOV := Lib.hid ((HOI.out.trans o4 (fun _ _ => id)).trans oV (fun _ _ => id))
              have HOVV := Lib.hid (o4.trans oV (fun _ _ => id))
              have HOWNV := Lib.hid (own_only HP.out.1 HOVV.out (fun _ _ => id))
              have HCV := Lib.hid (cells_new w4 [(.slice a4 (t - fr) c4)] 163 (0, 0))
              have h4one : ∀ u ∈ [(Value.slice a4 (t - fr) c4)], u.oneCell' = true := by intro u hu; rw [List.mem_singleton.1 hu]; rfl
              have hvl : vs.length ≤ 1000000 := by
                have h1 := HP.out.2.1.len
                rw [List.length_take] at h1
                have := HS.out
                have := HCL5.out
                omega
              clear own4 o4 new4 oV HCL HROW
              go_wp2_with (at_builtin; refine wpList_append_moved _ rfl _ _ 29 rfl 163 j0 _ 1 24 Tryz.underlying29 hj hjz0 hjz1 hjz2 rfl (by decide) _ _ _ rfl HOWNV.out ⟨w4.heap.size, 0, none⟩ 1 1 [(.slice a4 (t - fr) c4)] rfl rfl HCV.out h4one (by unfold maxLen; omega) (by omega) ?_; intro a' c' wx hown2 hgr hmv; have HX := Lib.hid (And.intro hown2 (And.intro hgr hmv)); clear hown2 hgr hmv)
              go_roundg (gk - 1)
              case measure => omega
              case rel =>
                obtain ⟨hown2, hgr, hmv⟩ := HX.out
                obtain ⟨_, hparts, hnew, hfar⟩ := HP.out
                obtain ⟨pe1, pe3, htf⟩ := HPE.out
                have hwsz := HWX.out.size
                have hs4 := HS4.out
                have hvs4 : (w4.alloc (.cells #[(.slice a4 (t - fr) c4)] 163)).heap.size = w4.heap.size + 1 := by simp
                have hv4far : ∀ b, rowBlock (Value.slice a4 (t - fr) c4) = some b → wr.heap.size ≤ b ∧ b < w4.heap.size := fun b hb => by rw [HRB4.out] at hb; exact ⟨HNEW4.out b hb, HLT4.out b hb⟩
                have hovlt : ∀ b, u8.ownBlock = some b → b < wr.heap.size := fun b hb => (HP.out.1.lt b hb).2
                have hgrow : ∀ S : Nat → Prop, (∀ k, k < w4.heap.size → u8.ownBlock = some k → S k) → Only S w4 wx := fun S hS => (((Only.refl S w4).alloc _).grown hgr hS)
                have hgs := (hgrow (fun k => u8.ownBlock = some k) (fun k _ e => e)).size
                refine ⟨k + 1, vs ++ [(.slice a4 (t - fr) c4)], by omega, rfl, by rw [pe3], by rw [List.length_append]; exact hown2, ?_, ?_, fun b hb => ?_, fun v hv b hb => ?_⟩
                · rw [List.take_add_one, hp, Option.toList]
                  rw [← pe1]
                  refine ((hparts.only HO4.out (fun v hv b hb => id)).snoc HROW4.out).only (hgrow (fun k => u8.ownBlock = some k) (fun k _ e => e)) (fun v hv b hb e => ?_)
                  rcases List.mem_append.1 hv with hv | hv
                  · exact (hfar v hv b hb).2.2 e
                  · rw [List.mem_singleton.1 hv] at hb
                    have := (hv4far b hb).1
                    have := hovlt b e
                    omega
                · exact HOV.out.grown hgr (fun k hk e => by have := hnew k e; omega)
                · rcases hmv b hb with e | e
                  · exact hnew b e
                  · have := HOI.out.size; rw [hvs4] at e; omega
                · have hne2 : b < w4.heap.size → u8.ownBlock ≠ some b → (Value.slice a' (vs.length + 1) c').ownBlock ≠ some b := fun h1 h2 e => by
                    rcases hmv b e with e | e
                    · exact h2 e
                    · rw [hvs4] at e; omega
                  rcases List.mem_append.1 hv with hv | hv
                  · obtain ⟨f1, f2, f3⟩ := hfar v hv b hb
                    exact ⟨f1, by omega, hne2 (by omega) f3⟩
                  · rw [List.mem_singleton.1 hv] at hb
                    obtain ⟨f1, f2⟩ := hv4far b hb
                    exact ⟨by omega, by omega, hne2 f2 (fun e => by have := hovlt b e; omega)⟩
            · obtain rfl : k = (cutT l).length := by omega
              have hk1 : ¬ (((cutT l).length : Nat) : Int) < ((N : Int) + 2) := by omega
              go_wp2_with fail
              go_ret2
              obtain ⟨own, hparts, hnew, hfar⟩ := HP.out
              rw [List.take_length] at hparts
              exact ⟨u8, rfl, vs, own, hparts, HO5.out.trans HOI.out (fun _ _ => id), fun b hb => Nat.le_trans HO5.out.size (hnew b hb), hfar⟩
        · rw [if_neg hy1] at HE2
          have hy2 : ¬ (((A + y.length : Nat) : Int) - (A : Int) = 1) := by omega
          have hw7 : IntKind.i64.wrap (((A + y.length : Nat) : Int) - (A : Int)) = ((A + y.length : Nat) : Int) - (A : Int) := by exact IntWalk.i64_in _ (by omega)
          generalize A + y.length = B at *
          clear hy1 hy hx
          go_wp2_with fail
          have q0 : ∀ p : Grew wr, p.u.cell? ⟨g4, N, none⟩ = some (.int .i64 A) := fun p => p.cell hcA
          have q1 : ∀ p : Grew wr, p.u.cell? ⟨g4, N + 1, none⟩ = some (.int .i64 B) := fun p => p.cell hcB
          refine wp_region_grew (by kernel_rfl) (by kernel_rfl) (fun _W h0 h1 => ?_)
          repeat (refine h1 _ _ _ (fun K hK => ?_); go_simp; refine hK _ ?_; clear hK K)
          refine h0 _ (fun p => ?_)
          clear h0 h1
          have o3 := Lib.hid p.h
          clear q0 q1
          generalize p.u = w3 at *
          have HO5 := Lib.hid (HO.out.trans o3.out (fun _ _ => id))
          have HO5c : Hid (∀ (k e : Nat), (endsOf (cutT l) 0)[k]? = some e → w3.cell? ⟨g4, k, none⟩ = some (.int .i64 e)) := Lib.hid (fun k e he => (o3.out.cell (p := ⟨g4, k, none⟩) (lt_of_cell hcA) id).trans (HCELL.out k e (by rw [← HE2.out]; exact he)))
          clear HE2 HQL HCELL hcA hcB o3
          rw [show ((B : Int) - (A : Int) == 1) = false from beq_eq_false_iff_ne.2 hy2]
          clear hy2 hw7
          go_wp2_with fail
          go_loopg [8, 9, 74] (cutT l).length (fun gh ov fr ix wr => ∃ (k : Nat) (vs : List Value), gh + k = (cutT l).length ∧ ix = .int .i64 k ∧ fr = .int .i64 ((cutT l).take k).flatten.length ∧ wr.ownsRow 0 163 1 ov vs.length vs ∧ PartsK wr vs ((cutT l).take k) ∧ Only (fun _ => False) w3 wr ∧ (∀ b, ov.ownBlock = some b → w3.heap.size ≤ b) ∧ FarRows w wr ov vs)
          case atStart => exact ⟨0, [], by omega, rfl, rfl, ⟨rfl, .inl ⟨rfl, rfl⟩⟩, ⟨rfl, fun k v p hv _ => by simp at hv⟩, Only.refl _ _, fun b hb => by simp [Value.ownBlock] at hb, fun v hv => by cases hv⟩
          case round =>
            obtain ⟨k, vs, hgh, rfl, rfl, own, hparts, ho, hnew, hfar⟩ := hrel
            have HP := Lib.hid (And.intro own (And.intro hparts (And.intro hnew hfar)))
            have HOI := Lib.hid ho
            clear own hparts ho hnew hfar
            have HM := HCL5.out
            have hk9 : (cutT l).length ≤ 1000000 := by omega
            by_cases hk : k < (cutT l).length
            · have hk1 : (k : Int) < ((N : Int) + 2) := by omega
              obtain ⟨p, hp⟩ : ∃ p, (cutT l)[k]? = some p := ⟨_, List.getElem?_eq_getElem hk⟩
              have hp2 : 2 ≤ p.length := HF6.out p (by rw [← HF7.out]; exact List.mem_of_getElem? hp)
              obtain ⟨pe1, pe2, pe3⟩ := part_eq (cutT l) l HF5.out k p hp
              have hce := (HO5c.out k _ (endsOf_get (cutT l) 0 k p hp))
              have hcr : wr.cell? ⟨g4, k, none⟩ = some (.int .i64 (((cutT l).take k).flatten.length + p.length : Nat)) := by
                rw [Nat.zero_add] at hce
                exact (HOI.out.cell (p := ⟨g4, k, none⟩) (lt_of_cell hce) id).trans hce
              clear hce
              obtain ⟨fr, hfr⟩ : ∃ fr, ((cutT l).take k).flatten.length = fr := ⟨_, rfl⟩
              rw [hfr] at pe1 pe2 pe3 hcr
              have HTK := Lib.hid hfr
              rw [hfr]
              clear hfr
              obtain ⟨t, ht⟩ : ∃ t, fr + p.length = t := ⟨_, rfl⟩
              rw [ht] at pe2 pe3 hcr
              have htf : p.length = t - fr := by omega
              have hft0 : fr < t := by omega
              have hfl : fr < l.length := by omega
              have hfc : fr < c := by omega
              have hfc2 : (fr : Int) < (c : Int) := by omega
              rw [htf] at pe1
              have HPE := Lib.hid (And.intro pe1 (And.intro pe3 htf))
              clear pe1 pe3 htf ht hp2 HM
              have ht0 : (0 : Int) ≤ (fr : Int) := by omega
              have hft : (fr : Int) ≤ (t : Int) := by omega
              have htc : (t : Int) ≤ (c : Int) := by omega
              have hw2 : IntKind.i64.wrap ((k : Int) + 1) = (k : Int) + 1 := by have := HS.out; have := HCL5.out; exact IntWalk.i64_in _ (by omega)
              have HROW := Lib.hid (row_partK (row_only HA.out (HO5.out.trans HOI.out (fun _ _ => id)) (fun _ _ => id)) fr (t - fr) (c - fr) (by omega))
              have HCL := Lib.hid (CloneK_is _ _ _ HROW.out (by rw [List.length_take, List.length_drop]; omega))
              have hplen : ((l.drop fr).take (t - fr)).length = t - fr := by rw [List.length_take, List.length_drop]; omega
              go_wp2_with fail
              (with_reducible refine HCL.out.mono ?_)
              rintro e w4 ⟨v4, rfl, own4, o4, new4⟩
              have HROW4 : Hid (RowC kidC 2 w4 v4 ((l.drop fr).take (t - fr))) := Lib.hid ⟨row_own (enc := kidC) (k := 2) (fun _ => rfl) own4, cap_own own4⟩
              rw [hplen] at own4
              have HRB4 := Lib.hid (rowBlock_own own4)
              obtain ⟨a4, c4, rfl⟩ := ownsRow_form own4
              have HLT4 := Lib.hid (fun q hq => (own4.lt q hq).2)
              have HNEW4 := Lib.hid new4
              have HS4 := Lib.hid o4.size
              have HO4 := Lib.hid o4
              have HWX := Lib.hid (HO5.out.trans HOI.out (fun _ _ => id))
              have oV := (Only.refl (fun _ => False) w4).alloc (.cells #[(.slice a4 (t - fr) c4)] 163)
              have HOV := Lib.hid ((HOI.out.trans o4 (fun _ _ => id)).trans oV (fun _ _ => id))
              have HOVV := Lib.hid (o4.trans oV (fun _ _ => id))
              have HOWNV := Lib.hid (own_only HP.out.1 HOVV.out (fun _ _ => id))
              have HCV := Lib.hid (cells_new w4 [(.slice a4 (t - fr) c4)] 163 (0, 0))
              have h4one : ∀ u ∈ [(Value.slice a4 (t - fr) c4)], u.oneCell' = true := by intro u hu; rw [List.mem_singleton.1 hu]; rfl
              have hvl : vs.length ≤ 1000000 := by
                have h1 := HP.out.2.1.len
                rw [List.length_take] at h1
                have := HS.out
                have := HCL5.out
                omega
              clear own4 o4 new4 oV HCL HROW
              go_wp2_with (at_builtin; refine wpList_append_moved _ rfl _ _ 29 rfl 163 j0 _ 1 24 Tryz.underlying29 hj hjz0 hjz1 hjz2 rfl (by decide) _ _ _ rfl HOWNV.out ⟨w4.heap.size, 0, none⟩ 1 1 [(.slice a4 (t - fr) c4)] rfl rfl HCV.out h4one (by unfold maxLen; omega) (by omega) ?_; intro a' c' wx hown2 hgr hmv; have HX := Lib.hid (And.intro hown2 (And.intro hgr hmv)); clear hown2 hgr hmv)
              go_roundg (gk - 1)
              case measure => omega
              case rel =>
                obtain ⟨hown2, hgr, hmv⟩ := HX.out
                obtain ⟨_, hparts, hnew, hfar⟩ := HP.out
                obtain ⟨pe1, pe3, htf⟩ := HPE.out
                have hwsz := HWX.out.size
                have hs4 := HS4.out
                have hvs4 : (w4.alloc (.cells #[(.slice a4 (t - fr) c4)] 163)).heap.size = w4.heap.size + 1 := by simp
                have hv4far : ∀ b, rowBlock (Value.slice a4 (t - fr) c4) = some b → wr.heap.size ≤ b ∧ b < w4.heap.size := fun b hb => by rw [HRB4.out] at hb; exact ⟨HNEW4.out b hb, HLT4.out b hb⟩
                have hovlt : ∀ b, u8.ownBlock = some b → b < wr.heap.size := fun b hb => (HP.out.1.lt b hb).2
                have hgrow : ∀ S : Nat → Prop, (∀ k, k < w4.heap.size → u8.ownBlock = some k → S k) → Only S w4 wx := fun S hS => (((Only.refl S w4).alloc _).grown hgr hS)
                have hgs := (hgrow (fun k => u8.ownBlock = some k) (fun k _ e => e)).size
                refine ⟨k + 1, vs ++ [(.slice a4 (t - fr) c4)], by omega, rfl, by rw [pe3], by rw [List.length_append]; exact hown2, ?_, ?_, fun b hb => ?_, fun v hv b hb => ?_⟩
                · rw [List.take_add_one, hp, Option.toList]
                  rw [← pe1]
                  refine ((hparts.only HO4.out (fun v hv b hb => id)).snoc HROW4.out).only (hgrow (fun k => u8.ownBlock = some k) (fun k _ e => e)) (fun v hv b hb e => ?_)
                  rcases List.mem_append.1 hv with hv | hv
                  · exact (hfar v hv b hb).2.2 e
                  · rw [List.mem_singleton.1 hv] at hb
                    have := (hv4far b hb).1
                    have := hovlt b e
                    omega
                · exact HOV.out.grown hgr (fun k hk e => by have := hnew k e; omega)
                · rcases hmv b hb with e | e
                  · exact hnew b e
                  · have := HOI.out.size; rw [hvs4] at e; omega
                · have hne2 : b < w4.heap.size → u8.ownBlock ≠ some b → (Value.slice a' (vs.length + 1) c').ownBlock ≠ some b := fun h1 h2 e => by
                    rcases hmv b e with e | e
                    · exact h2 e
                    · rw [hvs4] at e; omega
                  rcases List.mem_append.1 hv with hv | hv
                  · obtain ⟨f1, f2, f3⟩ := hfar v hv b hb
                    exact ⟨f1, by omega, hne2 (by omega) f3⟩
                  · rw [List.mem_singleton.1 hv] at hb
                    obtain ⟨f1, f2⟩ := hv4far b hb
                    exact ⟨by omega, by omega, hne2 f2 (fun e => by have := hovlt b e; omega)⟩
            · obtain rfl : k = (cutT l).length := by omega
              have hk1 : ¬ (((cutT l).length : Nat) : Int) < ((N : Int) + 2) := by omega
              go_wp2_with fail
              go_ret2
              obtain ⟨own, hparts, hnew, hfar⟩ := HP.out
              rw [List.take_length] at hparts
              exact ⟨u8, rfl, vs, own, hparts, HO5.out.trans HOI.out (fun _ _ => id), fun b hb => Nat.le_trans HO5.out.size (hnew b hb), hfar⟩
      · have hp1 : pp.length = 1 := by omega
        have hcp : cutT l = pp := by
          rw [hpe]
          match pp, hp1 with
          | [_], _ => rfl
        rw [hp1] at HCL5
        rw [← hcp] at HCELL
        have hp1' := hp1
        rw [hp1]
        clear hcp hpe hflat hcut hppn h2p hFX hpl hpp1
        rw [hp1] at hc41
        clear hp1 hp1'
        go_wp2_with fail
        refine wp_region_grew (by kernel_rfl) (by kernel_rfl) (fun _W h0 h1 => ?_)
        repeat (refine h1 _ _ _ (fun K hK => ?_); go_simp; refine hK _ ?_; clear hK K)
        refine h0 _ (fun p => ?_)
        clear h0 h1
        have o3 := Lib.hid p.h
        generalize p.u = w3 at *
        have HO5 := Lib.hid (HO.out.trans o3.out (fun _ _ => id))
        have HO5c : Hid (∀ (k e : Nat), (endsOf (cutT l) 0)[k]? = some e → w3.cell? ⟨g4, k, none⟩ = some (.int .i64 e)) := Lib.hid (fun k e he => by
          have := HCELL.out k e he
          exact (o3.out.cell (p := ⟨g4, k, none⟩) (lt_of_cell this) id).trans this)
        clear HCELL o3
        go_wp2_with fail
        go_loopg [8, 9, 74] (cutT l).length (fun gh ov fr ix wr => ∃ (k : Nat) (vs : List Value), gh + k = (cutT l).length ∧ ix = .int .i64 k ∧ fr = .int .i64 ((cutT l).take k).flatten.length ∧ wr.ownsRow 0 163 1 ov vs.length vs ∧ PartsK wr vs ((cutT l).take k) ∧ Only (fun _ => False) w3 wr ∧ (∀ b, ov.ownBlock = some b → w3.heap.size ≤ b) ∧ FarRows w wr ov vs)
        case atStart => exact ⟨0, [], by omega, rfl, rfl, ⟨rfl, .inl ⟨rfl, rfl⟩⟩, ⟨rfl, fun k v p hv _ => by simp at hv⟩, Only.refl _ _, fun b hb => by simp [Value.ownBlock] at hb, fun v hv => by cases hv⟩
        case round =>
          obtain ⟨k, vs, hgh, rfl, rfl, own, hparts, ho, hnew, hfar⟩ := hrel
          have HP := Lib.hid (And.intro own (And.intro hparts (And.intro hnew hfar)))
          have HOI := Lib.hid ho
          clear own hparts ho hnew hfar
          have HM := HCL5.out
          have hk9 : (cutT l).length ≤ 1000000 := by omega
          by_cases hk : k < (cutT l).length
          · have hk1 : (k : Int) < (1 : Int) := by omega
            obtain ⟨p, hp⟩ : ∃ p, (cutT l)[k]? = some p := ⟨_, List.getElem?_eq_getElem hk⟩
            have hp2 : 2 ≤ p.length := HF6.out p (by rw [← HF7.out]; exact List.mem_of_getElem? hp)
            obtain ⟨pe1, pe2, pe3⟩ := part_eq (cutT l) l HF5.out k p hp
            have hce := (HO5c.out k _ (endsOf_get (cutT l) 0 k p hp))
            have hcr : wr.cell? ⟨g4, k, none⟩ = some (.int .i64 (((cutT l).take k).flatten.length + p.length : Nat)) := by
              rw [Nat.zero_add] at hce
              exact (HOI.out.cell (p := ⟨g4, k, none⟩) (lt_of_cell hce) id).trans hce
            clear hce
            obtain ⟨fr, hfr⟩ : ∃ fr, ((cutT l).take k).flatten.length = fr := ⟨_, rfl⟩
            rw [hfr] at pe1 pe2 pe3 hcr
            have HTK := Lib.hid hfr
            rw [hfr]
            clear hfr
            obtain ⟨t, ht⟩ : ∃ t, fr + p.length = t := ⟨_, rfl⟩
            rw [ht] at pe2 pe3 hcr
            have htf : p.length = t - fr := by omega
            have hft0 : fr < t := by omega
            have hfl : fr < l.length := by omega
            have hfc : fr < c := by omega
            have hfc2 : (fr : Int) < (c : Int) := by omega
            rw [htf] at pe1
            have HPE := Lib.hid (And.intro pe1 (And.intro pe3 htf))
            clear pe1 pe3 htf ht hp2 HM
            have ht0 : (0 : Int) ≤ (fr : Int) := by omega
            have hft : (fr : Int) ≤ (t : Int) := by omega
            have htc : (t : Int) ≤ (c : Int) := by omega
            have hw2 : IntKind.i64.wrap ((k : Int) + 1) = (k : Int) + 1 := by have := HS.out; have := HCL5.out; exact IntWalk.i64_in _ (by omega)
            have HROW := Lib.hid (row_partK (row_only HA.out (HO5.out.trans HOI.out (fun _ _ => id)) (fun _ _ => id)) fr (t - fr) (c - fr) (by omega))
            have HCL := Lib.hid (CloneK_is _ _ _ HROW.out (by rw [List.length_take, List.length_drop]; omega))
            have hplen : ((l.drop fr).take (t - fr)).length = t - fr := by rw [List.length_take, List.length_drop]; omega
            go_wp2_with fail
            (with_reducible refine HCL.out.mono ?_)
            rintro e w4 ⟨v4, rfl, own4, o4, new4⟩
            have HROW4 : Hid (RowC kidC 2 w4 v4 ((l.drop fr).take (t - fr))) := Lib.hid ⟨row_own (enc := kidC) (k := 2) (fun _ => rfl) own4, cap_own own4⟩
            rw [hplen] at own4
            have HRB4 := Lib.hid (rowBlock_own own4)
            obtain ⟨a4, c4, rfl⟩ := ownsRow_form own4
            have HLT4 := Lib.hid (fun q hq => (own4.lt q hq).2)
            have HNEW4 := Lib.hid new4
            have HS4 := Lib.hid o4.size
            have HO4 := Lib.hid o4
            have HWX := Lib.hid (HO5.out.trans HOI.out (fun _ _ => id))
            have oV := (Only.refl (fun _ => False) w4).alloc (.cells #[(.slice a4 (t - fr) c4)] 163)
            have HOV := Lib.hid ((HOI.out.trans o4 (fun _ _ => id)).trans oV (fun _ _ => id))
            have HOVV := Lib.hid (o4.trans oV (fun _ _ => id))
            have HOWNV := Lib.hid (own_only HP.out.1 HOVV.out (fun _ _ => id))
            have HCV := Lib.hid (cells_new w4 [(.slice a4 (t - fr) c4)] 163 (0, 0))
            have h4one : ∀ u ∈ [(Value.slice a4 (t - fr) c4)], u.oneCell' = true := by intro u hu; rw [List.mem_singleton.1 hu]; rfl
            have hvl : vs.length ≤ 1000000 := by
              have h1 := HP.out.2.1.len
              rw [List.length_take] at h1
              have := HS.out
              have := HCL5.out
              omega
            clear own4 o4 new4 oV HCL HROW
            go_wp2_with (at_builtin; refine wpList_append_moved _ rfl _ _ 29 rfl 163 j0 _ 1 24 Tryz.underlying29 hj hjz0 hjz1 hjz2 rfl (by decide) _ _ _ rfl HOWNV.out ⟨w4.heap.size, 0, none⟩ 1 1 [(.slice a4 (t - fr) c4)] rfl rfl HCV.out h4one (by unfold maxLen; omega) (by omega) ?_; intro a' c' wx hown2 hgr hmv; have HX := Lib.hid (And.intro hown2 (And.intro hgr hmv)); clear hown2 hgr hmv)
            go_roundg (gk - 1)
            case measure => omega
            case rel =>
              obtain ⟨hown2, hgr, hmv⟩ := HX.out
              obtain ⟨_, hparts, hnew, hfar⟩ := HP.out
              obtain ⟨pe1, pe3, htf⟩ := HPE.out
              have hwsz := HWX.out.size
              have hs4 := HS4.out
              have hvs4 : (w4.alloc (.cells #[(.slice a4 (t - fr) c4)] 163)).heap.size = w4.heap.size + 1 := by simp
              have hv4far : ∀ b, rowBlock (Value.slice a4 (t - fr) c4) = some b → wr.heap.size ≤ b ∧ b < w4.heap.size := fun b hb => by rw [HRB4.out] at hb; exact ⟨HNEW4.out b hb, HLT4.out b hb⟩
              have hovlt : ∀ b, u8.ownBlock = some b → b < wr.heap.size := fun b hb => (HP.out.1.lt b hb).2
              have hgrow : ∀ S : Nat → Prop, (∀ k, k < w4.heap.size → u8.ownBlock = some k → S k) → Only S w4 wx := fun S hS => (((Only.refl S w4).alloc _).grown hgr hS)
              have hgs := (hgrow (fun k => u8.ownBlock = some k) (fun k _ e => e)).size
              refine ⟨k + 1, vs ++ [(.slice a4 (t - fr) c4)], by omega, rfl, by rw [pe3], by rw [List.length_append]; exact hown2, ?_, ?_, fun b hb => ?_, fun v hv b hb => ?_⟩
              · rw [List.take_add_one, hp, Option.toList]
                rw [← pe1]
                refine ((hparts.only HO4.out (fun v hv b hb => id)).snoc HROW4.out).only (hgrow (fun k => u8.ownBlock = some k) (fun k _ e => e)) (fun v hv b hb e => ?_)
                rcases List.mem_append.1 hv with hv | hv
                · exact (hfar v hv b hb).2.2 e
                · rw [List.mem_singleton.1 hv] at hb
                  have := (hv4far b hb).1
                  have := hovlt b e
                  omega
              · exact HOV.out.grown hgr (fun k hk e => by have := hnew k e; omega)
              · rcases hmv b hb with e | e
                · exact hnew b e
                · have := HOI.out.size; rw [hvs4] at e; omega
              · have hne2 : b < w4.heap.size → u8.ownBlock ≠ some b → (Value.slice a' (vs.length + 1) c').ownBlock ≠ some b := fun h1 h2 e => by
                  rcases hmv b e with e | e
                  · exact h2 e
                  · rw [hvs4] at e; omega
                rcases List.mem_append.1 hv with hv | hv
                · obtain ⟨f1, f2, f3⟩ := hfar v hv b hb
                  exact ⟨f1, by omega, hne2 (by omega) f3⟩
                · rw [List.mem_singleton.1 hv] at hb
                  obtain ⟨f1, f2⟩ := hv4far b hb
                  exact ⟨by omega, by omega, hne2 f2 (fun e => by have := hovlt b e; omega)⟩
          · obtain rfl : k = (cutT l).length := by omega
            have hk1 : ¬ (((cutT l).length : Nat) : Int) < (1 : Int) := by omega
            go_wp2_with fail
            go_ret2
            obtain ⟨own, hparts, hnew, hfar⟩ := HP.out
            rw [List.take_length] at hparts
            exact ⟨u8, rfl, vs, own, hparts, HO5.out.trans HOI.out (fun _ _ => id), fun b hb => Nat.le_trans HO5.out.size (hnew b hb), hfar⟩
end Go.Proofs.YtbhiamcmiopnoaaGreatDoor
