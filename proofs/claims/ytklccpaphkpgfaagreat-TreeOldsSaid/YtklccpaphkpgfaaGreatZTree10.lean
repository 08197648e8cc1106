/- Package tree over the law's pages: the one child that a twig had left is given to the twig beside it. Conditions: one goroutine; the twig is there; there is room for the pages. -/
import Derived.Test.YtklccpaphkpgfaaGreatZTree9
import Derived.Test.YtklccpaphkpgfaaGreatZPlainC
import Derived.Test.YtklccpaphkpgfaaGreatZRepS
namespace Go.Proofs.YtklccpaphkpgfaaGreat
open Go.RowKit

theorem setHead_cells (k : Bytes) (x : Kid) (l : List Kid) : (setHead k (x :: l)).flatMap kidC = ((x :: l).flatMap kidC).set 0 (str k) := rfl
theorem setHead_length (k : Bytes) (l : List Kid) : (setHead k l).length = l.length := by cases l <;> rfl
theorem setHead_size {k : Bytes} (hk : k.length ≤ 32) (l : List Kid) : sizeL (setHead k l) ≤ sizeL l + 36 := by
  cases l with
  | nil => exact Nat.le_add_right _ _
  | cons x l =>
    show sizeL (⟨k, x.page⟩ :: l) ≤ _
    rw [sizeL_cons, sizeL_cons]
    show 4 + k.length + sizeL l ≤ 4 + x.key.length + sizeL l + 36
    omega

set_option maxRecDepth 100000 in
set_option maxHeartbeats 8000000 in
theorem tjoin_is (w : World) (b : Nat) (S S2 : PSt) (kids l2 : List Kid) (a : Nat) (one : Kid) (depth : Int) (v : Value) (h : PagesAt w b S) (hv : RowC kidC 2 w v kids) (hap : Apart w b v) (hr : rightL kids = true) (hkl : kids.length ≤ 255) (hone : okKid one = true) (ha : a < kids.length) (hd : depth ≤ 12) (hs : S.stop < 0)
    (hL : S.L.length + 2 ≤ 3998) (hg : S.given.length + 1 < 1000000) (hk : joinP S kids a one depth = (.ok l2, S2)) :
    Calls Tryz.prog 127 #[pagesV b, v, .int .i64 a, .agg #[str one.key, .int .i64 one.page], .int .i64 depth] w fun e w' => ∃ V, e = .returned (.tuple #[V, .int .i64 0]) ∧ KidRow w w' b V l2 ∧ PagesAt w' b S2 ∧ PStep b w w' := by
  obtain ⟨h2, kb, kl, ks, wk, hkb, hkl2, hn, htw, rfl⟩ := join_parts hs hd hk
  obtain ⟨aV, nV, cV, rfl⟩ := capOk_form hv.cap
  have hn1 : nV = kids.length := by
    cases hv.row with
    | none => rfl
    | some => rfl
  subst hn1
  have hid := nodeAt_lt hn
  have hri := (rightL_iff _).1 hr
  have hkbok : okKid kb = true := hri.1 kb (List.mem_of_getElem? hkb)
  simp only [okKid, decide_eq_true_eq] at hkbok
  have hsound : soundN (.twig ks) := by
    obtain ⟨vL, vG, hp⟩ := h
    exact hp.sound _ (nodeAt_mem hn)
  obtain ⟨hks, hkne⟩ := hsound
  have hk1 := hks.2.1
  have hk2 := hks.2.2
  have hkpos := List.length_pos_iff.2 hkne
  obtain ⟨i0, hi0, hz0, hz1, hz2⟩ := info_parts kidInfo
  have hrj := twigsP_right htw
  have hone2 := hone
  simp only [okKid, decide_eq_true_eq] at hone2
  have o0 := (Only.refl (fun _ => False) w).alloc (.cells #[str one.key, .int .i64 one.page] 159)
  have hb0 := heap_alloc_new w (.cells #[str one.key, .int .i64 one.page] 159)
  have hWs : (w.alloc (.cells #[str one.key, .int .i64 one.page] 159)).heap.size = w.heap.size + 1 := by simp
  have hbn : ¬ pown (w.alloc (.cells #[str one.key, .int .i64 one.page] 159)) b w.heap.size := fun q => by
    have := pown_lt h ((pown_of_heap (o0.block b h.lt (fun q => q)) _).1 q); omega
  have hpw := h.lt
  have HLD := Lib.hid (tload_twig (w.alloc (.cells #[str one.key, .int .i64 one.page] 159)) b S kb.page depth ks (h.still o0) hs hn hd (by omega))
  have hap0 : Apart (w.alloc (.cells #[str one.key, .int .i64 one.page] 159)) b (.slice aV kids.length cV) := hap.later o0.size (o0.block b h.lt (fun q => q))
  have hrow0 := hv.only o0 (fun _ _ => id)
  have HW0 := Lib.hid (PStep.still h.lt o0)
  have HTW := Lib.hid htw
  have HB := Lib.hid (And.intro hb0 hbn)
  have HV := Lib.hid (And.intro hrow0 hap0)
  have HR := Lib.hid (And.intro hrj hks)
  clear h hk htw hb0 hbn hv hap hrow0 hap0 o0 hone hrj hks
  unfold pagesV at HLD ⊢
  by_cases ha0 : a = 0
  · subst ha0
    have hml : 0 + 1 < kids.length := by omega
    have hml1 : (1 : Int) < (kids.length : Int) := by omega
    have hmx : max (-1 : Int) 0 = 0 := by decide
    have hml0 : (0 : Int) < (kids.length : Int) := by omega
    rw [if_pos rfl] at hkb HTW HR
    simp only [Nat.zero_sub, Nat.zero_add] at hkl2 ⊢
    have hrow0 := HV.out.1.row
    obtain ⟨gK, offK, rfl, k0, k1⟩ := row_kid hrow0 hkb
    simp only [Nat.one_mul] at k0 k1
    have k1' : (w.alloc (.cells #[str one.key, .int .i64 one.page] 159)).cell? ⟨gK, offK + 3, none⟩ = some (.int .i64 kb.page) := k1
    have HK := Lib.hid (And.intro hkb hkl2)
    clear hrow0 hkb hkl2
    go_enter Tryz.func127, Tryz.ntmps127
    go_wp2_with fail
    refine HLD.out.mono ?_
    rintro e w1 ⟨v1, rfl, hrow1, hap1, hp1, st1⟩
    obtain ⟨a1, n1, c1, rfl⟩ := capOk_form hrow1.cap
    obtain rfl : n1 = ks.length := by
      cases hrow1.row with
      | none => rfl
      | some => rfl
    have hs1 := st1.only.size
    rw [hWs] at hs1
    have hB1 := (st1.only.block _ (by rw [hWs]; omega) HB.out.2).trans HB.out.1
    have o2 := (Only.refl (fun _ => False) w1).alloc (.cells #[.int .i64 kb.page, .bool false, .slice none 0 0, .slice a1 ks.length c1] 170)
    have hrow2 := row_only hrow1.row o2 (fun _ _ => id)
    have HCL := Lib.hid (CloneK_is _ ks _ hrow2 (by omega))
    have HP1 := Lib.hid hp1
    have HS1 := Lib.hid (HW0.out.trans st1)
    have HO2 := Lib.hid o2
    have HV1 := Lib.hid (And.intro (HV.out.1.step HV.out.2 st1) (HV.out.2.step st1))
    have HB1 := Lib.hid hB1
    clear hB1 o2 hrow2 hp1 st1 hrow1 hap1 HLD HV HW0 HB k0 k1
    go_wp2_with fail
    (with_reducible refine HCL.out.mono ?_)
    rintro e w3 ⟨v3, rfl, own3, o3, new3⟩
    obtain ⟨a3, c3, rfl⟩ := ownsRow_form own3
    have hw1s : (w1.alloc (.cells #[.int .i64 kb.page, .bool false, .slice none 0 0, .slice a1 ks.length c1] 170)).heap.size = w1.heap.size + 1 := by simp
    rw [hw1s] at new3
    have HO3 := Lib.hid (HO2.out.trans o3 (fun _ _ q => q))
    have hB3 := (HO3.out.block w.heap.size (by omega) (fun q => q)).trans HB1.out
    obtain ⟨g3, rfl⟩ : ∃ g3, a3 = some ⟨g3, 0, none⟩ := by
      rcases own3.2 with ⟨q, h0⟩ | ⟨g3, cap, cur, q, _⟩
      · omega
      · injection q with q1 q2 q3; exact ⟨g3, q1⟩
    obtain ⟨x3, r3, rfl⟩ := List.exists_cons_of_ne_nil hkne
    have kx3 := HV1.out.1.only HO3.out (fun _ _ => id)
    obtain ⟨_, _, he, kk0, _⟩ := row_kid kx3.row HK.out.1
    cases he
    simp only [Nat.one_mul] at kk0
    have e0 := own_cell own3 0 (str x3.key) rfl
    have ez := own_frozen own3 0
    have hset3 := own_set own3 0 (str kb.key)
    rw [← setHead_cells] at hset3
    have hg3 := new3 g3 rfl
    have oS3 : Only (fun j => j = g3) w3 (w3.setCell ⟨g3, 0, none⟩ (str kb.key)) := (Only.refl (fun j => j = g3) w3).put g3 0 rfl _
    have hg3w := (own3.lt g3 rfl).2
    have hs3 := HO3.out.size
    have hB4 := (oS3.block w.heap.size (by omega) (fun e => by have e2 : w.heap.size = g3 := e; omega)).trans hB3
    have d0 := heap_cell hB4 0
    have d1 := heap_cell hB4 1
    simp only [List.getElem?_toArray, List.getElem?_cons_zero, List.getElem?_cons_succ] at d0 d1
    have hw3s : (w3.setCell ⟨g3, 0, none⟩ (str kb.key)).heap.size = w3.heap.size := by simp [World.setCell]
    have oA := (Only.refl (fun _ => False) (w3.setCell ⟨g3, 0, none⟩ (str kb.key))).alloc (.cells (kidC one).toArray 159)
    have hown4 := own_only hset3 oA (fun _ _ => id)
    have hins := InsertK_is (.slice (some ⟨g3, 0, none⟩) (x3 :: r3).length c3) (setHead kb.key (x3 :: r3)) one 0 w3.heap.size ((w3.setCell ⟨g3, 0, none⟩ (str kb.key)).alloc (.cells (kidC one).toArray 159)) (Nat.zero_le _) (by rw [setHead_length]; exact hown4) (fun q => by have := Option.some.inj (show some g3 = some w3.heap.size from q); omega) (by have := heap_alloc_new (w3.setCell ⟨g3, 0, none⟩ (str kb.key)) (.cells (kidC one).toArray 159); rw [hw3s] at this; exact this) (by rw [setHead_length]; omega)
    change Calls _ _ #[_, .int .i64 0, _] ((w3.setCell ⟨g3, 0, none⟩ (str kb.key)).alloc (.cells #[str one.key, .int .i64 one.page] 159)) _ at hins
    have hlc : (setHead kb.key (x3 :: r3)).length = r3.length + 1 := rfl
    simp only [List.length_cons] at hins
    have HIN := Lib.hid hins
    have HOS := Lib.hid (And.intro oS3 (And.intro new3 hg3w))
    clear hown4 hset3 oS3 oA hins kx3 own3 o3 new3 hB3 hB4 HCL
    go_wp2_with fail
    (with_reducible refine HIN.out.mono ?_)
    rintro e wx ⟨v4, rfl, hown2, ox, hmv⟩
    obtain ⟨aI, cI, rfl⟩ := ownsRow_form hown2
    obtain ⟨oS3, new3, hg3w⟩ := HOS.out
    have hlj : (one :: setHead kb.key (x3 :: r3)).length = r3.length + 1 + 1 := rfl
    simp only [List.take_zero, List.drop_zero, List.nil_append, hlc] at hown2
    have hO3 := HO3.out
    have oX : Only (fun j => j = g3) w1 wx := (((hO3.mono fun _ _ q => q.elim).trans oS3 (fun _ _ q => q)).alloc _).trans ox (fun j _ e => (Option.some.inj e).symm)
    have hbx : ¬ b = g3 := fun q => by have := new3 g3 rfl; have := HP1.out.lt; omega
    have kx := HV1.out.1.only oX (fun j hj q => by have := (HV1.out.2 j hj).2; have := new3 g3 rfl; have e : j = g3 := q; omega)
    have hapx := HV1.out.2.later oX.size (oX.block b HP1.out.lt hbx)
    obtain ⟨_, _, he, k0, k1⟩ := row_kid kx.row HK.out.1
    cases he
    simp only [Nat.one_mul] at k0 k1
    have k1' : wx.cell? ⟨gK, offK + 3, none⟩ = some (.int .i64 kb.page) := k1
    have hPx : PagesAt wx b S := by
      obtain ⟨vL, vG, hI⟩ := HP1.out
      refine ⟨vL, vG, hI.beside oX (fun j q e => ?_)⟩
      have := pown_lt HP1.out q
      have := new3 g3 rfl
      have e2 : j = g3 := e
      omega
    have hSx := HS1.out.fresh hpw oX (fun j e => by have := new3 g3 rfl; have := HS1.out.only.size; have e2 : j = g3 := e; omega)
    have hsz : sizeL (one :: setHead kb.key (x3 :: r3)) ≤ 392 := by
      have e1 := setHead_size (k := kb.key) (by omega) (x3 :: r3)
      rw [sizeL_cons]
      show 4 + one.key.length + _ ≤ 392
      omega
    have hcf := cutT_few HR.out.1 hsz
    have hwl := twigsP_ne HTW.out (by simp) (by omega) (by omega)
    have HTC := Lib.hid (ttwigs_is wx b S S2 kb.page (one :: setHead kb.key (x3 :: r3)) wk (.slice aI (r3.length + 1 + 1) cI) hPx ⟨row_own (enc := kidC) (k := 2) (fun _ => rfl) hown2, cap_own hown2⟩ HR.out.1 (by omega) (by rw [hlj]; omega) (by omega) (by omega) (by omega) (by omega) HTW.out)
    have HY := Lib.hid (And.intro hPx (And.intro hSx (And.intro hapx kx)))
    clear oX hbx kx hapx hown2 hmv hPx hSx hlj hsz HTW ox oS3 new3 hg3w hO3 hlc HIN
    unfold pagesV at HTC
    go_wp2_with fail
    refine HTC.out.mono ?_
    rintro e w7 ⟨V, rfl, hkr, hp7, st7⟩
    obtain ⟨hPx, hSx, hapx, kx⟩ := HY.out
    have kx7 := kx.step hapx st7
    have hap7 := hapx.step st7
    obtain ⟨k0w, wr, rfl⟩ := List.exists_cons_of_ne_nil hwl.1
    obtain ⟨gv, cv, rfl⟩ : ∃ gv cv, V = .slice (some ⟨gv, 0, none⟩) (k0w :: wr).length cv := by
      rcases hkr.own.2 with ⟨q, h0⟩ | ⟨gv, cv, cur, q, _⟩
      · simp at h0
      · exact ⟨gv, cv, q⟩
    obtain ⟨_, _, he, kl0, _⟩ := row_kid kx7.row HK.out.2
    cases he
    simp only [Nat.zero_mul, Nat.add_zero] at kl0
    have v0 := own_cell hkr.own 0 (str k0w.key) rfl
    have vz := own_frozen hkr.own 0
    have hset := own_set hkr.own 0 (str kl.key)
    rw [← setHead_cells] at hset
    obtain ⟨hgv1, hgv2⟩ := hkr.far gv rfl
    have hgK7 := (hap7 gK rfl).2
    have hgKx := (hapx gK rfl).2
    have oS : Only (fun j => j = gv) w7 (w7.setCell ⟨gv, 0, none⟩ (str kl.key)) := (Only.refl (fun j => j = gv) w7).put gv 0 rfl _
    have hbv : ¬ b = gv := fun e => hgv2 (.inl e.symm)
    have kx8 := kx7.only oS (fun j hj e => by have e2 : gK = j := Option.some.inj hj; have e3 : j = gv := e; omega)
    have hP8 : PagesAt (w7.setCell ⟨gv, 0, none⟩ (str kl.key)) b S2 := by
      obtain ⟨vL, vG, hI⟩ := hp7
      exact ⟨vL, vG, hI.beside oS (fun j q e => hgv2 (by have e3 : j = gv := e; exact e3 ▸ q))⟩
    have hsx := hSx.only.size
    have hS8 := (hSx.trans st7).fresh hpw oS (fun j e => by have e3 : j = gv := e; omega)
    have HC2 := Lib.hid (CloneK_is _ kids _ kx8.row (by omega))
    have hs7 := st7.only.size
    have hw8s : (w7.setCell ⟨gv, 0, none⟩ (str kl.key)).heap.size = w7.heap.size := by simp [World.setCell]
    have hgv7 := (hkr.own.lt gv rfl).2
    have HZ := Lib.hid (And.intro hset (And.intro hP8 hS8))
    have hwlen := hwl.2
    have HWL := Lib.hid (And.intro hwlen hcf)
    clear hPx hSx hapx kx kx7 hap7 hkr hset oS kx8 hP8 hS8 hp7 st7 hwl hwlen hcf k0 k1 k1' HTC
    go_wp2_with fail
    (with_reducible refine HC2.out.mono ?_)
    rintro e w9 ⟨v9, rfl, own9, o9, new9⟩
    rw [hw8s] at new9
    obtain ⟨hset, hP8, hS8⟩ := HZ.out
    have hrl := Replace_less v9 (.slice (some ⟨gv, 0, none⟩) (k0w :: wr).length cv) kids (setHead kl.key (k0w :: wr)) 0 2 w9 (by omega) (by omega) (by omega) (by have e1 := HWL.out; rw [setHead_length]; omega) (fun j hj e => by have e2 : gv = j := Option.some.inj e; have := new9 j hj; omega) own9 (by rw [setHead_length]; exact own_only hset o9 (fun _ _ => id)) (by omega)
    rw [List.length_cons] at hrl
    change Calls _ _ #[_, .int .i64 0, .int .i64 2, _] _ _ at hrl
    simp only [List.take_zero, List.nil_append] at hrl
    have HRL := Lib.hid hrl
    have HO9 := Lib.hid (And.intro o9 (And.intro new9 own9))
    clear hset hP8 hS8 hrl o9 new9 own9 HC2
    go_wp2_with fail
    (with_reducible refine HRL.out.mono ?_)
    rintro e wa ⟨va, rfl, owna, oa, ba⟩
    have HA := Lib.hid (And.intro owna (And.intro oa ba))
    clear owna oa ba HRL
    go_wp2_with fail
    go_ret2
    simp only [List.take_zero, List.nil_append]
    obtain ⟨owna, oa, ba⟩ := HA.out
    obtain ⟨o9, new9, own9⟩ := HO9.out
    obtain ⟨_, hP8, hS8⟩ := HZ.out
    have hb8 : b < (w7.setCell ⟨gv, 0, none⟩ (str kl.key)).heap.size := hP8.lt
    have hP9 := hP8.still o9
    have hp9 : ∀ j, pown w9 b j → j < w7.heap.size := fun j q => by
      have := pown_lt hP8 ((pown_of_heap (o9.block b hb8 id) j).1 q)
      omega
    have hbn : ¬ v9.ownBlock = some b := fun q => by have := new9 b q; omega
    have hPa : PagesAt wa b S2 := by
      obtain ⟨vL, vG, hI⟩ := hP9
      exact ⟨vL, vG, hI.beside oa (fun j q e => by have := new9 j e; have := hp9 j q; omega)⟩
    refine ⟨va, rfl, ⟨owna, fun j hj => ?_⟩, hPa, (hS8.trans (PStep.still hb8 o9)).fresh hpw oa (fun j e => by have := new9 j e; omega)⟩
    rw [ba] at hj
    have h9 := new9 j hj
    refine ⟨by omega, fun q => ?_⟩
    have := hp9 j ((pown_of_heap (oa.block b hP9.lt hbn) j).1 q)
    omega
  · obtain ⟨m, hm⟩ : ∃ m, a = m + 1 := ⟨a - 1, by omega⟩
    have hwA : IntKind.i64.wrap ((a : Int) - 1) = (m : Int) := by rw [IntWalk.i64_in _ (by omega)]; omega
    have hne : ¬ (a : Int) = 0 := by omega
    have hmx : max (m : Int) 0 = (m : Int) := by omega
    have hml : m + 1 < kids.length := by omega
    have hml1 : (m : Int) < (kids.length : Int) := by omega
    have hm0 : (0 : Int) ≤ (m : Int) := by omega
    rw [if_neg ha0, show a - 1 = m by omega] at hkb
    rw [show a - 1 = m by omega] at hkl2 ⊢
    rw [if_neg ha0] at HTW HR
    have hrow0 := HV.out.1.row
    obtain ⟨gK, offK, rfl, k0, k1⟩ := row_kid hrow0 hkb
    have HK := Lib.hid (And.intro hkb hkl2)
    clear hrow0 hkb hkl2 hm ha0
    go_enter Tryz.func127, Tryz.ntmps127
    go_wp2_with fail
    refine HLD.out.mono ?_
    rintro e w1 ⟨v1, rfl, hrow1, hap1, hp1, st1⟩
    obtain ⟨a1, n1, c1, rfl⟩ := capOk_form hrow1.cap
    obtain rfl : n1 = ks.length := by
      cases hrow1.row with
      | none => rfl
      | some => rfl
    have hs1 := st1.only.size
    rw [hWs] at hs1
    have hB1 := (st1.only.block _ (by rw [hWs]; omega) HB.out.2).trans HB.out.1
    have o2 := (Only.refl (fun _ => False) w1).alloc (.cells #[.int .i64 kb.page, .bool false, .slice none 0 0, .slice a1 ks.length c1] 170)
    have hrow2 := row_only hrow1.row o2 (fun _ _ => id)
    have HCL := Lib.hid (CloneK_is _ ks _ hrow2 (by omega))
    have HP1 := Lib.hid hp1
    have HS1 := Lib.hid (HW0.out.trans st1)
    have HO2 := Lib.hid o2
    have HV1 := Lib.hid (And.intro (HV.out.1.step HV.out.2 st1) (HV.out.2.step st1))
    have HB1 := Lib.hid hB1
    clear hB1 o2 hrow2 hp1 st1 hrow1 hap1 HLD HV HW0 HB k0 k1
    go_wp2_with fail
    (with_reducible refine HCL.out.mono ?_)
    rintro e w3 ⟨v3, rfl, own3, o3, new3⟩
    obtain ⟨a3, c3, rfl⟩ := ownsRow_form own3
    have hw1s : (w1.alloc (.cells #[.int .i64 kb.page, .bool false, .slice none 0 0, .slice a1 ks.length c1] 170)).heap.size = w1.heap.size + 1 := by simp
    rw [hw1s] at new3
    have HO3 := Lib.hid (HO2.out.trans o3 (fun _ _ q => q))
    have hB3 := (HO3.out.block w.heap.size (by omega) (fun q => q)).trans HB1.out
    have d0 := heap_cell hB3 0
    have d1 := heap_cell hB3 1
    simp only [List.getElem?_toArray, List.getElem?_cons_zero, List.getElem?_cons_succ] at d0 d1
    have HOWN := Lib.hid own3
    have HNEW := Lib.hid new3
    have hs3 := HO3.out.size
    have hh : ks.length + 1 ≤ maxLen := by unfold maxLen; omega
    clear own3 o3 new3 hB3 HCL
    go_wp2_with (at_builtin; refine wpList_append_moved _ rfl _ _ 121 rfl 159 i0 _ 2 24 Tryz.underlying121 hi0 hz0 hz1 hz2 rfl (by decide) (.slice a3 ks.length c3) ks.length (ks.flatMap kidC) rfl (own_only HOWN.out ((Only.refl (fun _ => False) w3).alloc _) (fun _ _ => id)) ⟨w3.heap.size, 0, none⟩ 1 1 [str one.key, .int .i64 one.page] rfl rfl (cells_new w3 [str one.key, .int .i64 one.page] 159 (0, 0)) (by simp [Value.oneCell', str]) hh (by omega) ?_; intro a' c' wx hown2 hgr hmv; have oX : Only (fun j => (Value.slice a3 ks.length c3).ownBlock = some j) w1 wx := ((HO3.out.mono fun _ _ q => q.elim).alloc _).grown hgr (fun k _ e => e); have hbx : ¬ (Value.slice a3 ks.length c3).ownBlock = some b := (fun q => by have := HNEW.out b q; have := HP1.out.lt; omega); have kx := HV1.out.1.only oX (fun j hj q => by have := (HV1.out.2 j hj).2; have := HNEW.out j q; omega); have hapx := HV1.out.2.later oX.size (oX.block b HP1.out.lt hbx); obtain ⟨_, _, he, k0, k1⟩ := row_kid kx.row HK.out.1; cases he; have HX := Lib.hid (And.intro oX (And.intro hbx (And.intro kx (And.intro hapx (And.intro hown2 hmv))))); clear oX hbx kx hapx hown2 hgr hmv)
    obtain ⟨oX, hbx, kx, hapx, hown2, hmv⟩ := HX.out
    have hPx : PagesAt wx b S := by
      obtain ⟨vL, vG, hI⟩ := HP1.out
      refine ⟨vL, vG, hI.beside oX (fun j q e => ?_)⟩
      have := pown_lt HP1.out q
      have := HNEW.out j e
      omega
    have hSx := HS1.out.fresh hpw oX (fun j e => by have := HNEW.out j e; have := HS1.out.only.size; omega)
    have hl1 : (ks ++ [one]).length = ks.length + 1 := by simp
    have hfm : (ks ++ [one]).flatMap kidC = ks.flatMap kidC ++ [str one.key, .int .i64 one.page] := by rw [List.flatMap_append]; rfl
    rw [← hfm, ← hl1] at hown2
    have hsz : sizeL (ks ++ [one]) ≤ 392 := by
      have e1 := sizeL_app ks [one]
      have e2 : sizeL [one] = 4 + one.key.length + 1 := rfl
      omega
    have hcf := cutT_few HR.out.1 hsz
    have hwl := twigsP_ne HTW.out (by simp) (by omega) (by omega)
    have HTC := Lib.hid (ttwigs_is wx b S S2 kb.page (ks ++ [one]) wk (.slice a' (ks.length + 1) c') hPx ⟨row_own (enc := kidC) (k := 2) (fun _ => rfl) (by rw [← hl1]; exact hown2), by rw [← hl1]; exact cap_own hown2⟩ HR.out.1 (by omega) (by rw [hl1]; omega) (by omega) (by omega) (by omega) (by omega) HTW.out)
    have HY := Lib.hid (And.intro hPx (And.intro hSx (And.intro hapx kx)))
    clear oX hbx kx hapx hown2 hmv hPx hSx hfm hl1 hsz HX HTW
    unfold pagesV at HTC
    go_wp2_with fail
    refine HTC.out.mono ?_
    rintro e w7 ⟨V, rfl, hkr, hp7, st7⟩
    obtain ⟨hPx, hSx, hapx, kx⟩ := HY.out
    have kx7 := kx.step hapx st7
    have hap7 := hapx.step st7
    obtain ⟨k0w, wr, rfl⟩ := List.exists_cons_of_ne_nil hwl.1
    obtain ⟨gv, cv, rfl⟩ : ∃ gv cv, V = .slice (some ⟨gv, 0, none⟩) (k0w :: wr).length cv := by
      rcases hkr.own.2 with ⟨q, h0⟩ | ⟨gv, cv, cur, q, _⟩
      · simp at h0
      · exact ⟨gv, cv, q⟩
    obtain ⟨_, _, he, kl0, _⟩ := row_kid kx7.row HK.out.2
    cases he
    have v0 := own_cell hkr.own 0 (str k0w.key) rfl
    have vz := own_frozen hkr.own 0
    have hset := own_set hkr.own 0 (str kl.key)
    rw [← setHead_cells] at hset
    obtain ⟨hgv1, hgv2⟩ := hkr.far gv rfl
    have hgK7 := (hap7 gK rfl).2
    have hgKx := (hapx gK rfl).2
    have oS : Only (fun j => j = gv) w7 (w7.setCell ⟨gv, 0, none⟩ (str kl.key)) := (Only.refl (fun j => j = gv) w7).put gv 0 rfl _
    have hbv : ¬ b = gv := fun e => hgv2 (.inl e.symm)
    have kx8 := kx7.only oS (fun j hj e => by have e2 : gK = j := Option.some.inj hj; have e3 : j = gv := e; omega)
    have hP8 : PagesAt (w7.setCell ⟨gv, 0, none⟩ (str kl.key)) b S2 := by
      obtain ⟨vL, vG, hI⟩ := hp7
      exact ⟨vL, vG, hI.beside oS (fun j q e => hgv2 (by have e3 : j = gv := e; exact e3 ▸ q))⟩
    have hsx := hSx.only.size
    have hS8 := (hSx.trans st7).fresh hpw oS (fun j e => by have e3 : j = gv := e; omega)
    have HC2 := Lib.hid (CloneK_is _ kids _ kx8.row (by omega))
    have hs7 := st7.only.size
    have hw8s : (w7.setCell ⟨gv, 0, none⟩ (str kl.key)).heap.size = w7.heap.size := by simp [World.setCell]
    have hgv7 := (hkr.own.lt gv rfl).2
    have HZ := Lib.hid (And.intro hset (And.intro hP8 hS8))
    have hw2 : IntKind.i64.wrap ((m : Int) + 2) = (m : Int) + 2 := by exact IntWalk.i64_in _ (by omega)
    have hwlen := hwl.2
    have HWL := Lib.hid (And.intro hwlen hcf)
    clear hPx hSx hapx kx kx7 hap7 hkr hset oS kx8 hP8 hS8 hp7 st7 hwl hwlen hcf k0 k1 HTC
    go_wp2_with fail
    (with_reducible refine HC2.out.mono ?_)
    rintro e w9 ⟨v9, rfl, own9, o9, new9⟩
    rw [hw8s] at new9
    obtain ⟨hset, hP8, hS8⟩ := HZ.out
    have hrl := Replace_less v9 (.slice (some ⟨gv, 0, none⟩) (k0w :: wr).length cv) kids (setHead kl.key (k0w :: wr)) m (m + 2) w9 (by omega) (by omega) (by omega) (by have e1 := HWL.out; rw [setHead_length]; omega) (fun j hj e => by have e2 : gv = j := Option.some.inj e; have := new9 j hj; omega) own9 (by rw [setHead_length]; exact own_only hset o9 (fun _ _ => id)) (by omega)
    have ec : ((m + 2 : Nat) : Int) = (m : Int) + 2 := by omega
    rw [ec, List.length_cons] at hrl
    have HRL := Lib.hid hrl
    have HO9 := Lib.hid (And.intro o9 (And.intro new9 own9))
    clear hset hP8 hS8 hrl o9 new9 own9 HC2 ec
    go_wp2_with fail
    (with_reducible refine HRL.out.mono ?_)
    rintro e wa ⟨va, rfl, owna, oa, ba⟩
    have HA := Lib.hid (And.intro owna (And.intro oa ba))
    clear owna oa ba HRL
    go_wp2_with fail
    go_ret2
    obtain ⟨owna, oa, ba⟩ := HA.out
    obtain ⟨o9, new9, own9⟩ := HO9.out
    obtain ⟨_, hP8, hS8⟩ := HZ.out
    have hb8 : b < (w7.setCell ⟨gv, 0, none⟩ (str kl.key)).heap.size := hP8.lt
    have hP9 := hP8.still o9
    have hp9 : ∀ j, pown w9 b j → j < w7.heap.size := fun j q => by
      have := pown_lt hP8 ((pown_of_heap (o9.block b hb8 id) j).1 q)
      omega
    have hbn : ¬ v9.ownBlock = some b := fun q => by have := new9 b q; omega
    have hPa : PagesAt wa b S2 := by
      obtain ⟨vL, vG, hI⟩ := hP9
      exact ⟨vL, vG, hI.beside oa (fun j q e => by have := new9 j e; have := hp9 j q; omega)⟩
    refine ⟨va, rfl, ⟨owna, fun j hj => ?_⟩, hPa, (hS8.trans (PStep.still hb8 o9)).fresh hpw oa (fun j e => by have := new9 j e; omega)⟩
    rw [ba] at hj
    have h9 := new9 j hj
    refine ⟨by omega, fun q => ?_⟩
    have := hp9 j ((pown_of_heap (oa.block b hP9.lt hbn) j).1 q)
    omega
end Go.Proofs.YtklccpaphkpgfaaGreat
