/- Package tree over the law's pages: a key is deleted below a twig. Conditions: one goroutine; below the page is a tree; there is room for the pages. -/
import Derived.Test.YtbhiamcmiopnoaaGreatDoorZTreeD
import Derived.BigRegion
import Derived.Deep.RegionWith
namespace Go.Proofs.YtbhiamcmiopnoaaGreatDoor
open Go.RowKit
def Blk (w : World) (b B : Nat) (o : Obj) : Prop := w.heap[B]? = some o ∧ ¬ pown w b B
theorem Blk.lt {w : World} {b B : Nat} {o : Obj} (h : Blk w b B o) : B < w.heap.size := (Array.getElem?_eq_some_iff.1 h.1).1
theorem Blk.only {w w' : World} {b B : Nat} {o : Obj} {T : Nat → Prop} (h : Blk w b B o) (hb : b < w.heap.size) (ho : Only T w w') (hB : ¬ T B) (hT : ¬ T b) : Blk w' b B o := ⟨(ho.block B h.lt hB).trans h.1, fun q => h.2 ((pown_of_heap (ho.block b hb hT) B).1 q)⟩
theorem Blk.still {w w' : World} {b B : Nat} {o : Obj} (h : Blk w b B o) (hb : b < w.heap.size) (ho : Only (fun _ => False) w w') : Blk w' b B o := h.only hb ho id id
theorem Blk.step {w w' : World} {b B : Nat} {o : Obj} (h : Blk w b B o) (st : PStep b w w') : Blk w' b B o := ⟨(st.only.block B h.lt h.2).trans h.1, fun q => (st.own B q).elim h.2 (by have := h.lt; omega)⟩
theorem Blk.new {w : World} {b : Nat} {S : PSt} (h : PagesAt w b S) (cs : Array Value) (t : TypeId) : Blk (w.alloc (.cells cs t)) b w.heap.size (.cells cs t) := ⟨heap_alloc_new w _, fun q => by
  have := pown_lt h ((pown_of_heap (((Only.refl (fun _ => False) w).alloc (.cells cs t)).block b h.lt id) _).1 q)
  omega⟩
set_option maxRecDepth 100000 in
set_option maxHeartbeats 20000000 in
theorem tdel_twig (key : Bytes) (f : Nat) (IH : DelDoes key f) (n : Nat) (S S2 : PSt) (id : Int) (b0 : Bytes) (l : List Item) (ids : List Int) (depth : Int) (r : Rest) (w : World) (b : Nat) (T : Tree S.L (n + 1) id b0 l ids) (hf : n < f) (hd0 : 1 ≤ depth) (hd : depth + (n + 1 : Nat) ≤ 12) (hs : S.stop < 0) (hL : S.L.length + 3 + 2 * (n + 1) ≤ 3998)
    (hg : S.given.length + 2 * (f + 1) < 1000000) (h : PagesAt w b S) (hk : delP (f + 1) S id key depth = (.ok r, S2)) :
    Calls Tryz.prog 176 #[pagesV b, .int .i64 id, str key, .int .i64 depth] w (DelEnds w b r S2) := by
  obtain ⟨kids, k, rk, p1, hn, hne, ok, h2k, hkk, ⟨b', l', ids', hT⟩, hpp, hp1L, hp1s, hp1v, hp1g, hcase⟩ := del_twig_parts key n f S S2 id b0 l ids depth r T hf hd hs hL hk
  have hid := nodeAt_lt hn
  have hri := (rightL_iff _).1 ok.1
  have hkl : kids.length ≤ 255 := ok.2.2
  have hksz : sizeL kids ≤ 232 := ok.2.1
  have hfl := (List.getElem?_eq_some_iff.1 hkk).1
  have hkok : okKid k = true := hri.1 k (List.mem_of_getElem? hkk)
  simp only [okKid, decide_eq_true_eq] at hkok
  have oW := (Only.refl (fun _ => False) w).alloc (.cells #[.slice none 0 0, .bool false, .bool false] 248)
  have HLD := Lib.hid (tload_twig (w.alloc (.cells #[.slice none 0 0, .bool false, .bool false] 248)) b S id depth kids (h.still oW) hs hn (by omega) (by omega))
  have hpw := h.lt
  have HBR := Lib.hid (Blk.new h #[.slice none 0 0, .bool false, .bool false] 248)
  have HW0 := Lib.hid (PStep.still h.lt oW)
  have HIH := Lib.hid (fun W hW => IH n S p1 k.page b' l' ids' (depth + 1) rk W b hT hf (by omega) (by omega) hs (by omega) (by omega) hW hpp)
  have HCASE := Lib.hid hcase
  have hm4 := fun n => m_Free n ⟨b, 0, none⟩
  clear h hk IH hpp hcase hT T oW
  unfold pagesV at HLD ⊢
  go_enter Tryz.func176, Tryz.ntmps176
  go_wp2_with fail
  refine HLD.out.mono ?_
  rintro e w1 ⟨v1, rfl, hrow, hap, hp1, st1⟩
  obtain ⟨a1, n1, c1, rfl⟩ := capOk_form hrow.cap
  obtain rfl : n1 = kids.length := by
    cases hrow.row with
    | none => rfl
    | some => rfl
  have o2 := (Only.refl (fun _ => False) w1).alloc (.cells #[.int .i64 id, .bool false, .slice none 0 0, .slice a1 kids.length c1] 207)
  have HBN := Lib.hid (Blk.new hp1 #[.int .i64 id, .bool false, .slice none 0 0, .slice a1 kids.length c1] 207)
  have HFD := Lib.hid (TFind_is _ kids key _ (row_only hrow.row o2 (fun _ _ => fun q => q)) hne hri.2 (by omega))
  have HBR1 := Lib.hid (HBR.out.step st1)
  have HRW := Lib.hid (And.intro hrow hap)
  have HP1 := Lib.hid hp1
  have HS1 := Lib.hid (HW0.out.trans st1)
  have HO2 := Lib.hid o2
  clear hrow hap hp1 st1 o2 HLD HW0 HBR
  go_wp2_with fail
  refine HFD.out.mono ?_
  rintro e w3 ⟨rfl, o3⟩
  have HO3 := Lib.hid (HO2.out.trans o3 (fun _ _ q => q))
  have hw1s : (w1.alloc (.cells #[.int .i64 id, .bool false, .slice none 0 0, .slice a1 kids.length c1] 207)).heap.size = w1.heap.size + 1 := by simp
  have HBN3 := Lib.hid (HBN.out.still (by have := HP1.out.lt; omega) o3)
  have HBR3 := Lib.hid (HBR1.out.still HP1.out.lt HO3.out)
  have n3 := heap_cell HBN3.out.1 3
  have hrow3 := row_only HRW.out.1.row HO3.out (fun _ _ => fun q => q)
  obtain ⟨g, off, rfl, k0, k1⟩ := row_kid hrow3 hkk
  simp only [List.getElem?_toArray, List.getElem?_cons_zero, List.getElem?_cons_succ] at n3
  have HR3 := Lib.hid (And.intro (HRW.out.1.only HO3.out (fun _ _ => fun q => q)) (HRW.out.2.later HO3.out.size (HO3.out.block b HP1.out.lt (fun q => q))))
  have HS3 := Lib.hid (HS1.out.trans (PStep.still HP1.out.lt HO3.out))
  have HP3 := Lib.hid (HP1.out.still HO3.out)
  clear o3 hrow3 HFD HBN HBR1
  generalize hfk : findK kids key = at_ at *
  have hat1 : (at_ : Int) < (kids.length : Int) := by omega
  have hw9 : IntKind.i64.wrap (depth + 1) = depth + 1 := by exact IntWalk.i64_in _ (by omega)
  have hih := HIH.out w3 HP3.out
  unfold DelEnds at hih
  have HIH3 := Lib.hid hih
  clear hih HIH hfk
  unfold pagesV at HIH3
  go_wp2_with fail
  refine HIH3.out.mono ?_
  rintro e w4 ⟨V, rfl, hkr, hp4, st4⟩
  clear HIH3
  obtain ⟨aV, cV, rfl⟩ := ownsRow_form hkr.own
  generalize hnV : rk.kids.length = nV at *
  have HNV := Lib.hid hnV
  clear hnV
  have o5 : Only (fun _ => False) w4 (w4.alloc (.cells #[.slice aV nV cV, .bool rk.thin, .bool rk.found] 248)) := (Only.refl _ w4).alloc _
  have HBX := Lib.hid (Blk.new hp4 #[.slice aV nV cV, .bool rk.thin, .bool rk.found] 248)
  have HB5 := Lib.hid (And.intro ((HBR3.out.step st4).still hp4.lt o5) ((HBN3.out.step st4).still hp4.lt o5))
  have hs4 := st4.only.size
  have hs3 := HO3.out.size
  have hs1 := HS1.out.only.size
  rw [hw1s] at *
  have HK4 := Lib.hid hkr
  have HP4 := Lib.hid hp4
  have HS4 := Lib.hid (HS3.out.trans st4)
  have HR4 := Lib.hid (And.intro (HR3.out.1.step HR3.out.2 st4) (HR3.out.2.step st4))
  have HO5 := Lib.hid o5
  have hRw3 := HBR3.out.lt
  have hNw3 := HBN3.out.lt
  clear hkr hp4 st4 o5 HBR3 HBN3 n3 k0 k1 HR3
  rcases HCASE.out with ⟨rfl, rfl, rfl, rfl⟩ | ⟨hfd, hc⟩
  · clear HCASE
    have f2 := heap_cell HBX.out.1 2
    simp only [List.getElem?_toArray, List.getElem?_cons_zero, List.getElem?_cons_succ] at f2
    have HE := Lib.hid (del_end (r := ⟨[], false, false⟩) (V := .slice none 0 0) hpw HB5.out.1.1 (Nat.le_refl _) HB5.out.1.2 ⟨⟨rfl, .inl ⟨rfl, rfl⟩⟩, fun j hj => by cases hj⟩ (fun q => by cases q) (HP4.out.still HO5.out) (HS4.out.trans (PStep.still HP4.out.lt HO5.out)))
    have hR3 := HB5.out.1.1
    have c0 := heap_cell hR3 0
    have c1' := heap_cell hR3 1
    have c2 := heap_cell hR3 2
    have z0 := heap_frozen hR3 0
    have z1 := heap_frozen hR3 1
    have z2 := heap_frozen hR3 2
    simp only [List.getElem?_toArray, List.getElem?_cons_zero, List.getElem?_cons_succ] at c0 c1' c2
    clear hR3
    go_wp2_with fail
    obtain ⟨hkr, hp, st, hh⟩ := HE.out
    unfold three at hkr hp st hh
    have q0 := heap_cell hh 0
    have q1 := heap_cell hh 1
    have q2 := heap_cell hh 2
    simp only [List.getElem?_toArray, List.getElem?_cons_zero, List.getElem?_cons_succ] at q0 q1 q2
    exact bodyPost_ret (v := .tuple #[.agg #[.slice none 0 0, .bool false, .bool false], .int .i64 0]) (by simp [results, Tryz.results176, go_sem, q0, q1, q2]) rfl ⟨.slice none 0 0, rfl, hkr, hp, st⟩
  · obtain ⟨rkk, th, fo⟩ := rk
    simp only at hfd hc HNV HK4 HBX HB5 HO5
    subst hfd
    rcases hc with ⟨hth, hr2, hrk, hD⟩ | ⟨hth, one, l2, p2, hrk, hone, hj, hj1, hj2, hj3, hj4, hj5, hD⟩
    · subst hth
      have f0 := heap_cell HBX.out.1 0
      have f1 := heap_cell HBX.out.1 1
      have f2 := heap_cell HBX.out.1 2
      have n3 := heap_cell HB5.out.2.1 3
      simp only [List.getElem?_toArray, List.getElem?_cons_zero, List.getElem?_cons_succ] at f0 f1 f2 n3
      have hr3 : rkk.length ≤ 2 := by rw [HNV.out]; exact hr2
      have hrk2 : rightL rkk = true := hrk
      have hsz : sizeL (swapL kids at_ (setHead k.key rkk)) ≤ 392 := by
        have e1 := swapL_size kids (setHead k.key rkk) at_
        have e3 : sizeL (setHead k.key rkk) ≤ 1 + 36 * rkk.length + 36 := by
          have e4 := sizeL_most rkk fun y hy => (cost_kid (((rightL_iff _).1 hrk2).1 y hy)).2
          have e5 := setHead_size (k := k.key) (by omega) rkk
          omega
        omega
      have HQ : Hid (sizeL (swapL kids at_ (setHead k.key rkk)) ≤ 392 ∧ p1.L.length + 2 ≤ 3998 ∧ id < (p1.L.length + 2 : Nat) ∧ p1.given.length < 1000000) := Lib.hid ⟨hsz, by omega, by omega, by omega⟩
      have HD := Lib.hid hD
      cases rkk with
      | nil =>
        obtain rfl : nV = 0 := HNV.out.symm
        have HSW := Lib.hid (TSwap_none (.slice (some ⟨g, off, none⟩) kids.length c1) (.slice aV 0 cV) kids at_ _ (row_only HR4.out.1.row HO5.out (fun _ _ => fun q => q)) hfl (own_only HK4.out.own HO5.out (fun _ _ => fun q => q)) (by omega))
        clear hsz hD hr2 hrk hr3 hrk2 HCASE
        go_wp2_with fail
        (with_reducible refine HSW.out.mono ?_)
        rintro e w6 ⟨v6, rfl, own6, o6, new6⟩
        have hb5 : b < (w4.alloc (.cells #[.slice aV 0 cV, .bool false, .bool true] 248)).heap.size := Nat.lt_of_lt_of_le HP4.out.lt HO5.out.size
        have g1 := heap_cell (HBX.out.still hb5 o6).1 1
        simp only [List.getElem?_toArray, List.getElem?_cons_zero, List.getElem?_cons_succ] at g1
        have hp6 := (HP4.out.still HO5.out).still o6
        have hsz5 := HS4.out.only.size
        have hszo := HO5.out.size
        have hRlt := HB5.out.1.lt
        have HL := Lib.hid (And.intro own6 (And.intro (fun j (hj : v6.ownBlock = some j) => (⟨by have := new6 j hj; omega, fun q => by have := new6 j hj; have := pown_lt (HP4.out.still HO5.out) ((pown_of_heap (o6.block b hb5 (fun q => q)) j).1 q); omega, by have := new6 j hj; omega⟩ : w.heap.size ≤ j ∧ ¬ pown w6 b j ∧ j ≠ w.heap.size)) (And.intro hp6 (And.intro (HS4.out.trans ((PStep.still HP4.out.lt HO5.out).trans (PStep.still hb5 o6))) (HB5.out.1.still hb5 o6)))))
        clear hsz5 hszo hRlt own6 o6 new6 hb5 hp6 f0 f1 f2 n3 HSW HBX HB5 HK4
        change Hid (_ ∧ _) at HL
        have e0 : setHead k.key [] = [] := rfl
        rw [e0] at HQ HD
        generalize swapL kids at_ [] = LL at *
        clear e0
        obtain ⟨aL, cL, rfl⟩ := ownsRow_form HL.out.1
        generalize hnL : LL.length = nL at *
        rcases HD.out with ⟨h1, rfl, rfl⟩ | ⟨h2, wk, htw, rfl⟩
        · obtain rfl : nL = 1 := by rw [← hnL]; exact h1
          have oI : Only (fun _ => False) w6 (w6.alloc (.cells #[.int .i64 id] 3)) := (Only.refl _ w6).alloc _
          have hnw := Blk.new HL.out.2.2.1 #[.int .i64 id] 3
          have HF := Lib.hid (PFree_is (w6.alloc (.cells #[.int .i64 id] 3)) b p1 id (.slice (some ⟨w6.heap.size, 0, none⟩) 1 1) (HL.out.2.2.1.still oI) HQ.out.2.2.2 ⟨_, _, _, rfl, heap_cell hnw.1 0, hnw.2⟩)
          have HLL := Lib.hid hnL
          have HOI := Lib.hid oI
          clear hnw hnL h1 oI
          go_wp2_with fail
          refine HF.out.mono ?_
          rintro e wf ⟨rfl, hpf, stf⟩
          obtain ⟨own, far, hp, st, br⟩ := HL.out
          have hbW := hp.lt
          have hR9 := (br.still hbW HOI.out).step stf
          have hpw2 : ∀ j, pown (w6.alloc (.cells #[.int .i64 id] 3)) b j → pown w6 b j := fun j q => (pown_of_heap (HOI.out.block b hbW (fun q => q)) j).1 q
          have HE := Lib.hid (del_end (r := ⟨LL, true, true⟩) (V := .slice aL 1 cL) hpw hR9.1 (Nat.le_refl _) hR9.2 ⟨(by have e : LL.length = 1 := HLL.out; show World.ownsRow _ 0 _ 2 _ LL.length _; rw [e]; exact own_only (own_only own HOI.out (fun _ _ => fun q => q)) stf.only (fun j hj q => (far j hj).2.1 (hpw2 j q))), fun j hj => ⟨(far j hj).1, fun q => (stf.own j q).elim (fun q => (far j hj).2.1 (hpw2 j q)) (fun q => by have := (own.lt j hj).2; have := HOI.out.size; omega)⟩⟩ (fun q => (far _ q).2.2 rfl) hpf (st.trans ((PStep.still hbW HOI.out).trans stf)))
          have c0 := heap_cell hR9.1 0
          have c1' := heap_cell hR9.1 1
          have c2 := heap_cell hR9.1 2
          have z0 := heap_frozen hR9.1 0
          have z1 := heap_frozen hR9.1 1
          have z2 := heap_frozen hR9.1 2
          simp only [List.getElem?_toArray, List.getElem?_cons_zero, List.getElem?_cons_succ] at c0 c1' c2
          clear hR9
          clear own far hp st br hbW hpw2 hpf stf HF
          go_wp2_with fail
          obtain ⟨hkr, hp, st, hh⟩ := HE.out
          unfold three at hkr hp st hh
          have q0 := heap_cell hh 0
          have q1 := heap_cell hh 1
          have q2 := heap_cell hh 2
          simp only [List.getElem?_toArray, List.getElem?_cons_zero, List.getElem?_cons_succ] at q0 q1 q2
          exact bodyPost_ret (v := .tuple #[.agg #[.slice aL 1 cL, .bool true, .bool true], .int .i64 0]) (by simp [results, Tryz.results176, go_sem, q0, q1, q2]) rfl ⟨_, rfl, hkr, hp, st⟩
        · have hrr := twigsP_right htw
          have hne1 : ¬ (nL : Int) = 1 := by omega
          have hcf := cutT_few hrr HQ.out.1
          have hq := HQ.out
          have own := HL.out.1
          rw [← hnL] at own
          have HT := Lib.hid (ttwigs_is w6 b p1 S2 id LL wk (.slice aL nL cL) HL.out.2.2.1 ⟨row_own (enc := kidC) (k := 2) (fun _ => rfl) (by rw [hnL] at own ⊢; exact own), cap_own HL.out.1⟩ hrr (by omega) (by omega) (by omega) (by omega) (by omega) (by omega) htw)
          clear hrr hcf hq own htw h2 hnL
          unfold pagesV at HT
          go_wp2_with fail
          refine HT.out.mono ?_
          rintro e wt ⟨V9, rfl, hkr9, hp9, st9⟩
          obtain ⟨a9, c9, rfl⟩ := ownsRow_form hkr9.own
          obtain ⟨own, far, hp, st, br⟩ := HL.out
          have hR9 := br.step st9
          have hsW := st.only.size
          have hbrl := br.lt
          have HE := Lib.hid (del_end (r := ⟨wk, false, true⟩) hpw hR9.1 (Nat.le_refl _) hR9.2 ⟨hkr9.own, fun j hj => ⟨by have := (hkr9.far j hj).1; omega, (hkr9.far j hj).2⟩⟩ (fun q => by have := (hkr9.far _ q).1; omega) hp9 (st.trans st9))
          have c0 := heap_cell hR9.1 0
          have c1' := heap_cell hR9.1 1
          have c2 := heap_cell hR9.1 2
          have z0 := heap_frozen hR9.1 0
          have z1 := heap_frozen hR9.1 1
          have z2 := heap_frozen hR9.1 2
          simp only [List.getElem?_toArray, List.getElem?_cons_zero, List.getElem?_cons_succ] at c0 c1' c2
          clear hR9
          clear own far hp st br hsW hbrl hkr9 hp9 st9 HT
          go_wp2_with fail
          obtain ⟨hkr, hp, st, hh⟩ := HE.out
          unfold three at hkr hp st hh
          have q0 := heap_cell hh 0
          have q1 := heap_cell hh 1
          have q2 := heap_cell hh 2
          simp only [List.getElem?_toArray, List.getElem?_cons_zero, List.getElem?_cons_succ] at q0 q1 q2
          exact bodyPost_ret (v := .tuple #[.agg #[.slice a9 wk.length c9, .bool false, .bool true], .int .i64 0]) (by simp [results, Tryz.results176, go_sem, q0, q1, q2]) rfl ⟨_, rfl, hkr, hp, st⟩
      | cons x xs =>
        obtain ⟨gv, rfl⟩ : ∃ gv, aV = some ⟨gv, 0, none⟩ := by
          rcases HK4.out.own.2 with ⟨q, h0⟩ | ⟨gv, cap, cur, q, _⟩
          · simp at h0
          · injection q with q1 q2 q3; exact ⟨gv, q1⟩
        have hnV : nV = (x :: xs).length := HNV.out.symm
        have own4 := HK4.out.own
        rw [hnV] at own4
        have own5 := own_only own4 HO5.out (fun _ _ => fun q => q)
        have v0 := own_cell own5 0 (str x.key) rfl
        have vz := own_frozen own5 0
        have row5 := row_only HR4.out.1.row HO5.out (fun _ _ => fun q => q)
        obtain ⟨_, _, he, k0, _⟩ := row_kid row5 hkk
        cases he
        have hset := own_set own5 0 (str k.key)
        rw [← setHead_cells] at hset
        have hpos : (0 : Int) < (nV : Int) := by rw [hnV]; simp only [List.length_cons]; omega
        have HSET := Lib.hid hset
        have HNV2 := Lib.hid hnV
        clear hset own5 own4 row5 hnV
        go_wp2_with fail
        go_region
        all_goals
          obtain ⟨hgv1, hgv2⟩ := HK4.out.far gv rfl
          have hgv4 := (HK4.out.own.lt gv rfl).2
          have oS : Only (fun j => j = gv) (w4.alloc (.cells #[.slice (some ⟨gv, 0, none⟩) nV cV, .bool false, .bool true] 248)) (((w4.alloc (.cells #[.slice (some ⟨gv, 0, none⟩) nV cV, .bool false, .bool true] 248)).setCell ⟨gv, 0, none⟩ (str k.key)).drew) := ((Only.refl (fun j => j = gv) _).put gv 0 rfl _).drew
          have hbv : ¬ b = gv := fun e => hgv2 (.inl e.symm)
          have hp5 := HP4.out.still HO5.out
          have hpo5 : ∀ j, pown (w4.alloc (.cells #[.slice (some ⟨gv, 0, none⟩) nV cV, .bool false, .bool true] 248)) b j → pown w4 b j := fun j q => (pown_of_heap (HO5.out.block b HP4.out.lt (fun q => q)) j).1 q
          have hp6 : PagesAt (((w4.alloc (.cells #[.slice (some ⟨gv, 0, none⟩) nV cV, .bool false, .bool true] 248)).setCell ⟨gv, 0, none⟩ (str k.key)).drew) b p1 := by
            obtain ⟨vL, vG, hI⟩ := hp5
            exact ⟨vL, vG, hI.beside oS (fun j q e => hgv2 (by have e3 : j = gv := e; exact e3 ▸ hpo5 j q))⟩
          have hR6 := HB5.out.1.only hp5.lt oS (fun e => by have e2 : w.heap.size = gv := e; omega) hbv
          have hN6 := HB5.out.2.only hp5.lt oS (fun e => by have e2 : w1.heap.size = gv := e; omega) hbv
          have hX6 := HBX.out.only hp5.lt oS (fun e => by have e2 : w4.heap.size = gv := e; omega) hbv
          have hgK := (HR4.out.2 g rfl).2
          have hgK2 := (HRW.out.2 g rfl).2
          have row6 := (HR4.out.1.only HO5.out (fun _ _ => fun q => q)).only oS (fun j hj e => by have e2 : g = j := Option.some.inj hj; have e3 : j = gv := e; omega)
          have hap6 := (HR4.out.2.later HO5.out.size (HO5.out.block b HP4.out.lt (fun q => q))).later oS.size (oS.block b hp5.lt hbv)
          have hS6 := (HS4.out.trans (PStep.still HP4.out.lt HO5.out)).fresh hpw oS (fun j e => by have e3 : j = gv := e; omega)
          have own6 : (((w4.alloc (.cells #[.slice (some ⟨gv, 0, none⟩) nV cV, .bool false, .bool true] 248)).setCell ⟨gv, 0, none⟩ (str k.key)).drew).ownsRow 0 185 2 (.slice (some ⟨gv, 0, none⟩) (x :: xs).length cV) (setHead k.key (x :: xs)).length ((setHead k.key (x :: xs)).flatMap kidC) := HSET.out.drew
          have hsw := TSwap_own _ _ kids (setHead k.key (x :: xs)) at_ _ row6.row hfl (by simp [setHead]) own6 (by omega) (by rw [setHead_length]; have := hr3; simp only [List.length_cons] at this ⊢; omega)
          rw [← HNV2.out] at hsw
          have HSW := Lib.hid hsw
          clear hsw
          have f0 := heap_cell hX6.1 0
          have f1 := heap_cell hX6.1 1
          have n3 := heap_cell hN6.1 3
          simp only [List.getElem?_toArray, List.getElem?_cons_zero, List.getElem?_cons_succ] at f0 f1 n3
          have H6 := Lib.hid (And.intro hp6 (And.intro hR6 (And.intro hN6 (And.intro hX6 (And.intro row6 (And.intro hap6 (And.intro hS6 own6)))))))
          clear oS hbv hp5 hpo5 hp6 hR6 hN6 hX6 hgK hgK2 row6 hap6 hS6 own6
          generalize (((w4.alloc (.cells #[.slice (some ⟨gv, 0, none⟩) nV cV, .bool false, .bool true] 248)).setCell ⟨gv, 0, none⟩ (str k.key)).drew) = w6 at *
          go_wp2_with fail
          (with_reducible refine HSW.out.mono ?_)
          rintro e w7 ⟨v7, rfl, own7, o7, new7⟩
          obtain ⟨hp6, hR6, hN6, hX6, row6, hap6, hS6, own6⟩ := H6.out
          have hb6 := hp6.lt
          have f0 := heap_cell (hX6.still hb6 o7).1 0
          have f1 := heap_cell (hX6.still hb6 o7).1 1
          have n3 := heap_cell (hN6.still hb6 o7).1 3
          simp only [List.getElem?_toArray, List.getElem?_cons_zero, List.getElem?_cons_succ] at f0 f1 n3
          have hRlt := hR6.lt
          have hsS := hS6.only.size
          have HL := Lib.hid (And.intro own7 (And.intro (fun j (hj : v7.ownBlock = some j) => (⟨by have := new7 j hj; omega, fun q => by have := new7 j hj; have := pown_lt hp6 ((pown_of_heap (o7.block b hb6 (fun q => q)) j).1 q); omega, by have := new7 j hj; omega⟩ : w.heap.size ≤ j ∧ ¬ pown w7 b j ∧ j ≠ w.heap.size)) (And.intro (hp6.still o7) (And.intro (hS6.trans (PStep.still hb6 o7)) (hR6.still hb6 o7)))))
          clear own7 o7 new7 hp6 hR6 hN6 hX6 row6 hap6 hS6 own6 hb6 hRlt hsS H6 HSW
          generalize swapL kids at_ (setHead k.key (x :: xs)) = LL at *
          obtain ⟨aL, cL, rfl⟩ := ownsRow_form HL.out.1
          generalize hnL : LL.length = nL at *
          rcases HD.out with ⟨h1, rfl, rfl⟩ | ⟨h2, wk, htw, rfl⟩
          · obtain rfl : nL = 1 := by rw [← hnL]; exact h1
            have oI : Only (fun _ => False) w7 (w7.alloc (.cells #[.int .i64 id] 3)) := (Only.refl _ w7).alloc _
            have hnw := Blk.new HL.out.2.2.1 #[.int .i64 id] 3
            have HF := Lib.hid (PFree_is (w7.alloc (.cells #[.int .i64 id] 3)) b p1 id (.slice (some ⟨w7.heap.size, 0, none⟩) 1 1) (HL.out.2.2.1.still oI) HQ.out.2.2.2 ⟨_, _, _, rfl, heap_cell hnw.1 0, hnw.2⟩)
            have HLL := Lib.hid hnL
            have HOI := Lib.hid oI
            clear hnw hnL h1 oI
            go_wp2_with fail
            refine HF.out.mono ?_
            rintro e wf ⟨rfl, hpf, stf⟩
            obtain ⟨own, far, hp, st, br⟩ := HL.out
            have hbW := hp.lt
            have hR9 := (br.still hbW HOI.out).step stf
            have hpw2 : ∀ j, pown (w7.alloc (.cells #[.int .i64 id] 3)) b j → pown w7 b j := fun j q => (pown_of_heap (HOI.out.block b hbW (fun q => q)) j).1 q
            have HE := Lib.hid (del_end (r := ⟨LL, true, true⟩) (V := .slice aL 1 cL) hpw hR9.1 (Nat.le_refl _) hR9.2 ⟨(by have e : LL.length = 1 := HLL.out; show World.ownsRow _ 0 _ 2 _ LL.length _; rw [e]; exact own_only (own_only own HOI.out (fun _ _ => fun q => q)) stf.only (fun j hj q => (far j hj).2.1 (hpw2 j q))), fun j hj => ⟨(far j hj).1, fun q => (stf.own j q).elim (fun q => (far j hj).2.1 (hpw2 j q)) (fun q => by have := (own.lt j hj).2; have := HOI.out.size; omega)⟩⟩ (fun q => (far _ q).2.2 rfl) hpf (st.trans ((PStep.still hbW HOI.out).trans stf)))
            have c0 := heap_cell hR9.1 0
            have c1' := heap_cell hR9.1 1
            have c2 := heap_cell hR9.1 2
            have z0 := heap_frozen hR9.1 0
            have z1 := heap_frozen hR9.1 1
            have z2 := heap_frozen hR9.1 2
            simp only [List.getElem?_toArray, List.getElem?_cons_zero, List.getElem?_cons_succ] at c0 c1' c2
            clear hR9
            clear own far hp st br hbW hpw2 hpf stf HF
            go_wp2_with fail
            obtain ⟨hkr, hp, st, hh⟩ := HE.out
            unfold three at hkr hp st hh
            have q0 := heap_cell hh 0
            have q1 := heap_cell hh 1
            have q2 := heap_cell hh 2
            simp only [List.getElem?_toArray, List.getElem?_cons_zero, List.getElem?_cons_succ] at q0 q1 q2
            exact bodyPost_ret (v := .tuple #[.agg #[.slice aL 1 cL, .bool true, .bool true], .int .i64 0]) (by simp [results, Tryz.results176, go_sem, q0, q1, q2]) rfl ⟨_, rfl, hkr, hp, st⟩
          · have hrr := twigsP_right htw
            have hne1 : ¬ (nL : Int) = 1 := by omega
            have hcf := cutT_few hrr HQ.out.1
            have hq := HQ.out
            have own := HL.out.1
            rw [← hnL] at own
            have HT := Lib.hid (ttwigs_is w7 b p1 S2 id LL wk (.slice aL nL cL) HL.out.2.2.1 ⟨row_own (enc := kidC) (k := 2) (fun _ => rfl) (by rw [hnL] at own ⊢; exact own), cap_own HL.out.1⟩ hrr (by omega) (by omega) (by omega) (by omega) (by omega) (by omega) htw)
            clear hrr hcf hq own htw h2 hnL
            unfold pagesV at HT
            go_wp2_with fail
            refine HT.out.mono ?_
            rintro e wt ⟨V9, rfl, hkr9, hp9, st9⟩
            obtain ⟨a9, c9, rfl⟩ := ownsRow_form hkr9.own
            obtain ⟨own, far, hp, st, br⟩ := HL.out
            have hR9 := br.step st9
            have hsW := st.only.size
            have hbrl := br.lt
            have HE := Lib.hid (del_end (r := ⟨wk, false, true⟩) hpw hR9.1 (Nat.le_refl _) hR9.2 ⟨hkr9.own, fun j hj => ⟨by have := (hkr9.far j hj).1; omega, (hkr9.far j hj).2⟩⟩ (fun q => by have := (hkr9.far _ q).1; omega) hp9 (st.trans st9))
            have c0 := heap_cell hR9.1 0
            have c1' := heap_cell hR9.1 1
            have c2 := heap_cell hR9.1 2
            have z0 := heap_frozen hR9.1 0
            have z1 := heap_frozen hR9.1 1
            have z2 := heap_frozen hR9.1 2
            simp only [List.getElem?_toArray, List.getElem?_cons_zero, List.getElem?_cons_succ] at c0 c1' c2
            clear hR9
            clear own far hp st br hsW hbrl hkr9 hp9 st9 HT
            go_wp2_with fail
            obtain ⟨hkr, hp, st, hh⟩ := HE.out
            unfold three at hkr hp st hh
            have q0 := heap_cell hh 0
            have q1 := heap_cell hh 1
            have q2 := heap_cell hh 2
            simp only [List.getElem?_toArray, List.getElem?_cons_zero, List.getElem?_cons_succ] at q0 q1 q2
            exact bodyPost_ret (v := .tuple #[.agg #[.slice a9 wk.length c9, .bool false, .bool true], .int .i64 0]) (by simp [results, Tryz.results176, go_sem, q0, q1, q2]) rfl ⟨_, rfl, hkr, hp, st⟩
    · subst hth
      have f0 := heap_cell HBX.out.1 0
      have f1 := heap_cell HBX.out.1 1
      have f2 := heap_cell HBX.out.1 2
      have n3 := heap_cell HB5.out.2.1 3
      simp only [List.getElem?_toArray, List.getElem?_cons_zero, List.getElem?_cons_succ] at f0 f1 f2 n3
      obtain ⟨x, xs, hxx⟩ : ∃ x xs, [one] = x :: xs := ⟨one, [], rfl⟩
      have hrk3 : rkk = x :: xs := hrk.trans hxx
      injection hxx with hxo hxs
      clear hrk
      subst hrk3
      subst hxo
      have hr3 : (one :: xs).length ≤ 2 := by rw [← hxs]; simp
      clear hxs
      obtain ⟨gv, rfl⟩ : ∃ gv, aV = some ⟨gv, 0, none⟩ := by
        rcases HK4.out.own.2 with ⟨q, h0⟩ | ⟨gv, cap, cur, q, _⟩
        · simp at h0
        · injection q with q1 q2 q3; exact ⟨gv, q1⟩
      have hnV : nV = (one :: xs).length := HNV.out.symm
      have own4 := HK4.out.own
      rw [hnV] at own4
      have own5 := own_only own4 HO5.out (fun _ _ => fun q => q)
      have v0 := own_cell own5 0 (str one.key) rfl
      have vz := own_frozen own5 0
      have row5 := row_only HR4.out.1.row HO5.out (fun _ _ => fun q => q)
      obtain ⟨_, _, he, k0, _⟩ := row_kid row5 hkk
      cases he
      have hset := own_set own5 0 (str k.key)
      rw [← setHead_cells] at hset
      have hpos : (0 : Int) < (nV : Int) := by rw [hnV]; simp only [List.length_cons]; omega
      have HSET := Lib.hid hset
      have HNV2 := Lib.hid hnV
      clear hset own5 own4 row5 hnV
      go_wp2_with fail
      go_region
      all_goals
        obtain ⟨hgv1, hgv2⟩ := HK4.out.far gv rfl
        have hgv4 := (HK4.out.own.lt gv rfl).2
        have oS : Only (fun j => j = gv) (w4.alloc (.cells #[.slice (some ⟨gv, 0, none⟩) nV cV, .bool true, .bool true] 248)) (((w4.alloc (.cells #[.slice (some ⟨gv, 0, none⟩) nV cV, .bool true, .bool true] 248)).setCell ⟨gv, 0, none⟩ (str k.key)).drew) := ((Only.refl (fun j => j = gv) _).put gv 0 rfl _).drew
        have hbv : ¬ b = gv := fun e => hgv2 (.inl e.symm)
        have hp5 := HP4.out.still HO5.out
        have hpo5 : ∀ j, pown (w4.alloc (.cells #[.slice (some ⟨gv, 0, none⟩) nV cV, .bool true, .bool true] 248)) b j → pown w4 b j := fun j q => (pown_of_heap (HO5.out.block b HP4.out.lt (fun q => q)) j).1 q
        have hp6 : PagesAt (((w4.alloc (.cells #[.slice (some ⟨gv, 0, none⟩) nV cV, .bool true, .bool true] 248)).setCell ⟨gv, 0, none⟩ (str k.key)).drew) b p1 := by
          obtain ⟨vL, vG, hI⟩ := hp5
          exact ⟨vL, vG, hI.beside oS (fun j q e => hgv2 (by have e3 : j = gv := e; exact e3 ▸ hpo5 j q))⟩
        have hR6 := HB5.out.1.only hp5.lt oS (fun e => by have e2 : w.heap.size = gv := e; omega) hbv
        have hN6 := HB5.out.2.only hp5.lt oS (fun e => by have e2 : w1.heap.size = gv := e; omega) hbv
        have hX6 := HBX.out.only hp5.lt oS (fun e => by have e2 : w4.heap.size = gv := e; omega) hbv
        have hgK := (HR4.out.2 g rfl).2
        have hgK2 := (HRW.out.2 g rfl).2
        have row6 := (HR4.out.1.only HO5.out (fun _ _ => fun q => q)).only oS (fun j hj e => by have e2 : g = j := Option.some.inj hj; have e3 : j = gv := e; omega)
        have hap6 := (HR4.out.2.later HO5.out.size (HO5.out.block b HP4.out.lt (fun q => q))).later oS.size (oS.block b hp5.lt hbv)
        have hS6 := (HS4.out.trans (PStep.still HP4.out.lt HO5.out)).fresh hpw oS (fun j e => by have e3 : j = gv := e; omega)
        have own6 : (((w4.alloc (.cells #[.slice (some ⟨gv, 0, none⟩) nV cV, .bool true, .bool true] 248)).setCell ⟨gv, 0, none⟩ (str k.key)).drew).ownsRow 0 185 2 (.slice (some ⟨gv, 0, none⟩) (one :: xs).length cV) (setHead k.key (one :: xs)).length ((setHead k.key (one :: xs)).flatMap kidC) := HSET.out.drew
        have hsw := TSwap_own _ _ kids (setHead k.key (one :: xs)) at_ _ row6.row hfl (by simp [setHead]) own6 (by omega) (by rw [setHead_length]; have := hr3; simp only [List.length_cons] at this ⊢; omega)
        rw [← HNV2.out] at hsw
        have HSW := Lib.hid hsw
        clear hsw
        have f0 := heap_cell hX6.1 0
        have f1 := heap_cell hX6.1 1
        have n3 := heap_cell hN6.1 3
        simp only [List.getElem?_toArray, List.getElem?_cons_zero, List.getElem?_cons_succ] at f0 f1 n3
        have H6 := Lib.hid (And.intro hp6 (And.intro hR6 (And.intro hN6 (And.intro hX6 (And.intro row6 (And.intro hap6 (And.intro hS6 own6)))))))
        clear oS hbv hp5 hpo5 hp6 hR6 hN6 hX6 hgK hgK2 row6 hap6 hS6 own6
        generalize (((w4.alloc (.cells #[.slice (some ⟨gv, 0, none⟩) nV cV, .bool true, .bool true] 248)).setCell ⟨gv, 0, none⟩ (str k.key)).drew) = w6 at *
        go_wp2_with fail
        (with_reducible refine HSW.out.mono ?_)
        rintro e w7 ⟨v7, rfl, own7, o7, new7⟩
        obtain ⟨hp6, hR6, hN6, hX6, row6, hap6, hS6, own6⟩ := H6.out
        have hb6 := hp6.lt
        have f0 := heap_cell (hX6.still hb6 o7).1 0
        have f1 := heap_cell (hX6.still hb6 o7).1 1
        have n3 := heap_cell (hN6.still hb6 o7).1 3
        simp only [List.getElem?_toArray, List.getElem?_cons_zero, List.getElem?_cons_succ] at f0 f1 n3
        have hRlt := hR6.lt
        have hsS := hS6.only.size
        have hap7 := hap6.later o7.size (o7.block b hb6 (fun q => q))
        have row7 := row6.only o7 (fun _ _ => fun q => q)
        have own7v := own_only own6 o7 (fun _ _ => fun q => q)
        have x0 := own_cell own7v 0 (str k.key) rfl
        have x1 := own_cell own7v 1 (.int .i64 one.page) rfl
        have hdr : Only (fun _ => False) w7 w7.drew := (Only.refl _ w7).drew
        have hp7 := hp6.still o7
        have hap8 := hap7.later hdr.size (hdr.block b hp7.lt (fun q => q))
        have HJ := Lib.hid (tjoin_is w7.drew b p1 p2 kids l2 at_ ⟨k.key, one.page⟩ (depth + 1) (.slice (some ⟨g, off, none⟩) kids.length c1) (hp7.still hdr) (row7.only hdr (fun _ _ => fun q => q)) hap8 ok.1 hkl (by
          have h1 := hone
          simp only [okKid, decide_eq_true_eq] at h1 ⊢
          omega) hfl (by omega) (by omega) (by omega) (by omega) hj)
        have HT := Lib.hid (And.intro (hR6.still hb6 o7) (And.intro (hS6.trans (PStep.still hb6 o7)) (And.intro hp7 hdr)))
        have hw10 : IntKind.i64.wrap (depth + 1) = depth + 1 := by exact IntWalk.i64_in _ (by omega)
        have hs67 := o7.size
        have HQ : Hid (sizeL l2 ≤ 392 ∧ p2.L.length + 2 ≤ 3998 ∧ id < (p2.L.length + 2 : Nat) ∧ p2.given.length < 1000000) := Lib.hid ⟨hj1, by omega, by omega, by omega⟩
        have HD := Lib.hid hD
        clear own7 o7 new7 hp6 hR6 hN6 hX6 row6 hap6 hS6 own6 hb6 H6 HSW hap7 row7 own7v hdr hp7 hap8 hj hj1 hD hone HCASE
        unfold pagesV at HJ
        go_wp2_with fail
        go_region_with (go_at_call 200; refine HJ.out.mono ?_; rintro e w8 ⟨V8, rfl, hkr8, hp8, st8⟩)
        all_goals
          obtain ⟨hR7, hS7, hp7, hdr⟩ := HT.out
          have hR8 := (hR7.still hp7.lt hdr).step st8
          have hsd := hdr.size
          have hR7l := hR7.lt
          have HL := Lib.hid (And.intro hkr8.own (And.intro (fun j (hj : V8.ownBlock = some j) => (⟨by have := (hkr8.far j hj).1; omega, (hkr8.far j hj).2, by have := (hkr8.far j hj).1; omega⟩ : w.heap.size ≤ j ∧ ¬ pown w8 b j ∧ j ≠ w.heap.size)) (And.intro hp8 (And.intro ((hS7.trans (PStep.still hp7.lt hdr)).trans st8) hR8))))
          clear hR7 hS7 hp7 hdr hR8 hsd hR7l hkr8 hp8 st8 HJ HT x0 x1 f0 f1 n3
          generalize l2 = LL at *
          obtain ⟨aL, cL, rfl⟩ := ownsRow_form HL.out.1
          generalize hnL : LL.length = nL at *
          rcases HD.out with ⟨h1, rfl, rfl⟩ | ⟨h2, wk, htw, rfl⟩
          · obtain rfl : nL = 1 := by rw [← hnL]; exact h1
            have oI : Only (fun _ => False) w8 (w8.alloc (.cells #[.int .i64 id] 3)) := (Only.refl _ w8).alloc _
            have hnw := Blk.new HL.out.2.2.1 #[.int .i64 id] 3
            have HF := Lib.hid (PFree_is (w8.alloc (.cells #[.int .i64 id] 3)) b p2 id (.slice (some ⟨w8.heap.size, 0, none⟩) 1 1) (HL.out.2.2.1.still oI) HQ.out.2.2.2 ⟨_, _, _, rfl, heap_cell hnw.1 0, hnw.2⟩)
            have HLL := Lib.hid hnL
            have HOI := Lib.hid oI
            clear hnw hnL h1 oI
            go_wp2_with fail
            refine HF.out.mono ?_
            rintro e wf ⟨rfl, hpf, stf⟩
            obtain ⟨own, far, hp, st, br⟩ := HL.out
            have hbW := hp.lt
            have hR9 := (br.still hbW HOI.out).step stf
            have hpw2 : ∀ j, pown (w8.alloc (.cells #[.int .i64 id] 3)) b j → pown w8 b j := fun j q => (pown_of_heap (HOI.out.block b hbW (fun q => q)) j).1 q
            have HE := Lib.hid (del_end (r := ⟨LL, true, true⟩) (V := .slice aL 1 cL) hpw hR9.1 (Nat.le_refl _) hR9.2 ⟨(by have e : LL.length = 1 := HLL.out; show World.ownsRow _ 0 _ 2 _ LL.length _; rw [e]; exact own_only (own_only own HOI.out (fun _ _ => fun q => q)) stf.only (fun j hj q => (far j hj).2.1 (hpw2 j q))), fun j hj => ⟨(far j hj).1, fun q => (stf.own j q).elim (fun q => (far j hj).2.1 (hpw2 j q)) (fun q => by have := (own.lt j hj).2; have := HOI.out.size; omega)⟩⟩ (fun q => (far _ q).2.2 rfl) hpf (st.trans ((PStep.still hbW HOI.out).trans stf)))
            have c0 := heap_cell hR9.1 0
            have c1' := heap_cell hR9.1 1
            have c2 := heap_cell hR9.1 2
            have z0 := heap_frozen hR9.1 0
            have z1 := heap_frozen hR9.1 1
            have z2 := heap_frozen hR9.1 2
            simp only [List.getElem?_toArray, List.getElem?_cons_zero, List.getElem?_cons_succ] at c0 c1' c2
            clear hR9
            clear own far hp st br hbW hpw2 hpf stf HF
            go_wp2_with fail
            obtain ⟨hkr, hp, st, hh⟩ := HE.out
            unfold three at hkr hp st hh
            have q0 := heap_cell hh 0
            have q1 := heap_cell hh 1
            have q2 := heap_cell hh 2
            simp only [List.getElem?_toArray, List.getElem?_cons_zero, List.getElem?_cons_succ] at q0 q1 q2
            exact bodyPost_ret (v := .tuple #[.agg #[.slice aL 1 cL, .bool true, .bool true], .int .i64 0]) (by simp [results, Tryz.results176, go_sem, q0, q1, q2]) rfl ⟨_, rfl, hkr, hp, st⟩
          · have hrr := twigsP_right htw
            have hne1 : ¬ (nL : Int) = 1 := by omega
            have hcf := cutT_few hrr HQ.out.1
            have hq := HQ.out
            have own := HL.out.1
            rw [← hnL] at own
            have HT := Lib.hid (ttwigs_is w8 b p2 S2 id LL wk (.slice aL nL cL) HL.out.2.2.1 ⟨row_own (enc := kidC) (k := 2) (fun _ => rfl) (by rw [hnL] at own ⊢; exact own), cap_own HL.out.1⟩ hrr (by omega) (by omega) (by omega) (by omega) (by omega) (by omega) htw)
            clear hrr hcf hq own htw h2 hnL
            unfold pagesV at HT
            go_wp2_with fail
            refine HT.out.mono ?_
            rintro e wt ⟨V9, rfl, hkr9, hp9, st9⟩
            obtain ⟨a9, c9, rfl⟩ := ownsRow_form hkr9.own
            obtain ⟨own, far, hp, st, br⟩ := HL.out
            have hR9 := br.step st9
            have hsW := st.only.size
            have hbrl := br.lt
            have HE := Lib.hid (del_end (r := ⟨wk, false, true⟩) hpw hR9.1 (Nat.le_refl _) hR9.2 ⟨hkr9.own, fun j hj => ⟨by have := (hkr9.far j hj).1; omega, (hkr9.far j hj).2⟩⟩ (fun q => by have := (hkr9.far _ q).1; omega) hp9 (st.trans st9))
            have c0 := heap_cell hR9.1 0
            have c1' := heap_cell hR9.1 1
            have c2 := heap_cell hR9.1 2
            have z0 := heap_frozen hR9.1 0
            have z1 := heap_frozen hR9.1 1
            have z2 := heap_frozen hR9.1 2
            simp only [List.getElem?_toArray, List.getElem?_cons_zero, List.getElem?_cons_succ] at c0 c1' c2
            clear hR9
            clear own far hp st br hsW hbrl hkr9 hp9 st9 HT
            go_wp2_with fail
            obtain ⟨hkr, hp, st, hh⟩ := HE.out
            unfold three at hkr hp st hh
            have q0 := heap_cell hh 0
            have q1 := heap_cell hh 1
            have q2 := heap_cell hh 2
            simp only [List.getElem?_toArray, List.getElem?_cons_zero, List.getElem?_cons_succ] at q0 q1 q2
            exact bodyPost_ret (v := .tuple #[.agg #[.slice a9 wk.length c9, .bool false, .bool true], .int .i64 0]) (by simp [results, Tryz.results176, go_sem, q0, q1, q2]) rfl ⟨_, rfl, hkr, hp, st⟩
end Go.Proofs.YtbhiamcmiopnoaaGreatDoor
