/- The law's question: has a tree just these items, and is it sound. Conditions: one goroutine; the pages hold the tree of just these items; they are at most 250. (Printed by wip/gen/same12.py.) -/
import Derived.Test.YtcjaokmodicikaaZLook
import Derived.Test.YtcjaokmodicikaaZLook2
import Derived.Test.YtcjaokmodicikaaZSame
import Derived.Test.YtcjaokmodicikaaZPlainD
namespace Go.Proofs.Ytcjaokmodicikaa
open Go.RowKit

/-- Three rows of items beside the pages. -/
structure Tri (w : World) (b : Nat) (v va vs : Value) (l m : List Item) : Prop where
  r1 : RowC itemC 3 w v l
  a1 : Apart w b v
  r2 : RowC itemC 3 w va l
  a2 : Apart w b va
  r3 : RowC itemC 3 w vs m
  a3 : Apart w b vs
theorem Tri.step {w w' : World} {b : Nat} {v va vs : Value} {l m : List Item} (h : Tri w b v va vs l m) (s : PStep b w w') : Tri w' b v va vs l m :=
  ⟨h.r1.step h.a1 s, h.a1.step s, h.r2.step h.a2 s, h.a2.step s, h.r3.step h.a3 s, h.a3.step s⟩
theorem neq_same12 (a b : Bytes) (n : Int) (w : World) : (binOp .neq 35 (.agg #[.string ⟨a.toArray⟩, .string ⟨b.toArray⟩, .int .i64 n]) (.agg #[.string ⟨a.toArray⟩, .string ⟨b.toArray⟩, .int .i64 n])).run Try.prog w = .ok (.bool false) w := by
  simp [go_sem]
/-- How deep a tree may be, beside how many items it has. -/
theorem depth_bits {l : List Item} {D : Nat} {root : Int} {L : List Node} {ids : List Int} (R : Rooted L root l ids) (h0 : l = [] → D = 0) (h1 : l ≠ [] → ∃ n, D = n + 1 ∧ 2 ^ n ≤ l.length) :
    D ≤ bitsOf l.length + 1 ∧ D ≤ bitsOf l.length ∧ ((l.length = 0 ∧ D = 0 ∧ root = 0) ∨ (0 < l.length ∧ 0 < D ∧ root ≠ 0)) := by
  by_cases hl : l = []
  · have := h0 hl
    refine ⟨by omega, by omega, .inl ⟨by rw [hl]; rfl, this, R.zero.2 hl⟩⟩
  · obtain ⟨n, rfl, hn⟩ := h1 hl
    have h2 := bitsOf_min hn
    exact ⟨by omega, h2, .inr ⟨List.length_pos_iff.2 hl, by omega, fun q => hl (R.zero.1 q)⟩⟩

/-- How the law's question ends. -/
def SameEnds (w : World) (b : Nat) (S : PSt) : Ending → World → Prop := fun e w' => e = .returned (.bool true) ∧ PagesAt w' b S ∧ PStep b w w'

set_option maxRecDepth 100000 in
set_option maxHeartbeats 8000000 in
theorem same12_is (w : World) (b : Nat) (S : PSt) (root : Int) (l : List Item) (ids : List Int) (v : Value) (key : Bytes) (most : Int) (h : PagesAt w b S) (R : Rooted S.L root l ids) (hs : S.stop < 0) (hr : RowC itemC 3 w v l) (ha : Apart w b v) (hris : Rising l) (hl : l.length ≤ 250) :
    Calls Try.prog 28 #[.pointer (some ⟨b, 0, none⟩), .int .i64 root, v, str key, .int .i64 most] w (SameEnds w b S) := by
  obtain ⟨a, c, rfl⟩ := row_form hr.row
  have hlen : l.length < 2 ^ 11 := by omega
  obtain ⟨mm, hmm⟩ : ∃ mm, min most 1000 = mm := ⟨_, rfl⟩
  have hmm1 : mm ≤ 1000 := by omega
  have HIT1 := Lib.hid (tItems_is w b S root l ids [] 1000 h R hs hlen (by omega))
  have HR := Lib.hid (And.intro hr ha)
  have HRT := Lib.hid (And.intro R hris)
  clear h R hr ha hris
  unfold pagesV ItemsTold at HIT1
  go_enter Try.func28, Try.ntmps28
  go_wp2_with fail
  refine HIT1.out.mono ?_
  rintro e w1 ⟨va, rfl, ra, aa, hp1, st1, _⟩
  rw [fromL_nil_key, List.take_of_length_le (by show l.length ≤ 1000; omega)] at ra
  obtain ⟨aA, cA, rfl⟩ := row_form ra.row
  have HRA := Lib.hid (And.intro ra aa)
  have HIT2 := Lib.hid (tItems_is w1 b S root l ids key mm hp1 HRT.out.1 hs hlen hmm1)
  have HS1 := Lib.hid st1
  clear ra aa hp1 st1 HIT1
  unfold pagesV ItemsTold at HIT2
  go_wp2_with fail
  refine HIT2.out.mono ?_
  rintro e w2 ⟨vs, rfl, rs, as_, hp2, st2, _⟩
  obtain ⟨aS, nS, cS, rfl⟩ := capOk_form rs.cap
  have HT2 := Lib.hid (Tri.mk ((HR.out.1.step HR.out.2 HS1.out).step (HR.out.2.step HS1.out) st2) ((HR.out.2.step HS1.out).step st2) (HRA.out.1.step HRA.out.2 st2) (HRA.out.2.step st2) rs as_)
  have HS2 := Lib.hid (HS1.out.trans st2)
  have HDP := Lib.hid (tDepth_is w2 b S root l ids hp2 HRT.out.1 hs hlen)
  clear rs as_ hp2 st2 HIT2 HS1 HR HRA
  unfold pagesV DepthEnds at HDP
  go_wp2_with fail
  refine HDP.out.mono ?_
  rintro e w3 ⟨D, rfl, hD0, hD1, hp3, st3⟩
  have HDB := Lib.hid (depth_bits HRT.out.1 hD0 hD1)
  have HT3 := Lib.hid (HT2.out.step st3)
  have HS3 := Lib.hid (HS2.out.trans st3)
  have HGT := Lib.hid (tGet_is w3 b S root l ids key hp3 HRT.out.1 hs hlen)
  have hfi := findItem_at l key
  have hle := findAt_le l key
  clear hD0 hD1 hp3 st3 HDP HT2 HS2
  unfold pagesV GetEnds at HGT
  have HFR : Hid (fromL l key = l.drop (findAt l key)) := Lib.hid (fromL_drop HRT.out.2 key)
  have HFA : Hid (∀ W : World, RowC itemC 3 W (.slice a l.length c) l → Calls Try.prog 49 #[.slice a l.length c, str key, .int .i64 1] W (FromEnds W (.slice a l.length c) ((l.drop (findAt l key)).take 1))) := Lib.hid (fun W hW => from_is W _ l key 1 1 hW HRT.out.2 (by omega) (by omega) rfl)
  have HFB : Hid (∀ W : World, RowC itemC 3 W (.slice a l.length c) l → Calls Try.prog 49 #[.slice a l.length c, str key, .int .i64 mm] W (FromEnds W (.slice a l.length c) ((l.drop (findAt l key)).take mm.toNat))) := Lib.hid (fun W hW => from_is W _ l key mm mm.toNat hW HRT.out.2 (by omega) hmm1 rfl)
  have HCK : Hid (∀ W : World, PagesAt W b S → Calls Try.prog 33 #[pagesV b, .int .i64 root] W fun e w' => e = .returned (.int .i64 0) ∧ PagesAt w' b S ∧ PStep b W w') := Lib.hid (fun W hW => tCheck_is W b S root l ids hW HRT.out.1 hs hlen)
  unfold FromEnds at HFA HFB
  unfold pagesV at HCK
  cases hat : isAt l key with
  | true =>
    have hk : findAt l key < l.length := by
      unfold isAt at hat
      apply Classical.byContradiction
      intro q
      rw [List.getElem?_eq_none (by omega)] at hat
      cases hat
    obtain ⟨x, hx⟩ : ∃ x, l[findAt l key]? = some x := ⟨_, List.getElem?_eq_getElem hk⟩
    have hxk : x.key = key := by
      unfold isAt at hat
      rw [hx] at hat
      simpa using hat
    have hfx : findItem l key = some x := by rw [hfi, hat, if_pos rfl, hx]
    have hw1x : (l.drop (findAt l key)).take 1 = [x] := by
      rw [List.drop_eq_getElem_cons hk, List.take_succ_cons, List.take_zero, (List.getElem?_eq_some_iff.1 hx).2]
    rw [hfx] at HGT
    rw [hw1x] at HFA
    have hbe : (key == key) = true := by simp
    have hne := neq_same12 key x.val x.kind
    clear hfi hat hfx hw1x
    rw [show itemOr (some x) = .agg #[str key, str x.val, .int .i64 x.kind] by rw [← hxk]; rfl] at HGT
    simp only [Option.isSome_some] at HGT
    go_wp2_with fail
    refine HGT.out.mono ?_
    rintro e w4 ⟨rfl, hp4, st4⟩
    have o5 := (Only.refl (fun _ => False) w4).alloc (.cells #[str key, str x.val, .int .i64 x.kind] 35)
    have hX := heap_alloc_new w4 (.cells #[str key, str x.val, .int .i64 x.kind] 35)
    have HX := Lib.hid hX
    have HP5 := Lib.hid (hp4.still o5)
    have HS5 := Lib.hid ((HS3.out.trans st4).trans (PStep.still hp4.lt o5))
    have HT5 := Lib.hid ((HT3.out.step st4).step (PStep.still hp4.lt o5))
    clear hX o5 hp4 st4 HGT HS3 HT3
    go_wp2_with fail
    generalize hW5 : w4.alloc (.cells #[str key, str x.val, .int .i64 x.kind] 35) = w5 at *
    generalize hxb : w4.heap.size = xb at *
    clear hW5 hxb
    refine (HFA.out _ HT5.out.r1).mono ?_
    rintro e w6 ⟨vw, rfl, rw_, o6, _⟩
    obtain ⟨aW, cW, rfl⟩ := row_form rw_
    obtain ⟨g, off, rfl⟩ := (row_shape rw_).2 (by simp)
    obtain ⟨g', off', he, r0, r1, r2⟩ := row_item (k := 0) rw_ rfl
    cases he
    simp only [Nat.zero_mul, Nat.add_zero] at r0 r1 r2
    rw [hxk] at r0
    have qw0 : ∀ p : Grew w6, p.u.cell? ⟨g, off, none⟩ = some (str key) := fun p => p.cell r0
    have qw1 : ∀ p : Grew w6, p.u.cell? ⟨g, off + 1, none⟩ = some (str x.val) := fun p => p.cell r1
    have qw2 : ∀ p : Grew w6, p.u.cell? ⟨g, off + 2, none⟩ = some (.int .i64 x.kind) := fun p => p.cell r2
    simp only [List.length_singleton] at *
    have hX6 := (o6.block xb (Array.getElem?_eq_some_iff.1 HX.out).1 id).trans HX.out
    have x0 := heap_cell hX6 0
    have x1 := heap_cell hX6 1
    have x2 := heap_cell hX6 2
    simp only [List.getElem?_toArray, List.getElem?_cons_zero, List.getElem?_cons_succ] at x0 x1 x2
    have HP6 := Lib.hid (HP5.out.still o6)
    have HS6 := Lib.hid (HS5.out.trans (PStep.still HP5.out.lt o6))
    have HT6 := Lib.hid (HT5.out.step (PStep.still HP5.out.lt o6))
    have qx0 : ∀ p : Grew w6, p.u.cell? ⟨xb, 0, none⟩ = some (str key) := fun p => p.cell x0
    have qx1 : ∀ p : Grew w6, p.u.cell? ⟨xb, 1, none⟩ = some (str x.val) := fun p => p.cell x1
    have qx2 : ∀ p : Grew w6, p.u.cell? ⟨xb, 2, none⟩ = some (.int .i64 x.kind) := fun p => p.cell x2
    clear hX6 HX HP5 HS5 HT5 rw_ o6 x0 x1 x2
    go_wp2_with fail
    refine wp_region_grew (by kernel_rfl) (by kernel_rfl) (fun _W h0 h1 => ?_)
    repeat (refine h1 _ _ _ (fun K hK => ?_); go_simp; refine hK _ ?_; clear hK K)
    refine h0 _ (fun p => ?_)
    clear h0 h1 qx0 qx1 qx2 qw0 qw1 qw2
    obtain ⟨w7, hw7⟩ : ∃ w7, p.u = w7 := ⟨_, rfl⟩
    have HP7 := Lib.hid (HP6.out.still p.h)
    have HS7 := Lib.hid (HS6.out.trans (PStep.still HP6.out.lt p.h))
    have HT7 := Lib.hid (HT6.out.step (PStep.still HP6.out.lt p.h))
    rw [hw7] at *
    clear hw7 p HP6 HS6 HT6
    have HSA := Lib.hid (SameI_is w7 _ _ l HT7.out.r2.row HT7.out.r1.row (by omega))
    go_wp2_with fail
    refine HSA.out.mono ?_
    rintro e w8 ⟨rfl, o8⟩
    have HP8 := Lib.hid (HP7.out.still o8)
    have HS8 := Lib.hid (HS7.out.trans (PStep.still HP7.out.lt o8))
    have HT8 := Lib.hid (HT7.out.step (PStep.still HP7.out.lt o8))
    clear o8 HSA HP7 HS7 HT7
    go_wp2_with fail
    refine (HFB.out _ HT8.out.r1).mono ?_
    rintro e w9 ⟨vf, rfl, rf, o9, _⟩
    have HP9 := Lib.hid (HP8.out.still o9)
    have HS9 := Lib.hid (HS8.out.trans (PStep.still HP8.out.lt o9))
    have HT9 := Lib.hid (HT8.out.step (PStep.still HP8.out.lt o9))
    have HSB := Lib.hid (SameI_is w9 _ _ _ HT9.out.r3.row (by rw [HFR.out]; exact rf) (by rw [List.length_take]; have := fromL_length l key; omega))
    obtain ⟨aF, cF, rfl⟩ := row_form rf
    generalize hFL : ((l.drop (findAt l key)).take mm.toNat).length = nF at *
    clear hFL rf o9 HP8 HS8 HT8
    go_wp2_with fail
    refine HSB.out.mono ?_
    rintro e w10 ⟨rfl, o10⟩
    have HP10 := Lib.hid (HP9.out.still o10)
    have HS10 := Lib.hid (HS9.out.trans (PStep.still HP9.out.lt o10))
    clear o10 HP9 HS9 HT9 HSB
    go_wp2_with fail
    refine (HCK.out _ HP10.out).mono ?_
    rintro e w11 ⟨rfl, hp11, st11⟩
    have HP11 := Lib.hid hp11
    have HS11 := Lib.hid (HS10.out.trans st11)
    have HBT := Lib.hid (bits_is w11 l.length (by omega))
    clear hp11 st11 HP10 HS10
    go_wp2_with fail
    refine HBT.out.mono ?_
    rintro e w12 ⟨rfl, o12⟩
    have HFIN := Lib.hid (And.intro (HP11.out.still o12) (HS11.out.trans (PStep.still HP11.out.lt o12)))
    obtain ⟨hb1, hb2, hb3⟩ := HDB.out
    have hbw : bitsOf l.length ≤ 11 := bitsOf_le hlen
    have hw9 : IntKind.i64.wrap ((bitsOf l.length : Int) + 1) = (bitsOf l.length : Int) + 1 := by exact IntWalk.i64_in _ (by omega)
    have hb5 : (D : Int) ≤ (bitsOf l.length : Int) + 1 := by omega
    clear HBT HP11 HS11 HDB hb1 hb2 hlen hbw HFA HFB HCK
    generalize bitsOf l.length = bt at *
    rcases hb3 with ⟨z1, z2, z3⟩ | ⟨z1, z2, z3⟩
    · have y1 : (l.length : Int) = 0 := by omega
      have y2 : (D : Int) = 0 := by omega
      generalize l.length = L at *
      subst z1 z2 z3
      go_wp2_with fail
      all_goals go_ret
      all_goals exact ⟨rfl, HFIN.out⟩
    · have y1 : ¬ (l.length : Int) = 0 := by omega
      have y2 : ¬ (D : Int) = 0 := by omega
      have y3 : ¬ l.length = 0 := by omega
      have y4 : ¬ D = 0 := by omega
      have y5 : ¬ l = [] := fun q => y3 (by rw [q]; rfl)
      have y6 : (root == 0) = false := by simpa using z3
      have y7 : ((l.length : Int) == 0) = false := by simpa using y3
      have y8 : ((D : Int) == 0) = false := by simpa using y4
      go_wp2_with fail
      all_goals go_ret
      all_goals exact ⟨rfl, HFIN.out⟩
  | false =>
    have hfx : findItem l key = none := by rw [hfi, hat]; rfl
    rw [hfx] at HGT
    have hne := neq_same12 [] [] 0
    rw [show itemOr none = .agg #[str [], str [], .int .i64 0] from rfl] at HGT
    simp only [Option.isSome_none] at HGT
    by_cases hk : findAt l key < l.length
    · obtain ⟨x, hx⟩ : ∃ x, l[findAt l key]? = some x := ⟨_, List.getElem?_eq_getElem hk⟩
      have hbe : (x.key == key) = false := by
        unfold isAt at hat
        rw [hx] at hat
        exact hat
      have hw1x : (l.drop (findAt l key)).take 1 = [x] := by
        rw [List.drop_eq_getElem_cons hk, List.take_succ_cons, List.take_zero, (List.getElem?_eq_some_iff.1 hx).2]
      rw [hw1x] at HFA
      clear hfi hat hfx hw1x
      go_wp2_with fail
      refine HGT.out.mono ?_
      rintro e w4 ⟨rfl, hp4, st4⟩
      have o5 := (Only.refl (fun _ => False) w4).alloc (.cells #[str [], str [], .int .i64 0] 35)
      have hX := heap_alloc_new w4 (.cells #[str [], str [], .int .i64 0] 35)
      have HX := Lib.hid hX
      have HP5 := Lib.hid (hp4.still o5)
      have HS5 := Lib.hid ((HS3.out.trans st4).trans (PStep.still hp4.lt o5))
      have HT5 := Lib.hid ((HT3.out.step st4).step (PStep.still hp4.lt o5))
      clear hX o5 hp4 st4 HGT HS3 HT3
      go_wp2_with fail
      generalize hW5 : w4.alloc (.cells #[str [], str [], .int .i64 0] 35) = w5 at *
      generalize hxb : w4.heap.size = xb at *
      clear hW5 hxb
      refine (HFA.out _ HT5.out.r1).mono ?_
      rintro e w6 ⟨vw, rfl, rw_, o6, _⟩
      obtain ⟨aW, cW, rfl⟩ := row_form rw_
      obtain ⟨g, off, rfl⟩ := (row_shape rw_).2 (by simp)
      obtain ⟨g', off', he, r0, r1, r2⟩ := row_item (k := 0) rw_ rfl
      cases he
      simp only [Nat.zero_mul, Nat.add_zero] at r0 r1 r2
      have qw0 : ∀ p : Grew w6, p.u.cell? ⟨g, off, none⟩ = some (str x.key) := fun p => p.cell r0
      have qw1 : ∀ p : Grew w6, p.u.cell? ⟨g, off + 1, none⟩ = some (str x.val) := fun p => p.cell r1
      have qw2 : ∀ p : Grew w6, p.u.cell? ⟨g, off + 2, none⟩ = some (.int .i64 x.kind) := fun p => p.cell r2
      simp only [List.length_singleton] at *
      have hX6 := (o6.block xb (Array.getElem?_eq_some_iff.1 HX.out).1 id).trans HX.out
      have x0 := heap_cell hX6 0
      have x1 := heap_cell hX6 1
      have x2 := heap_cell hX6 2
      simp only [List.getElem?_toArray, List.getElem?_cons_zero, List.getElem?_cons_succ] at x0 x1 x2
      have HP6 := Lib.hid (HP5.out.still o6)
      have HS6 := Lib.hid (HS5.out.trans (PStep.still HP5.out.lt o6))
      have HT6 := Lib.hid (HT5.out.step (PStep.still HP5.out.lt o6))
      have qx0 : ∀ p : Grew w6, p.u.cell? ⟨xb, 0, none⟩ = some (str []) := fun p => p.cell x0
      have qx1 : ∀ p : Grew w6, p.u.cell? ⟨xb, 1, none⟩ = some (str []) := fun p => p.cell x1
      have qx2 : ∀ p : Grew w6, p.u.cell? ⟨xb, 2, none⟩ = some (.int .i64 0) := fun p => p.cell x2
      clear hX6 HX HP5 HS5 HT5 rw_ o6 x0 x1 x2
      go_wp2_with fail
      refine wp_region_grew (by kernel_rfl) (by kernel_rfl) (fun _W h0 h1 => ?_)
      repeat (refine h1 _ _ _ (fun K hK => ?_); go_simp; refine hK _ ?_; clear hK K)
      refine h0 _ (fun p => ?_)
      clear h0 h1 qx0 qx1 qx2 qw0 qw1 qw2
      obtain ⟨w7, hw7⟩ : ∃ w7, p.u = w7 := ⟨_, rfl⟩
      have HP7 := Lib.hid (HP6.out.still p.h)
      have HS7 := Lib.hid (HS6.out.trans (PStep.still HP6.out.lt p.h))
      have HT7 := Lib.hid (HT6.out.step (PStep.still HP6.out.lt p.h))
      rw [hw7] at *
      clear hw7 p HP6 HS6 HT6
      have HSA := Lib.hid (SameI_is w7 _ _ l HT7.out.r2.row HT7.out.r1.row (by omega))
      go_wp2_with fail
      refine HSA.out.mono ?_
      rintro e w8 ⟨rfl, o8⟩
      have HP8 := Lib.hid (HP7.out.still o8)
      have HS8 := Lib.hid (HS7.out.trans (PStep.still HP7.out.lt o8))
      have HT8 := Lib.hid (HT7.out.step (PStep.still HP7.out.lt o8))
      clear o8 HSA HP7 HS7 HT7
      go_wp2_with fail
      refine (HFB.out _ HT8.out.r1).mono ?_
      rintro e w9 ⟨vf, rfl, rf, o9, _⟩
      have HP9 := Lib.hid (HP8.out.still o9)
      have HS9 := Lib.hid (HS8.out.trans (PStep.still HP8.out.lt o9))
      have HT9 := Lib.hid (HT8.out.step (PStep.still HP8.out.lt o9))
      have HSB := Lib.hid (SameI_is w9 _ _ _ HT9.out.r3.row (by rw [HFR.out]; exact rf) (by rw [List.length_take]; have := fromL_length l key; omega))
      obtain ⟨aF, cF, rfl⟩ := row_form rf
      generalize hFL : ((l.drop (findAt l key)).take mm.toNat).length = nF at *
      clear hFL rf o9 HP8 HS8 HT8
      go_wp2_with fail
      refine HSB.out.mono ?_
      rintro e w10 ⟨rfl, o10⟩
      have HP10 := Lib.hid (HP9.out.still o10)
      have HS10 := Lib.hid (HS9.out.trans (PStep.still HP9.out.lt o10))
      clear o10 HP9 HS9 HT9 HSB
      go_wp2_with fail
      refine (HCK.out _ HP10.out).mono ?_
      rintro e w11 ⟨rfl, hp11, st11⟩
      have HP11 := Lib.hid hp11
      have HS11 := Lib.hid (HS10.out.trans st11)
      have HBT := Lib.hid (bits_is w11 l.length (by omega))
      clear hp11 st11 HP10 HS10
      go_wp2_with fail
      refine HBT.out.mono ?_
      rintro e w12 ⟨rfl, o12⟩
      have HFIN := Lib.hid (And.intro (HP11.out.still o12) (HS11.out.trans (PStep.still HP11.out.lt o12)))
      obtain ⟨hb1, hb2, hb3⟩ := HDB.out
      have hbw : bitsOf l.length ≤ 11 := bitsOf_le hlen
      have hw9 : IntKind.i64.wrap ((bitsOf l.length : Int) + 1) = (bitsOf l.length : Int) + 1 := by exact IntWalk.i64_in _ (by omega)
      have hb5 : (D : Int) ≤ (bitsOf l.length : Int) + 1 := by omega
      clear HBT HP11 HS11 HDB hb1 hb2 hlen hbw HFA HFB HCK
      generalize bitsOf l.length = bt at *
      rcases hb3 with ⟨z1, z2, z3⟩ | ⟨z1, z2, z3⟩
      · have y1 : (l.length : Int) = 0 := by omega
        have y2 : (D : Int) = 0 := by omega
        generalize l.length = L at *
        subst z1 z2 z3
        go_wp2_with fail
        all_goals go_ret
        all_goals exact ⟨rfl, HFIN.out⟩
      · have y1 : ¬ (l.length : Int) = 0 := by omega
        have y2 : ¬ (D : Int) = 0 := by omega
        have y3 : ¬ l.length = 0 := by omega
        have y4 : ¬ D = 0 := by omega
        have y5 : ¬ l = [] := fun q => y3 (by rw [q]; rfl)
        have y6 : (root == 0) = false := by simpa using z3
        have y7 : ((l.length : Int) == 0) = false := by simpa using y3
        have y8 : ((D : Int) == 0) = false := by simpa using y4
        go_wp2_with fail
        all_goals go_ret
        all_goals exact ⟨rfl, HFIN.out⟩
    · have hw1x : (l.drop (findAt l key)).take 1 = [] := by
        rw [List.drop_eq_nil_of_le (by omega)]
        rfl
      rw [hw1x] at HFA
      clear hfi hat hfx hw1x
      go_wp2_with fail
      refine HGT.out.mono ?_
      rintro e w4 ⟨rfl, hp4, st4⟩
      have o5 := (Only.refl (fun _ => False) w4).alloc (.cells #[str [], str [], .int .i64 0] 35)
      have hX := heap_alloc_new w4 (.cells #[str [], str [], .int .i64 0] 35)
      have HX := Lib.hid hX
      have HP5 := Lib.hid (hp4.still o5)
      have HS5 := Lib.hid ((HS3.out.trans st4).trans (PStep.still hp4.lt o5))
      have HT5 := Lib.hid ((HT3.out.step st4).step (PStep.still hp4.lt o5))
      clear hX o5 hp4 st4 HGT HS3 HT3
      go_wp2_with fail
      generalize hW5 : w4.alloc (.cells #[str [], str [], .int .i64 0] 35) = w5 at *
      generalize hxb : w4.heap.size = xb at *
      clear hW5 hxb
      refine (HFA.out _ HT5.out.r1).mono ?_
      rintro e w6 ⟨vw, rfl, rw_, o6, _⟩
      obtain ⟨aW, cW, rfl⟩ := row_form rw_
      simp only [List.length_nil] at *
      have hX6 := (o6.block xb (Array.getElem?_eq_some_iff.1 HX.out).1 id).trans HX.out
      have x0 := heap_cell hX6 0
      have x1 := heap_cell hX6 1
      have x2 := heap_cell hX6 2
      simp only [List.getElem?_toArray, List.getElem?_cons_zero, List.getElem?_cons_succ] at x0 x1 x2
      have HP6 := Lib.hid (HP5.out.still o6)
      have HS6 := Lib.hid (HS5.out.trans (PStep.still HP5.out.lt o6))
      have HT6 := Lib.hid (HT5.out.step (PStep.still HP5.out.lt o6))
      have qx0 : ∀ p : Grew w6, p.u.cell? ⟨xb, 0, none⟩ = some (str []) := fun p => p.cell x0
      have qx1 : ∀ p : Grew w6, p.u.cell? ⟨xb, 1, none⟩ = some (str []) := fun p => p.cell x1
      have qx2 : ∀ p : Grew w6, p.u.cell? ⟨xb, 2, none⟩ = some (.int .i64 0) := fun p => p.cell x2
      clear hX6 HX HP5 HS5 HT5 rw_ o6 x0 x1 x2
      go_wp2_with fail
      refine wp_region_grew (by kernel_rfl) (by kernel_rfl) (fun _W h0 h1 => ?_)
      repeat (refine h1 _ _ _ (fun K hK => ?_); go_simp; refine hK _ ?_; clear hK K)
      refine h0 _ (fun p => ?_)
      clear h0 h1 qx0 qx1 qx2 
      obtain ⟨w7, hw7⟩ : ∃ w7, p.u = w7 := ⟨_, rfl⟩
      have HP7 := Lib.hid (HP6.out.still p.h)
      have HS7 := Lib.hid (HS6.out.trans (PStep.still HP6.out.lt p.h))
      have HT7 := Lib.hid (HT6.out.step (PStep.still HP6.out.lt p.h))
      rw [hw7] at *
      clear hw7 p HP6 HS6 HT6
      have HSA := Lib.hid (SameI_is w7 _ _ l HT7.out.r2.row HT7.out.r1.row (by omega))
      go_wp2_with fail
      refine HSA.out.mono ?_
      rintro e w8 ⟨rfl, o8⟩
      have HP8 := Lib.hid (HP7.out.still o8)
      have HS8 := Lib.hid (HS7.out.trans (PStep.still HP7.out.lt o8))
      have HT8 := Lib.hid (HT7.out.step (PStep.still HP7.out.lt o8))
      clear o8 HSA HP7 HS7 HT7
      go_wp2_with fail
      refine (HFB.out _ HT8.out.r1).mono ?_
      rintro e w9 ⟨vf, rfl, rf, o9, _⟩
      have HP9 := Lib.hid (HP8.out.still o9)
      have HS9 := Lib.hid (HS8.out.trans (PStep.still HP8.out.lt o9))
      have HT9 := Lib.hid (HT8.out.step (PStep.still HP8.out.lt o9))
      have HSB := Lib.hid (SameI_is w9 _ _ _ HT9.out.r3.row (by rw [HFR.out]; exact rf) (by rw [List.length_take]; have := fromL_length l key; omega))
      obtain ⟨aF, cF, rfl⟩ := row_form rf
      generalize hFL : ((l.drop (findAt l key)).take mm.toNat).length = nF at *
      clear hFL rf o9 HP8 HS8 HT8
      go_wp2_with fail
      refine HSB.out.mono ?_
      rintro e w10 ⟨rfl, o10⟩
      have HP10 := Lib.hid (HP9.out.still o10)
      have HS10 := Lib.hid (HS9.out.trans (PStep.still HP9.out.lt o10))
      clear o10 HP9 HS9 HT9 HSB
      go_wp2_with fail
      refine (HCK.out _ HP10.out).mono ?_
      rintro e w11 ⟨rfl, hp11, st11⟩
      have HP11 := Lib.hid hp11
      have HS11 := Lib.hid (HS10.out.trans st11)
      have HBT := Lib.hid (bits_is w11 l.length (by omega))
      clear hp11 st11 HP10 HS10
      go_wp2_with fail
      refine HBT.out.mono ?_
      rintro e w12 ⟨rfl, o12⟩
      have HFIN := Lib.hid (And.intro (HP11.out.still o12) (HS11.out.trans (PStep.still HP11.out.lt o12)))
      obtain ⟨hb1, hb2, hb3⟩ := HDB.out
      have hbw : bitsOf l.length ≤ 11 := bitsOf_le hlen
      have hw9 : IntKind.i64.wrap ((bitsOf l.length : Int) + 1) = (bitsOf l.length : Int) + 1 := by exact IntWalk.i64_in _ (by omega)
      have hb5 : (D : Int) ≤ (bitsOf l.length : Int) + 1 := by omega
      clear HBT HP11 HS11 HDB hb1 hb2 hlen hbw HFA HFB HCK
      generalize bitsOf l.length = bt at *
      rcases hb3 with ⟨z1, z2, z3⟩ | ⟨z1, z2, z3⟩
      · have y1 : (l.length : Int) = 0 := by omega
        have y2 : (D : Int) = 0 := by omega
        generalize l.length = L at *
        subst z1 z2 z3
        go_wp2_with fail
        all_goals go_ret
        all_goals exact ⟨rfl, HFIN.out⟩
      · have y1 : ¬ (l.length : Int) = 0 := by omega
        have y2 : ¬ (D : Int) = 0 := by omega
        have y3 : ¬ l.length = 0 := by omega
        have y4 : ¬ D = 0 := by omega
        have y5 : ¬ l = [] := fun q => y3 (by rw [q]; rfl)
        have y6 : (root == 0) = false := by simpa using z3
        have y7 : ((l.length : Int) == 0) = false := by simpa using y3
        have y8 : ((D : Int) == 0) = false := by simpa using y4
        go_wp2_with fail
        all_goals go_ret
        all_goals exact ⟨rfl, HFIN.out⟩
end Go.Proofs.Ytcjaokmodicikaa
