/- The law's first call: a tree of one item, what it tells. Conditions: one goroutine. -/
import Derived.Test.YtklccpaphkpgfaaGreatZLook
import Derived.Test.YtklccpaphkpgfaaGreatZLook2
import Derived.Test.YtklccpaphkpgfaaGreatZPlainD
import Derived.Test.YtklccpaphkpgfaaGreatZLight12
import Derived.StillTailTactics
namespace Go.Proofs.YtklccpaphkpgfaaGreat
open Go.RowKit

def oneI : Item := ⟨[97], [49], 0⟩
theorem PStep.new {b : Nat} {w0 w w' : World} (ho : Only (fun _ => False) w0 w) (hb : ∀ k, pown w b k → w0.heap.size ≤ k) (s : PStep b w w') : Only (fun _ => False) w0 w' ∧ ∀ k, pown w' b k → w0.heap.size ≤ k := by
  have hs := ho.size
  refine ⟨ho.trans s.only fun i hi q => by have := hb i q; omega, fun k q => ?_⟩
  rcases s.own k q with q | q
  · exact hb k q
  · omega

theorem wpStill_all {P : Program} {ops : Array Oper} {w : World} {Q : Act → Prop} {a : Act} {o : Oper} {rest : List Oper} (hw : Region.wanted o (yielded ops a.tmps) = true) (h : ∀ K : Act → Prop, (∀ a, wpStill P ops w Q rest a → K a) → o.still P a w K) : wpStill P ops w Q (o :: rest) a := by
  refine wpStill_step (fun K hK => ?_)
  rw [if_pos hw]
  exact h K hK

set_option maxRecDepth 100000 in
set_option maxHeartbeats 1000000 in
theorem alive12_is (w : World) : Calls Tryz.prog 15 #[] w fun e w' => e = .returned (.bool true) ∧ Only (fun _ => False) w w' := by
  have HF := Lib.hid (Fresh_is w)
  obtain ⟨r, p', hput, hpl⟩ := plays_put plays_none (x := oneI) (by decide) (i := 0) (by omega)
  have hpl1 : PlaysTo p' r [oneI] 1 := hpl
  obtain ⟨ids, R, _⟩ := hpl1.rooted
  have hst := hpl1.stop
  have HPL := Lib.hid (And.intro hput (And.intro hpl1 R))
  clear hput hpl hpl1 R
  go_enter Tryz.func15, Tryz.ntmps15
  go_wp2_with fail
  refine HF.out.mono ?_
  rintro e w1 ⟨rfl, hp1, o1, hpw1⟩
  generalize hb : w.heap.size = b at *
  have HPUT := Lib.hid (tPut_is w1 b noPages p' 0 r [] [] oneI 0 hp1 (by decide) .none (by decide) (by simp) (by omega) (by simp [noPages]) (by simp [noPages]) HPL.out.1)
  have HO1 := Lib.hid (And.intro o1 hpw1)
  have HB := Lib.hid hb
  clear hp1 o1 hpw1 HF hb
  unfold pagesV itemV itemC oneI at HPUT
  simp only [str] at HPUT
  go_wp2_with fail
  refine HPUT.out.mono ?_
  rintro e w2 ⟨rfl, hp2, st2⟩
  have HIT := Lib.hid (tItems_is w2 b p' r [oneI] ids [] 10 hp2 HPL.out.2.2 (by omega) (by decide) (by omega))
  have HS2 := Lib.hid st2
  clear hp2 st2 HPUT
  unfold pagesV ItemsTold at HIT
  simp only [str] at HIT
  go_wp2_with fail
  refine HIT.out.mono ?_
  rintro e w3 ⟨v3, rfl, hr3, ha3, hp3, st3, hn3⟩
  rw [fromL_nil_key, show ([oneI] : List Item).take (10 : Int).toNat = [oneI] from rfl] at hr3
  obtain ⟨a3, n3, c3, rfl⟩ := capOk_form hr3.cap
  obtain ⟨rfl, hsh⟩ := row_shape hr3.row
  obtain ⟨g, off, rfl⟩ := hsh (by simp)
  have HS3 := Lib.hid (HS2.out.trans st3)
  have HR3 := Lib.hid (And.intro hr3 ha3)
  have HDP := Lib.hid (tDepth_is w3 b p' r [oneI] ids hp3 HPL.out.2.2 (by omega) (by decide))
  clear hr3 ha3 hp3 st3 hn3 HS2 HIT hsh
  unfold pagesV DepthEnds at HDP
  simp only [List.length_singleton] at *
  go_wp2_with fail
  refine HDP.out.mono ?_
  rintro e w4 ⟨D, rfl, _, hD, hp4, st4⟩
  obtain ⟨n, rfl, hn⟩ := hD (by simp)
  have hn0 : n = 0 := by
    apply Classical.byContradiction
    intro q
    have := Nat.pow_le_pow_right (n := 2) (by omega) (show 1 ≤ n by omega)
    omega
  subst hn0
  have HS4 := Lib.hid (HS3.out.trans st4)
  have HR4 := Lib.hid (And.intro (HR3.out.1.step HR3.out.2 st4) (HR3.out.2.step st4))
  have HGT := Lib.hid (tGet_is w4 b p' r [oneI] ids [97] hp4 HPL.out.2.2 (by omega) (by decide))
  clear hn hD hp4 st4 HS3 HR3 HDP
  unfold pagesV GetEnds at HGT
  rw [show findItem [oneI] [97] = some oneI by decide +kernel] at HGT
  unfold itemOr itemV itemC oneI at HGT
  simp only [str, Option.isSome_some] at HGT
  go_wp2_with fail
  refine HGT.out.mono ?_
  rintro e w5 ⟨rfl, hp5, st5⟩
  have o6 := (Only.refl (fun _ => False) w5).alloc (.cells #[.string ⟨#[97]⟩, .string ⟨#[49]⟩, .int .i64 0] 29)
  have hX := heap_alloc_new w5 (.cells #[.string ⟨#[97]⟩, .string ⟨#[49]⟩, .int .i64 0] 29)
  have hr5 := row_only (HR4.out.1.step HR4.out.2 st5).row o6 (fun _ _ => id)
  obtain ⟨g', off', he, r0, r1, r2⟩ := row_item (k := 0) (x := oneI) hr5 rfl
  cases he
  have x0 := heap_cell hX 0
  have x1 := heap_cell hX 1
  have x2 := heap_cell hX 2
  simp only [List.getElem?_toArray, List.getElem?_cons_zero, List.getElem?_cons_succ] at x0 x1 x2
  simp only [oneI, str, Nat.zero_mul, Nat.add_zero] at r0 r1 r2
  have heq : ∀ W, (binOp .eql 29 (.agg #[.string ⟨#[97]⟩, .string ⟨#[49]⟩, .int .i64 0]) (.agg #[.string ⟨#[97]⟩, .string ⟨#[49]⟩, .int .i64 0])).run Tryz.prog W = .ok (.bool true) W := fun W => eql_same [97] [49] 0 W
  have hp6 := hp5.still o6
  have HS6 := Lib.hid ((HS4.out.trans st5).trans (PStep.still hp5.lt o6))
  have HCK : Hid (∀ W, PagesAt W b p' → Calls Tryz.prog 24 #[pagesV b, .int .i64 r] W fun e w' => e = .returned (.int .i64 0) ∧ PagesAt w' b p' ∧ PStep b W w') := Lib.hid (fun W hW => tCheck_is W b p' r [oneI] ids hW HPL.out.2.2 (by omega) (by decide))
  have HP6 := Lib.hid (hp6.still (Only.refl _ _).drew)
  clear hX hr5 hp5 st5 hp6 HGT HS4 HR4 o6
  unfold pagesV at HCK
  go_wp2_with fail
  generalize hW6 : w5.alloc (.cells #[.string ⟨#[97]⟩, .string ⟨#[49]⟩, .int .i64 0] 29) = w6 at *
  clear hW6
  refine wp_region_still_tail 44 (by kernel_rfl) (by kernel_rfl) ?_
  simp only [List.take_succ_cons, List.take_zero, List.drop_succ_cons, List.drop_zero]
  repeat (refine wpStill_all (by kernel_rfl) (fun K hK => ?_); go_simp; refine hK _ ?_; clear hK K)
  refine wpStill_nil ?_
  change wpList _ _ _ _ _ w6.drew
  go_wp2_with fail
  refine (HCK.out _ HP6.out).mono ?_
  rintro e w7 ⟨rfl, hp7, st7⟩
  go_wp2_with fail
  go_ret
  have hst := HS6.out.trans ((PStep.still (w := w6) HP6.out.lt (Only.refl _ w6).drew).trans st7)
  exact ⟨rfl, (PStep.new HO1.out.1 (fun k q => by have := HO1.out.2 k q; have := HB.out; omega) hst).1⟩
end Go.Proofs.YtklccpaphkpgfaaGreat
