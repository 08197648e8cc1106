/- Package tree over the law's pages: an item is put below a page. Conditions: one goroutine; below the page is a tree; there is room for the pages. -/
import Derived.Test.YtklccpaphkpgfaaGreatZTree4
import Derived.Test.YtklccpaphkpgfaaGreatZPlainB
import Derived.Deep.RegionWith
import Derived.BigRegion
namespace Go.Proofs.YtklccpaphkpgfaaGreat
open Go.RowKit

/-- What a put below a page does. -/
def PutDoes (i : Item) (f : Nat) : Prop := ∀ (n : Nat) (S S2 : PSt) (id : Int) (b0 : Bytes) (l : List Item) (ids : List Int) (depth : Int) (ks : List Kid) (w : World) (b : Nat), Tree S.L n id b0 l ids → n < f → 1 ≤ depth → depth + n ≤ 12 → S.stop < 0 → S.L.length + 3 + 2 * n ≤ 3998 → S.given.length + f < 1000000 → PagesAt w b S → putP f S id i depth = (.ok ks, S2) →
    Calls Tryz.prog 86 #[pagesV b, .int .i64 id, itemV i, .int .i64 depth] w fun e w' => ∃ V, e = .returned (.tuple #[V, .int .i64 0]) ∧ KidRow w w' b V ks ∧ PagesAt w' b S2 ∧ PStep b w w'

set_option maxRecDepth 100000 in
set_option maxHeartbeats 4000000 in
theorem tput_leaf (i : Item) (hi : okItem i = true) (f : Nat) (S S2 : PSt) (id : Int) (l : List Item) (depth : Int) (ks : List Kid) (w : World) (b : Nat) (hn : nodeAt S.L id = some (.leaf l)) (ok : okNode (.leaf l)) (hd : depth ≤ 12) (hs : S.stop < 0) (hL : S.L.length + 3 ≤ 3998) (hg : S.given.length + 1 < 1000000) (h : PagesAt w b S) (hk : putP (f + 1) S id i depth = (.ok ks, S2)) :
    Calls Tryz.prog 86 #[pagesV b, .int .i64 id, itemV i, .int .i64 depth] w fun e w' => ∃ V, e = .returned (.tuple #[V, .int .i64 0]) ∧ KidRow w w' b V ks ∧ PagesAt w' b S2 ∧ PStep b w w' := by
  have hid := nodeAt_lt hn
  rw [putP, loadP_is hn (by omega) hs] at hk
  simp only at hk
  have hri := (rightL_iff _).1 ok.1
  have hc := (cost_item hi).2
  have hsz := putL_size l i
  have hpr := putL_right ok.1 hi
  have hcf := cutL_few3 (putL l i) (fun x hx => (cost_item (((rightL_iff _).1 hpr).1 x hx)).1) (by have := ok.2.1; omega)
  have hsl := ok.2.1
  have oW := (Only.refl (fun _ => False) w).alloc (.cells #[str i.key, str i.val, .int .i64 i.kind] 29)
  have hLD := tload_leaf (w.alloc (.cells #[str i.key, str i.val, .int .i64 i.kind] 29)) b S id depth l (h.still oW) hs hn hd (by omega)
  have HLD := Lib.hid hLD
  have hpw := h.lt
  have hWs : (w.alloc (.cells #[str i.key, str i.val, .int .i64 i.kind] 29)).heap.size = w.heap.size + 1 := by simp
  have hRn : ¬ pown (w.alloc (.cells #[str i.key, str i.val, .int .i64 i.kind] 29)) b w.heap.size := fun q => by
    have := pown_lt h ((pown_of_heap (oW.block b h.lt (fun q => q)) _).1 q); omega
  have hR0 := heap_alloc_new w (.cells #[str i.key, str i.val, .int .i64 i.kind] 29)
  have HW0 := Lib.hid (PStep.still h.lt oW)
  have HP := Lib.hid h
  have HK := Lib.hid hk
  have HPR := Lib.hid hpr
  clear hLD h hk hpr
  unfold itemV itemC
  unfold pagesV at HLD ⊢
  go_enter Tryz.func86, Tryz.ntmps86
  go_wp2_with fail
  refine HLD.out.mono ?_
  rintro e w1 ⟨v1, rfl, hrow, hap, hp1, st1⟩
  obtain ⟨a1, n1, c1, rfl⟩ := capOk_form hrow.cap
  have hR1 := (st1.only.block _ (by rw [hWs]; omega) hRn).trans hR0
  have hs1 := st1.only.size
  rw [hWs] at hs1
  have o2 := (Only.refl (fun _ => False) w1).alloc (.cells #[.int .i64 id, .bool true, .slice a1 n1 c1, .slice none 0 0] 170)
  have hR2 := (o2.block _ (by omega) (fun q => q)).trans hR1
  have r0 := heap_cell hR2 0
  have r1 := heap_cell hR2 1
  have r2 := heap_cell hR2 2
  have hrow2 := row_only hrow.row o2 (fun _ _ => fun q => q)
  have HPT := Lib.hid (Put_is _ l i _ hrow2 hri.2 (by have := length_le_size l; omega))
  have HP1 := Lib.hid hp1
  have HS1 := Lib.hid (HW0.out.trans st1)
  have HO2 := Lib.hid o2
  simp only [List.getElem?_toArray, List.getElem?_cons_zero, List.getElem?_cons_succ] at r0 r1 r2
  clear hR1 hR2 hR0 hRn hWs oW hrow hap hp1 st1 o2 hrow2 HLD HW0
  unfold itemV itemC at HPT
  go_wp2_with fail
  refine HPT.out.mono ?_
  rintro e w3 ⟨v3, rfl, hrow3, o3, hnew3⟩
  have HB := HP1.out.still (HO2.out.trans o3 (fun _ _ q => q))
  have hLV := tleaves_is w3 b S S2 id (putL l i) ks v3 HB hrow3 HPR.out (by omega) (by omega) (by omega) hid.2 (by omega) HK.out
  have HLV := Lib.hid hLV
  have HS3 := Lib.hid (HS1.out.trans (PStep.still HP1.out.lt (HO2.out.trans o3 (fun _ _ q => q))))
  clear hLV HB hrow3 o3 hnew3 HPT
  unfold pagesV at HLV
  go_wp2_with fail
  refine HLV.out.mono ?_
  rintro e w4 ⟨V, rfl, hkr, hp4, st4⟩
  have HKR := Lib.hid hkr
  have HP4 := Lib.hid hp4
  have HS4 := Lib.hid (HS3.out.trans st4)
  have hs3 := HS3.out.only.size
  clear hkr hp4 st4
  go_wp2_with fail
  go_ret2
  exact ⟨V, rfl, ⟨HKR.out.own, fun j hj => ⟨by have := (HKR.out.far j hj).1; omega, (HKR.out.far j hj).2⟩⟩, HP4.out, HS4.out⟩
end Go.Proofs.YtklccpaphkpgfaaGreat
