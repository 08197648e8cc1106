/- Package tree over the law's pages: a page is read. Conditions: one goroutine; the page is one that a tree laid; pages are told without a bound. -/
import Derived.Test.YtbhiamcmiopnoaaGreatDoorZPages
namespace Go.Proofs.YtbhiamcmiopnoaaGreatDoor
open Go.RowKit
def pagesV (b : Nat) : Value := .iface 52 (.pointer (some ⟨b, 0, none⟩))
theorem m_Get (n : Nat) (a : Addr) (w : World) : (method (n + 1) 52 (.pointer (some a)) "Get").run Tryz.prog w = .ok (255, .pointer (some a)) w := by kernel_rfl
theorem m_New (n : Nat) (a : Addr) (w : World) : (method (n + 1) 52 (.pointer (some a)) "New").run Tryz.prog w = .ok (257, .pointer (some a)) w := by kernel_rfl
theorem m_Set (n : Nat) (a : Addr) (w : World) : (method (n + 1) 52 (.pointer (some a)) "Set").run Tryz.prog w = .ok (259, .pointer (some a)) w := by kernel_rfl
theorem m_Mine (n : Nat) (a : Addr) (w : World) : (method (n + 1) 52 (.pointer (some a)) "Mine").run Tryz.prog w = .ok (256, .pointer (some a)) w := by kernel_rfl
theorem m_Free (n : Nat) (a : Addr) (w : World) : (method (n + 1) 52 (.pointer (some a)) "Free").run Tryz.prog w = .ok (254, .pointer (some a)) w := by kernel_rfl
theorem nodeAt_mem {L : List Node} {id : Int} {n : Node} (h : nodeAt L id = some n) : n ∈ L := by
  unfold nodeAt at h
  by_cases h2 : 2 ≤ id
  · rw [if_pos h2] at h; exact List.mem_of_getElem? h
  · rw [if_neg h2] at h; cases h
theorem capOk_form {v : Value} (h : CapOk v) : ∃ a n c, v = .slice a n c := by
  cases v <;> first | exact ⟨_, _, _, rfl⟩ | exact h.elim
theorem load_end {w w1 w3 W4 : World} {b N : Nat} {S : PSt} (hP : PagesAt w b S) (hP1 : PagesAt w1 b S) (hS1 : PStep b w w1) (hR : ¬ pown w1 b w.heap.size) (ho : Only (fun _ => False) w1 w3) (hlt : w.heap.size < w1.heap.size) (hN : w1.heap.size ≤ N)
    (oF : Only (fun k => k = N ∨ k = w.heap.size) w3 W4) : PagesAt W4 b S ∧ PStep b w W4 ∧ ∀ v, Apart w3 b v → Apart W4 b v := by
  have hb := hP.lt
  have hb1 := hP1.lt
  have hbT : ¬ (b = N ∨ b = w.heap.size) := by omega
  have hb3 : b < w3.heap.size := Nat.lt_of_lt_of_le hb1 ho.size
  have hown : ∀ k, pown w3 b k → ¬ (k = N ∨ k = w.heap.size) := fun k q e => by
    have q1 := (pown_of_heap (ho.block b hb1 (fun q => q)) k).1 q
    rcases e with e | e
    · have := pown_lt hP1 q1; omega
    · subst e; exact hR q1
  obtain ⟨vL, vG, hI⟩ := hP1.still ho
  exact ⟨⟨vL, vG, hI.beside oF hown⟩, (hS1.trans (PStep.still hb1 ho)).fresh hb oF (fun k q => by omega), fun v hv => hv.later oF.size (oF.block b hb3 hbT)⟩
set_option maxRecDepth 100000 in
set_option maxHeartbeats 1000000 in
theorem tload_leaf (w : World) (b : Nat) (S : PSt) (pg : Int) (depth : Int) (l : List Item) (h : PagesAt w b S) (hs : S.stop < 0) (hn : nodeAt S.L pg = some (.leaf l)) (hd : depth ≤ 12) (hid : pg ≤ 1000000) :
    Calls Tryz.prog 145 #[pagesV b, .int .i64 pg, .int .i64 depth] w fun e w' => ∃ v, e = .returned (.tuple #[.agg #[.int .i64 pg, .bool true, v, .slice none 0 0], .int .i64 0]) ∧ RowC itemC 3 w' v l ∧ Apart w' b v ∧ PagesAt w' b S ∧ PStep b w w' := by
  have hid0 := (nodeAt_lt hn).1
  have hG : ∀ w1, PagesAt w1 b S → Calls Tryz.prog 255 #[.pointer (some ⟨b, 0, none⟩), .int .i64 pg] w1 fun e w' => e = .returned (.tuple #[.agg #[.int .i64 3, .int .i64 pg, .int .i64 0, str (leafB l)], .int .i64 0]) ∧ PagesAt w' b S ∧ PStep b w1 w' := fun w1 h1 => by
    have := PGet_is w1 b S pg h1 (by omega)
    have e : getP S pg = (.ok (.leaf l), S) := by
      rw [getP_is S pg (by omega), hn]
      unfold told
      rw [if_neg (by omega)]
    rw [e] at this
    exact this
  obtain ⟨vL, vG, hp⟩ := h
  have hso := hp.sound _ (nodeAt_mem hn)
  obtain ⟨⟨hr1, hr2, hr3⟩, hne⟩ := hso
  have HRD := Lib.hid (fun W => Read_is l hr1 hr2 hr3 W)
  have h : PagesAt w b S := ⟨vL, vG, hp⟩
  have HG := Lib.hid hG
  clear hp hr1 hr2 hr3
  have HP := Lib.hid h
  clear hG h
  have hm := fun n => m_Get n ⟨b, 0, none⟩
  unfold pagesV
  go_enter Tryz.func145, Tryz.ntmps145
  go_wp2_with fail
  have hblt := HP.out.lt
  have ho := (Only.refl (fun _ => False) w).alloc (.cells #[.int .i64 0, .bool false, .slice none 0 0, .slice none 0 0] 207)
  have hW := HP.out.still ho
  have hS := PStep.still HP.out.lt ho
  have hR := heap_alloc_new w (.cells #[.int .i64 0, .bool false, .slice none 0 0, .slice none 0 0] 207)
  have hRn : ¬ pown (w.alloc (.cells #[.int .i64 0, .bool false, .slice none 0 0, .slice none 0 0] 207)) b w.heap.size := fun q => by
    have := pown_lt HP.out ((pown_of_heap (ho.block b HP.out.lt id) _).1 q); omega
  have hWs : (w.alloc (.cells #[.int .i64 0, .bool false, .slice none 0 0, .slice none 0 0] 207)).heap.size = w.heap.size + 1 := by simp
  (with_reducible refine (HG.out _ hW).mono ?_)
  rintro e w1 ⟨rfl, hp1, st1⟩
  have hs1 := st1.only.size
  rw [hWs] at hs1
  have hRn1 : ¬ pown w1 b w.heap.size := fun q => (st1.own _ q).elim hRn (by omega)
  have hR1 := (st1.only.block _ (by omega) hRn).trans hR
  have HP1 := Lib.hid hp1
  have HS1 := Lib.hid (hS.trans st1)
  clear ho hW hS hR hRn hp1 st1
  go_wp2_with fail
  have o2 := ((Only.refl (fun _ => False) w1).alloc (.cells #[.int .i64 3, .int .i64 pg, .int .i64 0, str (leafB l)] 252)).alloc (.cells #[.int .i64 pg, .bool true, .slice none 0 0, .slice none 0 0] 207)
  have hN := heap_alloc_new (w1.alloc (.cells #[.int .i64 3, .int .i64 pg, .int .i64 0, str (leafB l)] 252)) (.cells #[.int .i64 pg, .bool true, .slice none 0 0, .slice none 0 0] 207)
  have hN1 : (w1.alloc (.cells #[.int .i64 3, .int .i64 pg, .int .i64 0, str (leafB l)] 252)).heap.size = w1.heap.size + 1 := by simp
  have hN2 : ((w1.alloc (.cells #[.int .i64 3, .int .i64 pg, .int .i64 0, str (leafB l)] 252)).alloc (.cells #[.int .i64 pg, .bool true, .slice none 0 0, .slice none 0 0] 207)).heap.size = w1.heap.size + 2 := by simp
  rw [hN1] at hN
  refine (HRD.out _).mono ?_
  rintro e w3 ⟨v, rfl, hrow, o3, hnew⟩
  rw [hN2] at hnew
  obtain ⟨av, nv, cv, rfl⟩ := capOk_form hrow.cap
  have hs3 := o3.size
  rw [hN2] at hs3
  have hsb := HP1.out.lt
  have hsw := HS1.out.only.size
  have hR3 := ((o2.trans o3 (fun _ _ q => q)).block _ (by omega) (fun q => q)).trans hR1
  have hN3 := (o3.block _ (by rw [hN2]; omega) (fun q => q)).trans hN
  have a0 := heap_cell hN3 0
  have a1 := heap_cell hN3 1
  have a2 := heap_cell hN3 2
  have a3 := heap_cell hN3 3
  have b0 := heap_cell hR3 0
  have b1 := heap_cell hR3 1
  have b2 := heap_cell hR3 2
  have b3 := heap_cell hR3 3
  have y2 := heap_frozen hN3 2
  have x0 := heap_frozen hR3 0
  have x1 := heap_frozen hR3 1
  have x2 := heap_frozen hR3 2
  have x3 := heap_frozen hR3 3
  simp only [List.getElem?_toArray, List.getElem?_cons_zero, List.getElem?_cons_succ] at a0 a1 a2 a3 b0 b1 b2 b3
  have HO3 := Lib.hid (o2.trans o3 (fun _ _ q => q))
  have HROW := Lib.hid hrow
  have HNEW := Lib.hid hnew
  clear o2 o3 hN hN1 hN2 hrow hnew
  go_wp2_with fail
  have oF := (((((Only.refl (fun k => k = w1.heap.size + 1 ∨ k = w.heap.size) w3).put (w1.heap.size + 1) 2 (.inl rfl) (.slice av nv cv)).put w.heap.size 0 (.inr rfl) (.int .i64 pg)).put w.heap.size 1 (.inr rfl) (.bool true)).put w.heap.size 2 (.inr rfl) (.slice av nv cv)).put w.heap.size 3 (.inr rfl) (.slice none 0 0)
  obtain ⟨k1, k2, k3⟩ := load_end HP.out HP1.out HS1.out hRn1 HO3.out (by omega) (Nat.le_succ _) oF
  have hq := four_heap (w := w3.setCell ⟨w1.heap.size + 1, 2, none⟩ (.slice av nv cv)) ((Below.heap_setCell _ _ _ _ (by simp only; omega)).trans hR3) (.int .i64 pg) (.bool true) (.slice av nv cv) (.slice none 0 0)
  have g0 := heap_cell hq 0
  have g1 := heap_cell hq 1
  have g2 := heap_cell hq 2
  have g3 := heap_cell hq 3
  unfold four at g0 g1 g2 g3
  refine bodyPost_ret (v := .tuple #[.agg #[.int .i64 pg, .bool true, .slice av nv cv, .slice none 0 0], .int .i64 0]) (by simp [results, Tryz.results145, go_sem, g0, g1, g2, g3]) rfl ⟨_, rfl, HROW.out.only oF (fun j hj q => ?_), k3 _ (Apart.new HP1.out HO3.out (fun j hj => ⟨?_, row_lt HROW.out.row hne (fun _ => rfl) (by omega) j hj⟩)), k1, k2⟩
  · have := HNEW.out j hj
    rcases q with q | q <;> omega
  · have := HNEW.out j hj
    omega
set_option maxRecDepth 100000 in
set_option maxHeartbeats 1000000 in
theorem tload_twig (w : World) (b : Nat) (S : PSt) (pg : Int) (depth : Int) (l : List Kid) (h : PagesAt w b S) (hs : S.stop < 0) (hn : nodeAt S.L pg = some (.twig l)) (hd : depth ≤ 12) (hid : pg ≤ 1000000) :
    Calls Tryz.prog 145 #[pagesV b, .int .i64 pg, .int .i64 depth] w fun e w' => ∃ v, e = .returned (.tuple #[.agg #[.int .i64 pg, .bool false, .slice none 0 0, v], .int .i64 0]) ∧ RowC kidC 2 w' v l ∧ Apart w' b v ∧ PagesAt w' b S ∧ PStep b w w' := by
  have hid0 := (nodeAt_lt hn).1
  have hG : ∀ w1, PagesAt w1 b S → Calls Tryz.prog 255 #[.pointer (some ⟨b, 0, none⟩), .int .i64 pg] w1 fun e w' => e = .returned (.tuple #[.agg #[.int .i64 4, .int .i64 pg, .int .i64 0, str (twigB l)], .int .i64 0]) ∧ PagesAt w' b S ∧ PStep b w1 w' := fun w1 h1 => by
    have := PGet_is w1 b S pg h1 (by omega)
    have e : getP S pg = (.ok (.twig l), S) := by
      rw [getP_is S pg (by omega), hn]
      unfold told
      rw [if_neg (by omega)]
    rw [e] at this
    exact this
  obtain ⟨vL, vG, hp⟩ := h
  have hso := hp.sound _ (nodeAt_mem hn)
  obtain ⟨⟨hr1, hr2, hr3⟩, hne⟩ := hso
  have HRD := Lib.hid (fun W => TRead_is l hne hr1 hr2 hr3 W)
  have h : PagesAt w b S := ⟨vL, vG, hp⟩
  have HG := Lib.hid hG
  clear hp hr1 hr2 hr3
  have HP := Lib.hid h
  clear hG h
  have hm := fun n => m_Get n ⟨b, 0, none⟩
  unfold pagesV
  go_enter Tryz.func145, Tryz.ntmps145
  go_wp2_with fail
  have hblt := HP.out.lt
  have ho := (Only.refl (fun _ => False) w).alloc (.cells #[.int .i64 0, .bool false, .slice none 0 0, .slice none 0 0] 207)
  have hW := HP.out.still ho
  have hS := PStep.still HP.out.lt ho
  have hR := heap_alloc_new w (.cells #[.int .i64 0, .bool false, .slice none 0 0, .slice none 0 0] 207)
  have hRn : ¬ pown (w.alloc (.cells #[.int .i64 0, .bool false, .slice none 0 0, .slice none 0 0] 207)) b w.heap.size := fun q => by
    have := pown_lt HP.out ((pown_of_heap (ho.block b HP.out.lt id) _).1 q); omega
  have hWs : (w.alloc (.cells #[.int .i64 0, .bool false, .slice none 0 0, .slice none 0 0] 207)).heap.size = w.heap.size + 1 := by simp
  (with_reducible refine (HG.out _ hW).mono ?_)
  rintro e w1 ⟨rfl, hp1, st1⟩
  have hs1 := st1.only.size
  rw [hWs] at hs1
  have hRn1 : ¬ pown w1 b w.heap.size := fun q => (st1.own _ q).elim hRn (by omega)
  have hR1 := (st1.only.block _ (by omega) hRn).trans hR
  have HP1 := Lib.hid hp1
  have HS1 := Lib.hid (hS.trans st1)
  clear ho hW hS hR hRn hp1 st1
  go_wp2_with fail
  have o2 := ((Only.refl (fun _ => False) w1).alloc (.cells #[.int .i64 4, .int .i64 pg, .int .i64 0, str (twigB l)] 252)).alloc (.cells #[.int .i64 pg, .bool false, .slice none 0 0, .slice none 0 0] 207)
  have hN := heap_alloc_new (w1.alloc (.cells #[.int .i64 4, .int .i64 pg, .int .i64 0, str (twigB l)] 252)) (.cells #[.int .i64 pg, .bool false, .slice none 0 0, .slice none 0 0] 207)
  have hN1 : (w1.alloc (.cells #[.int .i64 4, .int .i64 pg, .int .i64 0, str (twigB l)] 252)).heap.size = w1.heap.size + 1 := by simp
  have hN2 : ((w1.alloc (.cells #[.int .i64 4, .int .i64 pg, .int .i64 0, str (twigB l)] 252)).alloc (.cells #[.int .i64 pg, .bool false, .slice none 0 0, .slice none 0 0] 207)).heap.size = w1.heap.size + 2 := by simp
  rw [hN1] at hN
  refine (HRD.out _).mono ?_
  rintro e w3 ⟨v, rfl, hrow, o3, hnew⟩
  rw [hN2] at hnew
  obtain ⟨av, nv, cv, rfl⟩ := capOk_form hrow.cap
  have hs3 := o3.size
  rw [hN2] at hs3
  have hsb := HP1.out.lt
  have hsw := HS1.out.only.size
  have hR3 := ((o2.trans o3 (fun _ _ q => q)).block _ (by omega) (fun q => q)).trans hR1
  have hN3 := (o3.block _ (by rw [hN2]; omega) (fun q => q)).trans hN
  have a0 := heap_cell hN3 0
  have a1 := heap_cell hN3 1
  have a2 := heap_cell hN3 2
  have a3 := heap_cell hN3 3
  have b0 := heap_cell hR3 0
  have b1 := heap_cell hR3 1
  have b2 := heap_cell hR3 2
  have b3 := heap_cell hR3 3
  have y2 := heap_frozen hN3 3
  have x0 := heap_frozen hR3 0
  have x1 := heap_frozen hR3 1
  have x2 := heap_frozen hR3 2
  have x3 := heap_frozen hR3 3
  simp only [List.getElem?_toArray, List.getElem?_cons_zero, List.getElem?_cons_succ] at a0 a1 a2 a3 b0 b1 b2 b3
  have HO3 := Lib.hid (o2.trans o3 (fun _ _ q => q))
  have HROW := Lib.hid hrow
  have HNEW := Lib.hid hnew
  clear o2 o3 hN hN1 hN2 hrow hnew
  go_wp2_with fail
  have oF := (((((Only.refl (fun k => k = w1.heap.size + 1 ∨ k = w.heap.size) w3).put (w1.heap.size + 1) 3 (.inl rfl) (.slice av nv cv)).put w.heap.size 0 (.inr rfl) (.int .i64 pg)).put w.heap.size 1 (.inr rfl) (.bool false)).put w.heap.size 2 (.inr rfl) (.slice none 0 0)).put w.heap.size 3 (.inr rfl) (.slice av nv cv)
  obtain ⟨k1, k2, k3⟩ := load_end HP.out HP1.out HS1.out hRn1 HO3.out (by omega) (Nat.le_succ _) oF
  have hq := four_heap (w := w3.setCell ⟨w1.heap.size + 1, 3, none⟩ (.slice av nv cv)) ((Below.heap_setCell _ _ _ _ (by simp only; omega)).trans hR3) (.int .i64 pg) (.bool false) (.slice none 0 0) (.slice av nv cv)
  have g0 := heap_cell hq 0
  have g1 := heap_cell hq 1
  have g2 := heap_cell hq 2
  have g3 := heap_cell hq 3
  unfold four at g0 g1 g2 g3
  refine bodyPost_ret (v := .tuple #[.agg #[.int .i64 pg, .bool false, .slice none 0 0, .slice av nv cv], .int .i64 0]) (by simp [results, Tryz.results145, go_sem, g0, g1, g2, g3]) rfl ⟨_, rfl, HROW.out.only oF (fun j hj q => ?_), k3 _ (Apart.new HP1.out HO3.out (fun j hj => ⟨?_, row_lt HROW.out.row hne (fun _ => rfl) (by omega) j hj⟩)), k1, k2⟩
  · have := HNEW.out j hj
    rcases q with q | q <;> omega
  · have := HNEW.out j hj
    omega
end Go.Proofs.YtbhiamcmiopnoaaGreatDoor
