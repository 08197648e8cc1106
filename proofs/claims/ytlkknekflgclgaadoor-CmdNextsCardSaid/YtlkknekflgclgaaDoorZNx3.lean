/- Package cmd: what do does with a bucket's number, with making and dropping one below the root. Conditions: one goroutine; the names hold no slash. -/
import Derived.Test.YtlkknekflgclgaaDoorZNx2
import Derived.Test.YtlkknekflgclgaaDoorZCmd6
namespace Go.Proofs.YtlkknekflgclgaaDoor
open Go.RowKit Go.MuLone

theorem mP_Next (n r : Nat) (w : World) : (method (n + 1) 45 (.agg #[.pointer (some ⟨r, 0, none⟩)]) "Next").run Tryd.prog w = .ok (94, .agg #[.pointer (some ⟨r, 0, none⟩)]) w := by kernel_rfl
theorem mP_Make (n r : Nat) (w : World) : (method (n + 1) 45 (.agg #[.pointer (some ⟨r, 0, none⟩)]) "Make").run Tryd.prog w = .ok (93, .agg #[.pointer (some ⟨r, 0, none⟩)]) w := by kernel_rfl
theorem mP_Drop (n r : Nat) (w : World) : (method (n + 1) 45 (.agg #[.pointer (some ⟨r, 0, none⟩)]) "Drop").run Tryd.prog w = .ok (91, .agg #[.pointer (some ⟨r, 0, none⟩)]) w := by kernel_rfl
theorem Named.key {p : Bytes} (h : Named p) : keyErr p = 0 := by
  have h1 := h.ne
  have h2 := h.short
  unfold keyErr
  rw [if_neg]
  intro q
  rcases q with q | q | q
  · exact h1 (List.length_eq_zero_iff.1 (by omega))
  · omega
  · rw [h.free] at q
    cases q
theorem Named.none {p : Bytes} (h : Named p) : decide (0 ≤ Lib.indexByte p 47) = false := by
  refine decide_eq_false fun q => ?_
  obtain ⟨i, hi⟩ : ∃ i : Nat, Lib.indexByte p 47 = i := ⟨(Lib.indexByte p 47).toNat, by omega⟩
  exact h.flat i (Lib.indexByte_some hi).1
set_option maxRecDepth 100000 in
set_option maxHeartbeats 8000000 in
theorem do_next (w : World) (r ra nt : Nat) (p : Bytes) (B : Box) (hF : Finds w r p ra) (h : Named p) (hm : MaxAt w) (hB : BoxAt w ra B) (hT : Tab nt w) (hnt : nt ≤ ra) (hs : 0 ≤ B.seq ∧ B.seq ≤ 1000000) :
    Calls Tryd.prog 12 #[groundV r, .agg #[.int .i64 7, str p, str [], str [], str []]] w fun e w' => e = .returned (replyV 0 (Lib.itoa (B.seq + 1))) ∧ ∃ w2, BoxAt w2 ra { B with seq := B.seq + 1 } ∧ Only (fun j => j = ra) w w2 ∧ Only (fun j => j = w.heap.size + 1) w2 w' := by
  obtain ⟨oL, cL, rL⟩ := cmd_laid w 7 p [] [] []
  have hSeq := fun n => mP_Seq n r
  have hNext := fun n => mP_Next n r
  have hlt := hB.lt
  have HN := Lib.hid (names_one _ p h (hm.still oL))
  have HS : Hid (∀ W, Only (fun _ => False) (laidW w 7 p [] [] []) W → Calls Tryd.prog 96 #[.agg #[.pointer (some ⟨r, 0, none⟩)], str p] W fun e w' => e = .returned (.tuple #[.int .i64 B.seq, .int .i64 0]) ∧ Only (fun _ => False) W w') := Lib.hid (fun W hW => Seq_is W r ra p B (hF.still (oL.trans hW (fun _ _ q => q))) ((hB.still oL).still hW))
  have HX : Hid (∀ W, Only (fun _ => False) (laidW w 7 p [] [] []) W → Calls Tryd.prog 94 #[.agg #[.pointer (some ⟨r, 0, none⟩)], str p] W fun e w' => e = .returned (.tuple #[.int .i64 (B.seq + 1), .int .i64 0]) ∧ BoxAt w' ra { B with seq := B.seq + 1 } ∧ Only (fun j => j = ra) W w') := Lib.hid (fun W hW => Next_is W r ra p B (hF.still (oL.trans hW (fun _ _ q => q))) ((hB.still oL).still hW) hs)
  have HD : Hid (∀ W, Only (fun j => j = ra) (laidW w 7 p [] [] []) W → Calls Tryd.prog 17 #[.int .i64 (B.seq + 1)] W fun e w' => e = .returned (str (Lib.itoa (B.seq + 1))) ∧ Only (fun _ => False) W w') := Lib.hid (fun W hW => Digits_is W _ (by omega) (((hT.still oL).only hW (fun j hj => by omega)).is))
  have HC : Hid (∀ W, Only (fun j => j = ra) (laidW w 7 p [] [] []) W → CmdAt w.heap.size 7 p [] [] [] W) := Lib.hid (fun W hW => cL.only hW (fun q => by omega))
  have HRP : Hid (∀ W, Only (fun j => j = ra) (laidW w 7 p [] [] []) W → W.heap[w.heap.size + 1]? = some (.cells #[.int .i64 0, .string ⟨#[]⟩] 28 (0, 0))) := Lib.hid (fun W hW => (hW.block _ (blk_lt rL) (by omega)).trans rL)
  have HU : Hid (∀ W, Only (fun _ => False) (laidW w 7 p [] [] []) W → Only (fun j => j = ra) (laidW w 7 p [] [] []) W) := Lib.hid (fun W hW => hW.mono (fun _ _ (q : False) => q.elim))
  have HU2 : Hid (∀ W, Only (fun j => j = ra) (laidW w 7 p [] [] []) W → Only (fun j => j = ra) w W) := Lib.hid (fun W hW => Only.trans (oL.mono (fun _ _ (q : False) => q.elim)) hW (fun _ _ q => q))
  obtain ⟨c0, c1, c2, c3, c4⟩ := cL
  unfold laidW at c0 c1 c2 c3 c4
  clear oL hB rL hF h hm hT
  generalize hsq : B.seq + 1 = sq at *
  generalize hit : Lib.itoa sq = dg at *
  unfold groundV at *
  go_enter Tryd.func12, Tryd.ntmps12
  go_wp2_with fail
  (with_reducible refine HN.out.mono ?_)
  rintro e w1 ⟨g, rfl, o1⟩
  have O1 := Lib.hid o1
  obtain ⟨b0, b1, b2, b3, b4⟩ := HC.out w1 (HU.out _ o1)
  clear o1 HN c0 c1 c2 c3 c4
  go_wp2_with fail
  (with_reducible refine (HS.out _ O1.out).mono ?_)
  rintro e w2 ⟨rfl, o2⟩
  have O2 := Lib.hid (O1.out.trans o2 (fun _ _ q => q))
  obtain ⟨d0, d1, d2, d3, d4⟩ := HC.out w2 (HU.out _ O2.out)
  clear o2 HS b0 b1 b2 b3 b4
  go_wp2_with fail
  (with_reducible refine (HX.out _ O2.out).mono ?_)
  rintro e w3 ⟨rfl, hb3, o3⟩
  have HB3 := Lib.hid hb3
  have Q3 := Lib.hid ((HU.out _ O2.out).trans o3 (fun _ _ q => q))
  clear hb3 o3 HX d0 d1 d2 d3 d4
  go_wp2_with fail
  (with_reducible refine (HD.out _ Q3.out).mono ?_)
  rintro e w4 ⟨rfl, o4⟩
  have HB4 := Lib.hid (HB3.out.still o4)
  have Q4 := Lib.hid (Q3.out.trans o4 (fun _ _ (q : False) => q.elim))
  have HRB := Lib.hid (HRP.out w4 Q4.out)
  clear o4 HD
  have r0 := blk_cell HRB.out 0
  have r1 := blk_cell HRB.out 1
  have f0 := blk_frozen HRB.out 0
  have f1 := blk_frozen HRB.out 1
  simp only [List.getElem?_toArray, List.getElem?_cons_zero, List.getElem?_cons_succ] at r0 r1
  go_wp2_with fail
  obtain ⟨g0, g1, o6⟩ := reply_set w4 _ HRB.out 0 (str dg)
  refine bodyPost_ret (v := replyV 0 dg) (by simp [results, Tryd.results12, go_sem, g0, g1, replyV]) rfl ⟨rfl, ?_⟩
  exact ⟨w4, HB4.out, HU2.out _ Q4.out, o6⟩
set_option maxRecDepth 100000 in
set_option maxHeartbeats 8000000 in
theorem do_next_none (w : World) (r : Nat) (p : Bytes) (R : Box) (hR : BoxAt w r R) (h : Named p) (hm : MaxAt w) (hV : R.V p = none) (hI : R.I p = none) :
    Calls Tryd.prog 12 #[groundV r, .agg #[.int .i64 7, str p, str [], str [], str []]] w fun e w' => e = .returned (replyV 8 []) ∧ Only (fun _ => False) w w' := by
  obtain ⟨oL, cL, rL⟩ := cmd_laid w 7 p [] [] []
  have hSeq := fun n => mP_Seq n r
  have HN := Lib.hid (names_one _ p h (hm.still oL))
  have HS : Hid (∀ W, Only (fun _ => False) (laidW w 7 p [] [] []) W → Calls Tryd.prog 96 #[.agg #[.pointer (some ⟨r, 0, none⟩)], str p] W fun e w' => e = .returned (.tuple #[.int .i64 0, .int .i64 8]) ∧ Only (fun _ => False) W w') := Lib.hid (fun W hW => Seq_none W r p R ((hR.still oL).still hW) h ((hm.still oL).still hW) hV hI)
  have HC : Hid (∀ W, Only (fun _ => False) (laidW w 7 p [] [] []) W → CmdAt w.heap.size 7 p [] [] [] W) := Lib.hid (fun W hW => cL.only hW id)
  have HRP : Hid (∀ W, Only (fun _ => False) (laidW w 7 p [] [] []) W → W.heap[w.heap.size + 1]? = some (.cells #[.int .i64 0, .string ⟨#[]⟩] 28 (0, 0))) := Lib.hid (fun W hW => (hW.block _ (blk_lt rL) id).trans rL)
  have HL := Lib.hid oL
  obtain ⟨c0, c1, c2, c3, c4⟩ := cL
  unfold laidW at c0 c1 c2 c3 c4
  clear oL hR rL h hm hV hI
  unfold groundV at *
  go_enter Tryd.func12, Tryd.ntmps12
  go_wp2_with fail
  (with_reducible refine HN.out.mono ?_)
  rintro e w1 ⟨g, rfl, o1⟩
  have O1 := Lib.hid o1
  obtain ⟨b0, b1, b2, b3, b4⟩ := HC.out w1 o1
  clear o1 HN c0 c1 c2 c3 c4
  go_wp2_with fail
  (with_reducible refine (HS.out _ O1.out).mono ?_)
  rintro e w2 ⟨rfl, o2⟩
  have O2 := Lib.hid (O1.out.trans o2 (fun _ _ q => q))
  have HRB := Lib.hid (HRP.out w2 O2.out)
  have OW := Lib.hid (HL.out.trans O2.out (fun _ _ q => q))
  clear o2 HS b0 b1 b2 b3 b4 HL O2
  have r0 := blk_cell HRB.out 0
  have r1 := blk_cell HRB.out 1
  have f0 := blk_frozen HRB.out 0
  have f1 := blk_frozen HRB.out 1
  simp only [List.getElem?_toArray, List.getElem?_cons_zero, List.getElem?_cons_succ] at r0 r1
  go_wp2_with fail
  obtain ⟨g0, g1, o6⟩ := reply_set w2 _ HRB.out 8 (str [])
  refine bodyPost_ret (v := replyV 8 []) (by simp [results, Tryd.results12, go_sem, g0, g1, replyV]) rfl ⟨rfl, ?_⟩
  exact still_reply OW.out o6 (Nat.le_succ _)
set_option maxRecDepth 100000 in
set_option maxHeartbeats 8000000 in
theorem do_next_root (w : World) (r : Nat) :
    Calls Tryd.prog 12 #[groundV r, .agg #[.int .i64 7, str [], str [], str [], str []]] w fun e w' => e = .returned (replyV 1 []) ∧ Only (fun _ => False) w w' := by
  obtain ⟨oL, cL, rL⟩ := cmd_laid w 7 [] [] [] []
  have HN := Lib.hid names_root
  have HL := Lib.hid oL
  have HRB := Lib.hid rL
  obtain ⟨c0, c1, c2, c3, c4⟩ := cL
  unfold laidW at c0 c1 c2 c3 c4
  have r0 := blk_cell HRB.out 0
  have r1 := blk_cell HRB.out 1
  have f0 := blk_frozen HRB.out 0
  have f1 := blk_frozen HRB.out 1
  simp only [List.getElem?_toArray, List.getElem?_cons_zero, List.getElem?_cons_succ] at r0 r1
  unfold laidW at r0 r1 f0 f1
  clear oL rL
  unfold groundV at *
  go_enter Tryd.func12, Tryd.ntmps12
  go_wp2_with fail
  (with_reducible refine (HN.out _).mono ?_)
  rintro e _ ⟨rfl, rfl⟩
  go_wp2_with fail
  have sA : ∀ o : Obj, (w.alloc o).heap.size = w.heap.size + 1 := fun o => Array.size_push _
  have b2 := blk_new (w.alloc (.cells #[.int .i64 7, str [], str [], str [], str []] 32)) (.cells #[.int .i64 1, .string ⟨#[]⟩] 28)
  rw [sA] at b2
  have g0 := blk_cell b2 0
  have g1 := blk_cell b2 1
  simp only [List.getElem?_toArray, List.getElem?_cons_zero, List.getElem?_cons_succ] at g0 g1
  refine bodyPost_ret (v := replyV 1 []) (by simp [results, Tryd.results12, go_sem, g0, g1, replyV]) rfl ⟨rfl, ?_⟩
  exact ((Only.refl (fun _ => False) w).alloc _).alloc _
end Go.Proofs.YtlkknekflgclgaaDoor
