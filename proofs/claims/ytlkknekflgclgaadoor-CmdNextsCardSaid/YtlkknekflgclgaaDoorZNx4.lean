/- Package cmd: making and dropping a bucket below the root, as a command. Conditions: one goroutine; the names hold no slash. (Printed by gen/nx4.py.) -/
import Derived.Test.YtlkknekflgclgaaDoorZNx3
namespace Go.Proofs.YtlkknekflgclgaaDoor
open Go.RowKit Go.MuLone

theorem size_alloc (w : World) (o : Obj) : (w.alloc o).heap.size = w.heap.size + 1 := Array.size_push _
set_option maxRecDepth 100000 in
set_option maxHeartbeats 8000000 in
theorem within_make (w : World) (r x : Nat) (k : Bytes) (E : Int) (Q : Nat → World → Prop) (h : Named k) (hx : x < w.heap.size)
    (hA : ∀ W, Only (fun _ => False) w W → Calls Tryd.prog 93 #[.agg #[.pointer (some ⟨r, 0, none⟩)], str k] W fun e w' => e = .returned (.int .i64 E) ∧ Q W.heap.size w' ∧ Only (fun j => j = x) W w') :
    Calls Tryd.prog 16 #[.iface 45 (.agg #[.pointer (some ⟨r, 0, none⟩)]), .agg #[.int .i64 5, str [], str k, str [], str []]] w fun e w' => e = .returned (.agg #[.int .i64 E, .string ⟨#[]⟩]) ∧ ∃ w2 N, w.heap.size + 2 ≤ N ∧ Q N w2 ∧ Only (fun j => j = x) w w2 ∧ Only (fun j => j = w.heap.size + 1) w2 w' := by
  obtain ⟨oL, cL, rL⟩ := cmd_laid w 5 [] k [] []
  have hM := fun n => mP_Make n r
  have hkl : k.length ≤ maxLen := by have := h.short; have : maxLen = 9223372036854775807 := by decide
                                     omega
  have HK : Hid (∀ W, Calls Tryd.prog 18 #[str k] W fun e w' => e = .returned (.int .i64 0) ∧ W = w') := Lib.hid (fun W => h.key ▸ key_is W k hkl)
  have HCt : Hid (∀ W, Calls Tryd.prog 25 #[str k, .string ⟨#[47]⟩] W fun e w' => e = .returned (.bool false) ∧ W = w') := Lib.hid (fun W => by
    refine (strings_Contains_one ⟨k.toArray⟩ 47 W).mono ?_
    rintro e w' ⟨rfl, rfl⟩
    have h2 : decide (0 ≤ Lib.indexByte (⟨k.toArray⟩ : ByteArray).data.toList 47) = false := h.none
    rw [h2]
    exact ⟨rfl, rfl⟩)
  have HA : Hid (∀ W, Only (fun _ => False) (laidW w 5 [] k [] []) W → Calls Tryd.prog 93 #[.agg #[.pointer (some ⟨r, 0, none⟩)], str k] W fun e w' => e = .returned (.int .i64 E) ∧ Q W.heap.size w' ∧ Only (fun j => j = x) W w') := Lib.hid (fun W hW => hA W (oL.trans hW (fun _ _ q => q)))
  have HRP : Hid (∀ W, Only (fun j => j = x) (laidW w 5 [] k [] []) W → W.heap[w.heap.size + 1]? = some (.cells #[.int .i64 0, .string ⟨#[]⟩] 28 (0, 0))) := Lib.hid (fun W hW => (hW.block _ (blk_lt rL) (by omega)).trans rL)
  have HU2 : Hid (∀ W, Only (fun j => j = x) (laidW w 5 [] k [] []) W → Only (fun j => j = x) w W) := Lib.hid (fun W hW => Only.trans (oL.mono (fun _ _ (q : False) => q.elim)) hW (fun _ _ q => q))
  obtain ⟨c0, c1, c2, c3, c4⟩ := cL
  unfold laidW at c0 c1 c2 c3 c4
  clear oL rL h hA
  go_enter Tryd.func16, Tryd.ntmps16
  go_wp2_with fail
  (with_reducible refine (HK.out _).mono ?_)
  rintro e _ ⟨rfl, rfl⟩
  go_wp2_with fail
  (with_reducible refine (HCt.out _).mono ?_)
  rintro e _ ⟨rfl, rfl⟩
  go_wp2_with fail
  (with_reducible refine (HA.out _ (Only.refl _ _)).mono ?_)
  rintro e w3 ⟨rfl, hq, o3⟩
  have hsz : (laidW w 5 [] k [] []).heap.size = w.heap.size + 2 := by unfold laidW; rw [size_alloc, size_alloc]
  have HQ := Lib.hid (hsz ▸ hq)
  have Q3 := Lib.hid o3
  clear hsz
  have HRB := Lib.hid (HRP.out w3 o3)
  clear hq o3 c0 c1 c2 c3 c4
  have r0 := blk_cell HRB.out 0
  have r1 := blk_cell HRB.out 1
  have f0 := blk_frozen HRB.out 0
  have f1 := blk_frozen HRB.out 1
  simp only [List.getElem?_toArray, List.getElem?_cons_zero, List.getElem?_cons_succ] at r0 r1
  go_wp2_with fail
  obtain ⟨g0, g1, o6⟩ := reply_set w3 _ HRB.out E (.string ⟨#[]⟩)
  refine bodyPost_ret (v := .agg #[.int .i64 E, .string ⟨#[]⟩]) (by simp [results, Tryd.results16, go_sem, g0, g1]) rfl ⟨rfl, ?_⟩
  exact ⟨w3, _, Nat.le_refl _, HQ.out, HU2.out _ Q3.out, o6⟩
set_option maxRecDepth 100000 in
set_option maxHeartbeats 8000000 in
theorem do_make (w : World) (r x : Nat) (k : Bytes) (E : Int) (Q : Nat → World → Prop) (R : Box) (hR : BoxAt w r R) (h : Named k) (hx : x < w.heap.size) (hQ : ∀ N n u u', w.heap.size ≤ n → n < N → Q N u → Only (fun j => j = n) u u' → Q N u')
    (hA : ∀ W, Only (fun _ => False) w W → Calls Tryd.prog 93 #[.agg #[.pointer (some ⟨r, 0, none⟩)], str k] W fun e w' => e = .returned (.int .i64 E) ∧ Q W.heap.size w' ∧ Only (fun j => j = x) W w') :
    Calls Tryd.prog 12 #[groundV r, .agg #[.int .i64 5, str [], str k, str [], str []]] w fun e w' => e = .returned (replyV E []) ∧ (∃ N, w.heap.size ≤ N ∧ Q N w') ∧ Only (fun j => j = x) w w' := by
  obtain ⟨oL, cL, rL⟩ := cmd_laid w 5 [] k [] []
  have hSeq := fun n => mP_Seq n r
  have HN := Lib.hid names_root
  have HS : Hid (∀ W, Only (fun _ => False) (laidW w 5 [] k [] []) W → Calls Tryd.prog 96 #[.agg #[.pointer (some ⟨r, 0, none⟩)], str []] W fun e w' => e = .returned (.tuple #[.int .i64 R.seq, .int .i64 0]) ∧ Only (fun _ => False) W w') := Lib.hid (fun W hW => Seq_is W r r [] R (finds_root _ r) ((hR.still oL).still hW))
  have HA : Hid (∀ W, Only (fun _ => False) (laidW w 5 [] k [] []) W → Calls Tryd.prog 16 #[.iface 45 (.agg #[.pointer (some ⟨r, 0, none⟩)]), .agg #[.int .i64 5, str [], str k, str [], str []]] W fun e w' => e = .returned (.agg #[.int .i64 E, .string ⟨#[]⟩]) ∧ (∃ N, W.heap.size ≤ N ∧ Q N w') ∧ Only (fun j => j = x) W w') := Lib.hid (fun W hW => by
    have hs : w.heap.size ≤ W.heap.size := (oL.trans hW (fun _ _ q => q)).size
    refine (within_make W r x k E Q h (by omega) (fun U hU => hA U ((oL.trans hW (fun _ _ q => q)).trans hU (fun _ _ q => q)))).mono ?_
    rintro e w' ⟨he, w2, N, hN, hq, o2, o3⟩
    have hs2 := o2.size
    exact ⟨he, ⟨N, by omega, hQ N (W.heap.size + 1) w2 w' (by omega) (by omega) hq o3⟩, o2.trans o3 (fun j hj q => by have q : j = W.heap.size + 1 := q; omega)⟩)
  have HC : Hid (∀ W, Only (fun _ => False) (laidW w 5 [] k [] []) W → CmdAt w.heap.size 5 [] k [] [] W) := Lib.hid (fun W hW => cL.only hW id)
  have HRP : Hid (∀ W, Only (fun j => j = x) (laidW w 5 [] k [] []) W → W.heap[w.heap.size + 1]? = some (.cells #[.int .i64 0, .string ⟨#[]⟩] 28 (0, 0))) := Lib.hid (fun W hW => (hW.block _ (blk_lt rL) (by omega)).trans rL)
  have HU2 : Hid (∀ W, Only (fun j => j = x) (laidW w 5 [] k [] []) W → Only (fun j => j = x) w W) := Lib.hid (fun W hW => Only.trans (oL.mono (fun _ _ (q : False) => q.elim)) hW (fun _ _ q => q))
  have HQQ := Lib.hid hQ
  obtain ⟨c0, c1, c2, c3, c4⟩ := cL
  unfold laidW at c0 c1 c2 c3 c4
  clear oL hR rL hA hQ h
  unfold groundV at *
  go_enter Tryd.func12, Tryd.ntmps12
  go_wp2_with fail
  (with_reducible refine (HN.out _).mono ?_)
  rintro e _ ⟨rfl, rfl⟩
  go_wp2_with fail
  (with_reducible refine (HS.out _ (Only.refl _ _)).mono ?_)
  rintro e w2 ⟨rfl, o2⟩
  have O2 := Lib.hid o2
  obtain ⟨d0, d1, d2, d3, d4⟩ := HC.out w2 o2
  clear o2 c0 c1 c2 c3 c4
  go_wp2_with fail
  (with_reducible refine (HA.out _ O2.out).mono ?_)
  rintro e w3 ⟨rfl, ⟨N, hN, hq⟩, o3⟩
  have hN2 : w.heap.size + 2 ≤ N := by
    have h1 := O2.out.size
    have h2 : (laidW w 5 [] k [] []).heap.size = w.heap.size + 2 := by unfold laidW; rw [size_alloc, size_alloc]
    omega
  have HQ := Lib.hid hq
  have Q3 := Lib.hid ((O2.out.mono (T := fun j => j = x) (fun _ _ (q : False) => q.elim)).trans o3 (fun _ _ q => q))
  have HRB := Lib.hid (HRP.out w3 Q3.out)
  clear hq o3
  have r0 := blk_cell HRB.out 0
  have r1 := blk_cell HRB.out 1
  have f0 := blk_frozen HRB.out 0
  have f1 := blk_frozen HRB.out 1
  simp only [List.getElem?_toArray, List.getElem?_cons_zero, List.getElem?_cons_succ] at r0 r1
  go_wp2_with fail
  obtain ⟨g0, g1, o6⟩ := reply_set w3 _ HRB.out E (.string ⟨#[]⟩)
  refine bodyPost_ret (v := replyV E []) (by simp [results, Tryd.results12, go_sem, g0, g1, replyV]) rfl ⟨rfl, ?_⟩
  exact ⟨⟨N, by omega, HQQ.out N _ _ _ (Nat.le_succ _) (by omega) HQ.out o6⟩, (HU2.out _ Q3.out).trans o6 (fun j hj q => by have q : j = w.heap.size + 1 := q; omega)⟩
set_option maxRecDepth 100000 in
set_option maxHeartbeats 8000000 in
theorem within_drop (w : World) (r x : Nat) (k : Bytes) (E : Int) (Q : Nat → World → Prop) (h : Named k) (hx : x < w.heap.size)
    (hA : ∀ W, Only (fun _ => False) w W → Calls Tryd.prog 91 #[.agg #[.pointer (some ⟨r, 0, none⟩)], str k] W fun e w' => e = .returned (.int .i64 E) ∧ Q W.heap.size w' ∧ Only (fun j => j = x) W w') :
    Calls Tryd.prog 16 #[.iface 45 (.agg #[.pointer (some ⟨r, 0, none⟩)]), .agg #[.int .i64 6, str [], str k, str [], str []]] w fun e w' => e = .returned (.agg #[.int .i64 E, .string ⟨#[]⟩]) ∧ ∃ w2 N, w.heap.size + 2 ≤ N ∧ Q N w2 ∧ Only (fun j => j = x) w w2 ∧ Only (fun j => j = w.heap.size + 1) w2 w' := by
  obtain ⟨oL, cL, rL⟩ := cmd_laid w 6 [] k [] []
  have hM := fun n => mP_Drop n r
  have hkl : k.length ≤ maxLen := by have := h.short; have : maxLen = 9223372036854775807 := by decide
                                     omega
  have HK : Hid (∀ W, Calls Tryd.prog 18 #[str k] W fun e w' => e = .returned (.int .i64 0) ∧ W = w') := Lib.hid (fun W => h.key ▸ key_is W k hkl)
  have HCt : Hid (∀ W, Calls Tryd.prog 25 #[str k, .string ⟨#[47]⟩] W fun e w' => e = .returned (.bool false) ∧ W = w') := Lib.hid (fun W => by
    refine (strings_Contains_one ⟨k.toArray⟩ 47 W).mono ?_
    rintro e w' ⟨rfl, rfl⟩
    have h2 : decide (0 ≤ Lib.indexByte (⟨k.toArray⟩ : ByteArray).data.toList 47) = false := h.none
    rw [h2]
    exact ⟨rfl, rfl⟩)
  have HA : Hid (∀ W, Only (fun _ => False) (laidW w 6 [] k [] []) W → Calls Tryd.prog 91 #[.agg #[.pointer (some ⟨r, 0, none⟩)], str k] W fun e w' => e = .returned (.int .i64 E) ∧ Q W.heap.size w' ∧ Only (fun j => j = x) W w') := Lib.hid (fun W hW => hA W (oL.trans hW (fun _ _ q => q)))
  have HRP : Hid (∀ W, Only (fun j => j = x) (laidW w 6 [] k [] []) W → W.heap[w.heap.size + 1]? = some (.cells #[.int .i64 0, .string ⟨#[]⟩] 28 (0, 0))) := Lib.hid (fun W hW => (hW.block _ (blk_lt rL) (by omega)).trans rL)
  have HU2 : Hid (∀ W, Only (fun j => j = x) (laidW w 6 [] k [] []) W → Only (fun j => j = x) w W) := Lib.hid (fun W hW => Only.trans (oL.mono (fun _ _ (q : False) => q.elim)) hW (fun _ _ q => q))
  obtain ⟨c0, c1, c2, c3, c4⟩ := cL
  unfold laidW at c0 c1 c2 c3 c4
  clear oL rL h hA
  go_enter Tryd.func16, Tryd.ntmps16
  go_wp2_with fail
  (with_reducible refine (HK.out _).mono ?_)
  rintro e _ ⟨rfl, rfl⟩
  go_wp2_with fail
  (with_reducible refine (HCt.out _).mono ?_)
  rintro e _ ⟨rfl, rfl⟩
  go_wp2_with fail
  (with_reducible refine (HA.out _ (Only.refl _ _)).mono ?_)
  rintro e w3 ⟨rfl, hq, o3⟩
  have hsz : (laidW w 6 [] k [] []).heap.size = w.heap.size + 2 := by unfold laidW; rw [size_alloc, size_alloc]
  have HQ := Lib.hid (hsz ▸ hq)
  have Q3 := Lib.hid o3
  clear hsz
  have HRB := Lib.hid (HRP.out w3 o3)
  clear hq o3 c0 c1 c2 c3 c4
  have r0 := blk_cell HRB.out 0
  have r1 := blk_cell HRB.out 1
  have f0 := blk_frozen HRB.out 0
  have f1 := blk_frozen HRB.out 1
  simp only [List.getElem?_toArray, List.getElem?_cons_zero, List.getElem?_cons_succ] at r0 r1
  go_wp2_with fail
  obtain ⟨g0, g1, o6⟩ := reply_set w3 _ HRB.out E (.string ⟨#[]⟩)
  refine bodyPost_ret (v := .agg #[.int .i64 E, .string ⟨#[]⟩]) (by simp [results, Tryd.results16, go_sem, g0, g1]) rfl ⟨rfl, ?_⟩
  exact ⟨w3, _, Nat.le_refl _, HQ.out, HU2.out _ Q3.out, o6⟩
set_option maxRecDepth 100000 in
set_option maxHeartbeats 8000000 in
theorem do_drop (w : World) (r x : Nat) (k : Bytes) (E : Int) (Q : Nat → World → Prop) (R : Box) (hR : BoxAt w r R) (h : Named k) (hx : x < w.heap.size) (hQ : ∀ N n u u', w.heap.size ≤ n → n < N → Q N u → Only (fun j => j = n) u u' → Q N u')
    (hA : ∀ W, Only (fun _ => False) w W → Calls Tryd.prog 91 #[.agg #[.pointer (some ⟨r, 0, none⟩)], str k] W fun e w' => e = .returned (.int .i64 E) ∧ Q W.heap.size w' ∧ Only (fun j => j = x) W w') :
    Calls Tryd.prog 12 #[groundV r, .agg #[.int .i64 6, str [], str k, str [], str []]] w fun e w' => e = .returned (replyV E []) ∧ (∃ N, w.heap.size ≤ N ∧ Q N w') ∧ Only (fun j => j = x) w w' := by
  obtain ⟨oL, cL, rL⟩ := cmd_laid w 6 [] k [] []
  have hSeq := fun n => mP_Seq n r
  have HN := Lib.hid names_root
  have HS : Hid (∀ W, Only (fun _ => False) (laidW w 6 [] k [] []) W → Calls Tryd.prog 96 #[.agg #[.pointer (some ⟨r, 0, none⟩)], str []] W fun e w' => e = .returned (.tuple #[.int .i64 R.seq, .int .i64 0]) ∧ Only (fun _ => False) W w') := Lib.hid (fun W hW => Seq_is W r r [] R (finds_root _ r) ((hR.still oL).still hW))
  have HA : Hid (∀ W, Only (fun _ => False) (laidW w 6 [] k [] []) W → Calls Tryd.prog 16 #[.iface 45 (.agg #[.pointer (some ⟨r, 0, none⟩)]), .agg #[.int .i64 6, str [], str k, str [], str []]] W fun e w' => e = .returned (.agg #[.int .i64 E, .string ⟨#[]⟩]) ∧ (∃ N, W.heap.size ≤ N ∧ Q N w') ∧ Only (fun j => j = x) W w') := Lib.hid (fun W hW => by
    have hs : w.heap.size ≤ W.heap.size := (oL.trans hW (fun _ _ q => q)).size
    refine (within_drop W r x k E Q h (by omega) (fun U hU => hA U ((oL.trans hW (fun _ _ q => q)).trans hU (fun _ _ q => q)))).mono ?_
    rintro e w' ⟨he, w2, N, hN, hq, o2, o3⟩
    have hs2 := o2.size
    exact ⟨he, ⟨N, by omega, hQ N (W.heap.size + 1) w2 w' (by omega) (by omega) hq o3⟩, o2.trans o3 (fun j hj q => by have q : j = W.heap.size + 1 := q; omega)⟩)
  have HC : Hid (∀ W, Only (fun _ => False) (laidW w 6 [] k [] []) W → CmdAt w.heap.size 6 [] k [] [] W) := Lib.hid (fun W hW => cL.only hW id)
  have HRP : Hid (∀ W, Only (fun j => j = x) (laidW w 6 [] k [] []) W → W.heap[w.heap.size + 1]? = some (.cells #[.int .i64 0, .string ⟨#[]⟩] 28 (0, 0))) := Lib.hid (fun W hW => (hW.block _ (blk_lt rL) (by omega)).trans rL)
  have HU2 : Hid (∀ W, Only (fun j => j = x) (laidW w 6 [] k [] []) W → Only (fun j => j = x) w W) := Lib.hid (fun W hW => Only.trans (oL.mono (fun _ _ (q : False) => q.elim)) hW (fun _ _ q => q))
  have HQQ := Lib.hid hQ
  obtain ⟨c0, c1, c2, c3, c4⟩ := cL
  unfold laidW at c0 c1 c2 c3 c4
  clear oL hR rL hA hQ h
  unfold groundV at *
  go_enter Tryd.func12, Tryd.ntmps12
  go_wp2_with fail
  (with_reducible refine (HN.out _).mono ?_)
  rintro e _ ⟨rfl, rfl⟩
  go_wp2_with fail
  (with_reducible refine (HS.out _ (Only.refl _ _)).mono ?_)
  rintro e w2 ⟨rfl, o2⟩
  have O2 := Lib.hid o2
  obtain ⟨d0, d1, d2, d3, d4⟩ := HC.out w2 o2
  clear o2 c0 c1 c2 c3 c4
  go_wp2_with fail
  (with_reducible refine (HA.out _ O2.out).mono ?_)
  rintro e w3 ⟨rfl, ⟨N, hN, hq⟩, o3⟩
  have hN2 : w.heap.size + 2 ≤ N := by
    have h1 := O2.out.size
    have h2 : (laidW w 6 [] k [] []).heap.size = w.heap.size + 2 := by unfold laidW; rw [size_alloc, size_alloc]
    omega
  have HQ := Lib.hid hq
  have Q3 := Lib.hid ((O2.out.mono (T := fun j => j = x) (fun _ _ (q : False) => q.elim)).trans o3 (fun _ _ q => q))
  have HRB := Lib.hid (HRP.out w3 Q3.out)
  clear hq o3
  have r0 := blk_cell HRB.out 0
  have r1 := blk_cell HRB.out 1
  have f0 := blk_frozen HRB.out 0
  have f1 := blk_frozen HRB.out 1
  simp only [List.getElem?_toArray, List.getElem?_cons_zero, List.getElem?_cons_succ] at r0 r1
  go_wp2_with fail
  obtain ⟨g0, g1, o6⟩ := reply_set w3 _ HRB.out E (.string ⟨#[]⟩)
  refine bodyPost_ret (v := replyV E []) (by simp [results, Tryd.results12, go_sem, g0, g1, replyV]) rfl ⟨rfl, ?_⟩
  exact ⟨⟨N, by omega, HQQ.out N _ _ _ (Nat.le_succ _) (by omega) HQ.out o6⟩, (HU2.out _ Q3.out).trans o6 (fun j hj q => by have q : j = w.heap.size + 1 := q; omega)⟩
end Go.Proofs.YtlkknekflgclgaaDoor
