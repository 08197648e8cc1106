/- Package cmd: adding to a value that is no number; swapping. Conditions: one goroutine. -/
import Derived.Test.YtlkknekflgclgaaGreatDoorZCmd4
namespace Go.Proofs.YtlkknekflgclgaaGreatDoor
open Go.RowKit

theorem text_all (x : Bytes) : ({ data := x.toArray } : ByteArray).extract 0 x.length = ⟨x.toArray⟩ := by
  apply ByteArray.ext
  simp [ByteArray.data_extract]
theorem still_reply {w w2 w3 : World} {n : Nat} (h : Only (fun _ => False) w w2) (ho : Only (fun j => j = n) w2 w3) (hn : w.heap.size ≤ n) : Only (fun _ => False) w w3 :=
  (Only.trans (S := fun j => j = n) (h.mono (fun _ _ (q : False) => q.elim)) ho (fun _ _ q => q)).mono (fun i hi q => by omega)
set_option maxRecDepth 100000 in
set_option maxHeartbeats 4000000 in
theorem add_bad (w : World) (r : Nat) (k v x : Bytes) (B : Box) (hB : BoxAt w r B) (hk : k.length ≤ maxLen) (hv : v.length ≤ maxLen) (hI : B.I k = none) (hV : B.V k = some x) (hx : x.length ≤ maxLen) (ha : numS x = none) :
    Calls Tryz.prog 171 #[groundV r, .agg #[.int .i64 3, str [], str k, str v, str []]] w fun e w' => e = .returned (replyV 24 []) ∧ Only (fun _ => False) w w' := by
  obtain ⟨oL, cL, rL⟩ := cmd_laid w 3 [] k v []
  have hGet := fun n => mP_Get n r
  have HG := Lib.hid (Get_is _ r r [] k B (finds_root _ r) (hB.still oL) hk hI)
  have HC : Hid (∀ W, Only (fun _ => False) (laidW w 3 [] k v []) W → CmdAt w.heap.size 3 [] k v [] W) := Lib.hid (fun W hW => cL.only hW id)
  have HRP : Hid (∀ W, Only (fun _ => False) (laidW w 3 [] k v []) W → W.heap[w.heap.size + 1]? = some (.cells #[.int .i64 0, .string ⟨#[]⟩] 68 (0, 0))) := Lib.hid (fun W hW => (hW.block _ (blk_lt rL) id).trans rL)
  have HO := Lib.hid oL
  have hrest : numRes x = .tuple #[.int .i64 0, .int .i64 1] := by
    unfold numRes
    rw [ha]
  obtain ⟨b, eb, hb⟩ : ∃ b eb, numRes v = .tuple #[.int .i64 b, .int .i64 eb] := by
    unfold numRes
    cases numS v with
    | none => exact ⟨_, _, rfl⟩
    | some b => exact ⟨_, _, rfl⟩
  have HN2 : Hid (∀ W, Calls Tryz.prog 194 #[str v] W fun e w' => e = .returned (.tuple #[.int .i64 b, .int .i64 eb]) ∧ W = w') := Lib.hid (fun W => hb ▸ Number_is W v hv)
  have HN1 : Hid (∀ W, Calls Tryz.prog 194 #[str x] W fun e w' => e = .returned (.tuple #[.int .i64 0, .int .i64 1]) ∧ W = w') := Lib.hid (fun W => hrest ▸ Number_is W _ hx)
  obtain ⟨c0, c1, c2, c3, c4⟩ := cL
  unfold laidW at c0 c1 c2 c3 c4
  clear oL hB hrest ha hb rL
  unfold groundV
  rw [hV] at HG
  simp only [Option.getD_some, Option.isSome_some] at HG
  clear hV
  go_enter Tryz.func171, Tryz.ntmps171
  go_wp2_with fail
  (with_reducible refine HG.out.mono ?_)
  rintro e w2 ⟨rfl, o2⟩
  have h2 := HC.out w2 o2
  have HRB := Lib.hid (HRP.out w2 o2)
  have O2 := Lib.hid (HO.out.trans o2 (fun _ _ q => q))
  obtain ⟨d0, d1, d2, d3, d4⟩ := h2
  clear o2
  have r0 := blk_cell HRB.out 0
  have r1 := blk_cell HRB.out 1
  have f0 := blk_frozen HRB.out 0
  have f1 := blk_frozen HRB.out 1
  simp only [List.getElem?_toArray, List.getElem?_cons_zero, List.getElem?_cons_succ] at r0 r1
  go_wp2_with fail
  (with_reducible refine (HN1.out _).mono ?_)
  rintro e _ ⟨rfl, rfl⟩
  go_wp2_with fail
  (with_reducible refine (HN2.out _).mono ?_)
  rintro e _ ⟨rfl, rfl⟩
  go_wp2_with fail
  obtain ⟨g0, g1, o6⟩ := reply_set w2 _ HRB.out 24 (str [])
  refine bodyPost_ret (v := replyV 24 []) (by simp [results, Tryz.results171, go_sem, g0, g1, replyV]) rfl ⟨rfl, ?_⟩
  exact still_reply O2.out o6 (Nat.le_succ _)
set_option maxRecDepth 100000 in
set_option maxHeartbeats 4000000 in
theorem swap_none (w : World) (r : Nat) (k v o : Bytes) (B : Box) (hB : BoxAt w r B) (hk : k.length ≤ maxLen) (hI : B.I k = none) (hV : B.V k = none) :
    Calls Tryz.prog 172 #[groundV r, .agg #[.int .i64 4, str [], str k, str v, str o]] w fun e w' => e = .returned (replyV 8 []) ∧ Only (fun _ => False) w w' := by
  obtain ⟨oL, cL, rL⟩ := cmd_laid w 4 [] k v o
  have hGet := fun n => mP_Get n r
  have hPut := fun n => mP_Put n r
  have hmvlt := hB.vals.lt
  have hrlt := hB.lt
  have hmilt := hB.ins.lt
  have HG := Lib.hid (Get_is _ r r [] k B (finds_root _ r) (hB.still oL) hk hI)
  have HC : Hid (∀ W, Only (fun j => j = B.mv) (laidW w 4 [] k v o) W → CmdAt w.heap.size 4 [] k v o W) := Lib.hid (fun W hW => cL.only hW (fun q => by omega))
  have HRP : Hid (∀ W, Only (fun j => j = B.mv) (laidW w 4 [] k v o) W → W.heap[w.heap.size + 1]? = some (.cells #[.int .i64 0, .string ⟨#[]⟩] 68 (0, 0))) := Lib.hid (fun W hW => (hW.block _ (blk_lt rL) (by omega)).trans rL)
  have HU : Hid (∀ W, Only (fun _ => False) (laidW w 4 [] k v o) W → Only (fun j => j = B.mv) (laidW w 4 [] k v o) W) := Lib.hid (fun W hW => hW.mono (fun _ _ (q : False) => q.elim))
  have HU2 : Hid (∀ W, Only (fun j => j = B.mv) (laidW w 4 [] k v o) W → Only (fun j => j = B.mv) w W) := Lib.hid (fun W hW => Only.trans (oL.mono (fun _ _ (q : False) => q.elim)) hW (fun _ _ q => q))
  have HO := Lib.hid oL
  obtain ⟨c0, c1, c2, c3, c4⟩ := cL
  unfold laidW at c0 c1 c2 c3 c4
  clear oL hB rL
  unfold groundV
  rw [hV] at HG
  simp only [Option.getD_none, Option.isSome_none] at HG
  clear hV
  go_enter Tryz.func172, Tryz.ntmps172
  go_wp2_with fail
  (with_reducible refine HG.out.mono ?_)
  rintro e w2 ⟨rfl, o2⟩
  have Q2 := Lib.hid (HU.out w2 o2)
  have h2 := HC.out w2 Q2.out
  have HRB := Lib.hid (HRP.out w2 Q2.out)
  have O2 := Lib.hid (HO.out.trans o2 (fun _ _ q => q))
  have OL2 := Lib.hid o2
  obtain ⟨d0, d1, d2, d3, d4⟩ := h2
  clear o2
  have r0 := blk_cell HRB.out 0
  have r1 := blk_cell HRB.out 1
  have f0 := blk_frozen HRB.out 0
  have f1 := blk_frozen HRB.out 1
  simp only [List.getElem?_toArray, List.getElem?_cons_zero, List.getElem?_cons_succ] at r0 r1
  go_wp2_with fail
  obtain ⟨g0, g1, o6⟩ := reply_set w2 _ HRB.out 8 (str [])
  refine bodyPost_ret (v := replyV 8 []) (by simp [results, Tryz.results172, go_sem, g0, g1, replyV]) rfl ⟨rfl, ?_⟩
  exact still_reply O2.out o6 (Nat.le_succ _)
set_option maxRecDepth 100000 in
set_option maxHeartbeats 4000000 in
theorem swap_other (w : World) (r : Nat) (k v o x : Bytes) (B : Box) (hB : BoxAt w r B) (hk : k.length ≤ maxLen) (hI : B.I k = none) (hV : B.V k = some x) (hx : x.length ≤ 200) (ho : x ≠ o) :
    Calls Tryz.prog 172 #[groundV r, .agg #[.int .i64 4, str [], str k, str v, str o]] w fun e w' => e = .returned (replyV 24 x) ∧ Only (fun _ => False) w w' := by
  obtain ⟨oL, cL, rL⟩ := cmd_laid w 4 [] k v o
  have hGet := fun n => mP_Get n r
  have hPut := fun n => mP_Put n r
  have hmvlt := hB.vals.lt
  have hrlt := hB.lt
  have hmilt := hB.ins.lt
  have HG := Lib.hid (Get_is _ r r [] k B (finds_root _ r) (hB.still oL) hk hI)
  have HC : Hid (∀ W, Only (fun j => j = B.mv) (laidW w 4 [] k v o) W → CmdAt w.heap.size 4 [] k v o W) := Lib.hid (fun W hW => cL.only hW (fun q => by omega))
  have HRP : Hid (∀ W, Only (fun j => j = B.mv) (laidW w 4 [] k v o) W → W.heap[w.heap.size + 1]? = some (.cells #[.int .i64 0, .string ⟨#[]⟩] 68 (0, 0))) := Lib.hid (fun W hW => (hW.block _ (blk_lt rL) (by omega)).trans rL)
  have HU : Hid (∀ W, Only (fun _ => False) (laidW w 4 [] k v o) W → Only (fun j => j = B.mv) (laidW w 4 [] k v o) W) := Lib.hid (fun W hW => hW.mono (fun _ _ (q : False) => q.elim))
  have HU2 : Hid (∀ W, Only (fun j => j = B.mv) (laidW w 4 [] k v o) W → Only (fun j => j = B.mv) w W) := Lib.hid (fun W hW => Only.trans (oL.mono (fun _ _ (q : False) => q.elim)) hW (fun _ _ q => q))
  have hne : (x == o) = false := by simpa using ho
  have HE : Hid (({ data := x.toArray } : ByteArray).extract 0 (min (x.length : Int) 200).toNat = ⟨x.toArray⟩) := Lib.hid (by
    have : (min (x.length : Int) 200).toNat = x.length := by omega
    rw [this]
    exact text_all x)
  clear ho
  have HO := Lib.hid oL
  obtain ⟨c0, c1, c2, c3, c4⟩ := cL
  unfold laidW at c0 c1 c2 c3 c4
  clear oL hB rL
  unfold groundV
  rw [hV] at HG
  simp only [Option.getD_some, Option.isSome_some] at HG
  clear hV
  go_enter Tryz.func172, Tryz.ntmps172
  go_wp2_with fail
  (with_reducible refine HG.out.mono ?_)
  rintro e w2 ⟨rfl, o2⟩
  have Q2 := Lib.hid (HU.out w2 o2)
  have h2 := HC.out w2 Q2.out
  have HRB := Lib.hid (HRP.out w2 Q2.out)
  have O2 := Lib.hid (HO.out.trans o2 (fun _ _ q => q))
  have OL2 := Lib.hid o2
  obtain ⟨d0, d1, d2, d3, d4⟩ := h2
  clear o2
  have r0 := blk_cell HRB.out 0
  have r1 := blk_cell HRB.out 1
  have f0 := blk_frozen HRB.out 0
  have f1 := blk_frozen HRB.out 1
  simp only [List.getElem?_toArray, List.getElem?_cons_zero, List.getElem?_cons_succ] at r0 r1
  go_wp2_with fail
  rw [HE.out]
  obtain ⟨g0, g1, o6⟩ := reply_set w2 _ HRB.out 24 (str x)
  refine bodyPost_ret (v := replyV 24 x) (by simp [results, Tryz.results172, go_sem, g0, g1, replyV]) rfl ⟨rfl, ?_⟩
  exact still_reply O2.out o6 (Nat.le_succ _)
set_option maxRecDepth 100000 in
set_option maxHeartbeats 4000000 in
theorem swap_same (w : World) (r : Nat) (k v o : Bytes) (B : Box) (hB : BoxAt w r B) (hk : k.length ≤ maxLen) (hI : B.I k = none) (hV : B.V k = some o) (_ho : o.length ≤ maxLen) (hv : v.length ≤ 2000) (hn : B.nv < maxLen) :
    Calls Tryz.prog 172 #[groundV r, .agg #[.int .i64 4, str [], str k, str v, str o]] w fun e w' => e = .returned (replyV 0 []) ∧ BoxAt w' r { B with V := upM B.V k v, nv := B.nv + 1 } ∧ Only (fun j => j = B.mv) w w' := by
  obtain ⟨oL, cL, rL⟩ := cmd_laid w 4 [] k v o
  have hGet := fun n => mP_Get n r
  have hPut := fun n => mP_Put n r
  have hmvlt := hB.vals.lt
  have hrlt := hB.lt
  have hmilt := hB.ins.lt
  have HG := Lib.hid (Get_is _ r r [] k B (finds_root _ r) (hB.still oL) hk hI)
  have HC : Hid (∀ W, Only (fun j => j = B.mv) (laidW w 4 [] k v o) W → CmdAt w.heap.size 4 [] k v o W) := Lib.hid (fun W hW => cL.only hW (fun q => by omega))
  have HRP : Hid (∀ W, Only (fun j => j = B.mv) (laidW w 4 [] k v o) W → W.heap[w.heap.size + 1]? = some (.cells #[.int .i64 0, .string ⟨#[]⟩] 68 (0, 0))) := Lib.hid (fun W hW => (hW.block _ (blk_lt rL) (by omega)).trans rL)
  have HU : Hid (∀ W, Only (fun _ => False) (laidW w 4 [] k v o) W → Only (fun j => j = B.mv) (laidW w 4 [] k v o) W) := Lib.hid (fun W hW => hW.mono (fun _ _ (q : False) => q.elim))
  have HU2 : Hid (∀ W, Only (fun j => j = B.mv) (laidW w 4 [] k v o) W → Only (fun j => j = B.mv) w W) := Lib.hid (fun W hW => Only.trans (oL.mono (fun _ _ (q : False) => q.elim)) hW (fun _ _ q => q))
  have HO := Lib.hid oL
  have HP : Hid (∀ W, Only (fun _ => False) (laidW w 4 [] k v o) W → Calls Tryz.prog 276 #[.agg #[.pointer (some ⟨r, 0, none⟩)], str [], str k, str v] W fun e w' => e = .returned (.int .i64 0) ∧ BoxAt w' r { B with V := upM B.V k v, nv := B.nv + 1 } ∧ Only (fun j => j = B.mv) W w') := Lib.hid (fun W hW => Put_is W r r [] k _ B (finds_root _ r) ((hB.still oL).still hW) hk hI hv hn)
  obtain ⟨c0, c1, c2, c3, c4⟩ := cL
  unfold laidW at c0 c1 c2 c3 c4
  clear oL hB rL
  unfold groundV
  rw [hV] at HG
  simp only [Option.getD_some, Option.isSome_some] at HG
  clear hV
  go_enter Tryz.func172, Tryz.ntmps172
  go_wp2_with fail
  (with_reducible refine HG.out.mono ?_)
  rintro e w2 ⟨rfl, o2⟩
  have Q2 := Lib.hid (HU.out w2 o2)
  have h2 := HC.out w2 Q2.out
  have HRB := Lib.hid (HRP.out w2 Q2.out)
  have O2 := Lib.hid (HO.out.trans o2 (fun _ _ q => q))
  have OL2 := Lib.hid o2
  obtain ⟨d0, d1, d2, d3, d4⟩ := h2
  clear o2
  have r0 := blk_cell HRB.out 0
  have r1 := blk_cell HRB.out 1
  have f0 := blk_frozen HRB.out 0
  have f1 := blk_frozen HRB.out 1
  simp only [List.getElem?_toArray, List.getElem?_cons_zero, List.getElem?_cons_succ] at r0 r1
  go_wp2_with fail
  (with_reducible refine (HP.out _ OL2.out).mono ?_)
  rintro e w4 ⟨rfl, b4, o4⟩
  have Q4 := Lib.hid (Q2.out.trans o4 (fun _ _ q => q))
  have HRB4 := Lib.hid (HRP.out w4 Q4.out)
  have HB4 := Lib.hid b4
  clear b4 o4
  have s0 := blk_cell HRB4.out 0
  have s1 := blk_cell HRB4.out 1
  have t0 := blk_frozen HRB4.out 0
  have t1 := blk_frozen HRB4.out 1
  simp only [List.getElem?_toArray, List.getElem?_cons_zero, List.getElem?_cons_succ] at s0 s1
  go_wp2_with fail
  obtain ⟨g0, g1, o6⟩ := reply_set w4 _ HRB4.out 0 (str [])
  refine bodyPost_ret (v := replyV 0 []) (by simp [results, Tryz.results172, go_sem, g0, g1, replyV]) rfl ⟨rfl, ?_, ?_⟩
  · exact HB4.out.only o6 (by omega) (by show ¬ B.mv = _; omega) (by show ¬ B.mi = _; omega)
  · exact (HU2.out _ Q4.out).trans o6 (fun i hi q => by omega)
end Go.Proofs.YtlkknekflgclgaaGreatDoor
