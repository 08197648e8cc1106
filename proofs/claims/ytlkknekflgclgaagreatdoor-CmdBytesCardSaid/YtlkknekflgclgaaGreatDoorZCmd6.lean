/- Package cmd: a command at the root: put, deleted, added, swapped. Conditions: one goroutine; the key may be. -/
import Derived.Test.YtlkknekflgclgaaGreatDoorZCmd5
namespace Go.Proofs.YtlkknekflgclgaaGreatDoor
open Go.RowKit

set_option maxRecDepth 100000 in
set_option maxHeartbeats 8000000 in
theorem do_add (w : World) (r : Nat) (k v : Bytes) (B : Box) (E : Int) (V : Bytes) (Q : World → Prop) (hB : BoxAt w r B) (hk : k.length ≤ maxLen) (hkey : keyErr k = 0)
    (hA : ∀ W, Only (fun _ => False) w W → Calls Tryz.prog 171 #[.iface 193 (.agg #[.pointer (some ⟨r, 0, none⟩)]), .agg #[.int .i64 3, str [], str k, str v, str []]] W fun e w' => e = .returned (replyV E V) ∧ Q w' ∧ Only (fun j => j = B.mv) W w') :
    Calls Tryz.prog 150 #[groundV r, .agg #[.int .i64 3, str [], str k, str v, str []]] w fun e w' => e = .returned (replyV E V) ∧ ∃ w2, Q w2 ∧ Only (fun j => j = B.mv) w w2 ∧ Only (fun j => j = w.heap.size + 1) w2 w' := by
  obtain ⟨oL, cL, rL⟩ := cmd_laid w 3 [] k v []
  have hSeq := fun n => mP_Seq n r
  have hmvlt := hB.vals.lt
  have HN := Lib.hid names_root
  have HS : Hid (∀ W, Only (fun _ => False) (laidW w 3 [] k v []) W → Calls Tryz.prog 277 #[.agg #[.pointer (some ⟨r, 0, none⟩)], str []] W fun e w' => e = .returned (.tuple #[.int .i64 B.seq, .int .i64 0]) ∧ Only (fun _ => False) W w') := Lib.hid (fun W hW => Seq_is W r r [] B (finds_root _ r) ((hB.still oL).still hW))
  have HK : Hid (∀ W, Calls Tryz.prog 170 #[str k] W fun e w' => e = .returned (.int .i64 0) ∧ W = w') := Lib.hid (fun W => hkey ▸ key_is W k hk)
  have HA : Hid (∀ W, Only (fun _ => False) (laidW w 3 [] k v []) W → Calls Tryz.prog 171 #[.iface 193 (.agg #[.pointer (some ⟨r, 0, none⟩)]), .agg #[.int .i64 3, str [], str k, str v, str []]] W fun e w' => e = .returned (replyV E V) ∧ Q w' ∧ Only (fun j => j = B.mv) W w') := Lib.hid (fun W hW => hA W (oL.trans hW (fun _ _ q => q)))
  have HC : Hid (∀ W, Only (fun j => j = B.mv) (laidW w 3 [] k v []) W → CmdAt w.heap.size 3 [] k v [] W) := Lib.hid (fun W hW => cL.only hW (fun q => by omega))
  have HRP : Hid (∀ W, Only (fun j => j = B.mv) (laidW w 3 [] k v []) W → W.heap[w.heap.size + 1]? = some (.cells #[.int .i64 0, .string ⟨#[]⟩] 68 (0, 0))) := Lib.hid (fun W hW => (hW.block _ (blk_lt rL) (by omega)).trans rL)
  have HU : Hid (∀ W, Only (fun _ => False) (laidW w 3 [] k v []) W → Only (fun j => j = B.mv) (laidW w 3 [] k v []) W) := Lib.hid (fun W hW => hW.mono (fun _ _ (q : False) => q.elim))
  have HU2 : Hid (∀ W, Only (fun j => j = B.mv) (laidW w 3 [] k v []) W → Only (fun j => j = B.mv) w W) := Lib.hid (fun W hW => Only.trans (oL.mono (fun _ _ (q : False) => q.elim)) hW (fun _ _ q => q))
  obtain ⟨c0, c1, c2, c3, c4⟩ := cL
  unfold laidW at c0 c1 c2 c3 c4
  clear oL hB rL hkey hA
  unfold groundV at *
  go_enter Tryz.func150, Tryz.ntmps150
  go_wp2_with fail
  (with_reducible refine (HN.out _).mono ?_)
  rintro e _ ⟨rfl, rfl⟩
  go_wp2_with fail
  (with_reducible refine (HS.out _ (Only.refl _ _)).mono ?_)
  rintro e w2 ⟨rfl, o2⟩
  have O2 := Lib.hid o2
  have h2 := HC.out w2 (HU.out _ o2)
  obtain ⟨d0, d1, d2, d3, d4⟩ := h2
  clear o2
  go_wp2_with fail
  (with_reducible refine (HK.out _).mono ?_)
  rintro e _ ⟨rfl, rfl⟩
  go_wp2_with fail
  (with_reducible refine (HA.out _ O2.out).mono ?_)
  rintro e w3 ⟨rfl, hq, o3⟩
  have HQ := Lib.hid hq
  have Q3 := Lib.hid ((HU.out _ O2.out).trans o3 (fun _ _ q => q))
  have HRB := Lib.hid (HRP.out w3 Q3.out)
  clear hq o3
  have r0 := blk_cell HRB.out 0
  have r1 := blk_cell HRB.out 1
  have f0 := blk_frozen HRB.out 0
  have f1 := blk_frozen HRB.out 1
  simp only [List.getElem?_toArray, List.getElem?_cons_zero, List.getElem?_cons_succ] at r0 r1
  try unfold replyV
  go_wp2_with fail
  obtain ⟨g0, g1, o6⟩ := reply_set w3 _ HRB.out E (str V)
  refine bodyPost_ret (v := replyV E V) (by simp [results, Tryz.results150, go_sem, g0, g1, replyV]) rfl ⟨rfl, ?_⟩
  exact ⟨w3, HQ.out, HU2.out _ Q3.out, o6⟩
set_option maxRecDepth 100000 in
set_option maxHeartbeats 8000000 in
theorem do_swap (w : World) (r : Nat) (k v o : Bytes) (B : Box) (E : Int) (V : Bytes) (Q : World → Prop) (hB : BoxAt w r B) (hk : k.length ≤ maxLen) (hkey : keyErr k = 0)
    (hA : ∀ W, Only (fun _ => False) w W → Calls Tryz.prog 172 #[.iface 193 (.agg #[.pointer (some ⟨r, 0, none⟩)]), .agg #[.int .i64 4, str [], str k, str v, str o]] W fun e w' => e = .returned (replyV E V) ∧ Q w' ∧ Only (fun j => j = B.mv) W w') :
    Calls Tryz.prog 150 #[groundV r, .agg #[.int .i64 4, str [], str k, str v, str o]] w fun e w' => e = .returned (replyV E V) ∧ ∃ w2, Q w2 ∧ Only (fun j => j = B.mv) w w2 ∧ Only (fun j => j = w.heap.size + 1) w2 w' := by
  obtain ⟨oL, cL, rL⟩ := cmd_laid w 4 [] k v o
  have hSeq := fun n => mP_Seq n r
  have hmvlt := hB.vals.lt
  have HN := Lib.hid names_root
  have HS : Hid (∀ W, Only (fun _ => False) (laidW w 4 [] k v o) W → Calls Tryz.prog 277 #[.agg #[.pointer (some ⟨r, 0, none⟩)], str []] W fun e w' => e = .returned (.tuple #[.int .i64 B.seq, .int .i64 0]) ∧ Only (fun _ => False) W w') := Lib.hid (fun W hW => Seq_is W r r [] B (finds_root _ r) ((hB.still oL).still hW))
  have HK : Hid (∀ W, Calls Tryz.prog 170 #[str k] W fun e w' => e = .returned (.int .i64 0) ∧ W = w') := Lib.hid (fun W => hkey ▸ key_is W k hk)
  have HA : Hid (∀ W, Only (fun _ => False) (laidW w 4 [] k v o) W → Calls Tryz.prog 172 #[.iface 193 (.agg #[.pointer (some ⟨r, 0, none⟩)]), .agg #[.int .i64 4, str [], str k, str v, str o]] W fun e w' => e = .returned (replyV E V) ∧ Q w' ∧ Only (fun j => j = B.mv) W w') := Lib.hid (fun W hW => hA W (oL.trans hW (fun _ _ q => q)))
  have HC : Hid (∀ W, Only (fun j => j = B.mv) (laidW w 4 [] k v o) W → CmdAt w.heap.size 4 [] k v o W) := Lib.hid (fun W hW => cL.only hW (fun q => by omega))
  have HRP : Hid (∀ W, Only (fun j => j = B.mv) (laidW w 4 [] k v o) W → W.heap[w.heap.size + 1]? = some (.cells #[.int .i64 0, .string ⟨#[]⟩] 68 (0, 0))) := Lib.hid (fun W hW => (hW.block _ (blk_lt rL) (by omega)).trans rL)
  have HU : Hid (∀ W, Only (fun _ => False) (laidW w 4 [] k v o) W → Only (fun j => j = B.mv) (laidW w 4 [] k v o) W) := Lib.hid (fun W hW => hW.mono (fun _ _ (q : False) => q.elim))
  have HU2 : Hid (∀ W, Only (fun j => j = B.mv) (laidW w 4 [] k v o) W → Only (fun j => j = B.mv) w W) := Lib.hid (fun W hW => Only.trans (oL.mono (fun _ _ (q : False) => q.elim)) hW (fun _ _ q => q))
  obtain ⟨c0, c1, c2, c3, c4⟩ := cL
  unfold laidW at c0 c1 c2 c3 c4
  clear oL hB rL hkey hA
  unfold groundV at *
  go_enter Tryz.func150, Tryz.ntmps150
  go_wp2_with fail
  (with_reducible refine (HN.out _).mono ?_)
  rintro e _ ⟨rfl, rfl⟩
  go_wp2_with fail
  (with_reducible refine (HS.out _ (Only.refl _ _)).mono ?_)
  rintro e w2 ⟨rfl, o2⟩
  have O2 := Lib.hid o2
  have h2 := HC.out w2 (HU.out _ o2)
  obtain ⟨d0, d1, d2, d3, d4⟩ := h2
  clear o2
  go_wp2_with fail
  (with_reducible refine (HK.out _).mono ?_)
  rintro e _ ⟨rfl, rfl⟩
  go_wp2_with fail
  (with_reducible refine (HA.out _ O2.out).mono ?_)
  rintro e w3 ⟨rfl, hq, o3⟩
  have HQ := Lib.hid hq
  have Q3 := Lib.hid ((HU.out _ O2.out).trans o3 (fun _ _ q => q))
  have HRB := Lib.hid (HRP.out w3 Q3.out)
  clear hq o3
  have r0 := blk_cell HRB.out 0
  have r1 := blk_cell HRB.out 1
  have f0 := blk_frozen HRB.out 0
  have f1 := blk_frozen HRB.out 1
  simp only [List.getElem?_toArray, List.getElem?_cons_zero, List.getElem?_cons_succ] at r0 r1
  try unfold replyV
  go_wp2_with fail
  obtain ⟨g0, g1, o6⟩ := reply_set w3 _ HRB.out E (str V)
  refine bodyPost_ret (v := replyV E V) (by simp [results, Tryz.results150, go_sem, g0, g1, replyV]) rfl ⟨rfl, ?_⟩
  exact ⟨w3, HQ.out, HU2.out _ Q3.out, o6⟩
set_option maxRecDepth 100000 in
set_option maxHeartbeats 8000000 in
theorem do_delete (w : World) (r : Nat) (k : Bytes) (B : Box) (E : Int) (Q : World → Prop) (hB : BoxAt w r B) (hk : k.length ≤ maxLen) (hkey : keyErr k = 0)
    (hA : ∀ W, Only (fun _ => False) w W → Calls Tryz.prog 271 #[.agg #[.pointer (some ⟨r, 0, none⟩)], str [], str k] W fun e w' => e = .returned (.int .i64 E) ∧ Q w' ∧ Only (fun j => j = B.mv) W w') :
    Calls Tryz.prog 150 #[groundV r, .agg #[.int .i64 2, str [], str k, str [], str []]] w fun e w' => e = .returned (replyV E []) ∧ ∃ w2, Q w2 ∧ Only (fun j => j = B.mv) w w2 ∧ Only (fun j => j = w.heap.size + 1) w2 w' := by
  obtain ⟨oL, cL, rL⟩ := cmd_laid w 2 [] k [] []
  have hSeq := fun n => mP_Seq n r
  have hDel := fun n => mP_Delete n r
  have hmvlt := hB.vals.lt
  have HN := Lib.hid names_root
  have HS : Hid (∀ W, Only (fun _ => False) (laidW w 2 [] k [] []) W → Calls Tryz.prog 277 #[.agg #[.pointer (some ⟨r, 0, none⟩)], str []] W fun e w' => e = .returned (.tuple #[.int .i64 B.seq, .int .i64 0]) ∧ Only (fun _ => False) W w') := Lib.hid (fun W hW => Seq_is W r r [] B (finds_root _ r) ((hB.still oL).still hW))
  have HK : Hid (∀ W, Calls Tryz.prog 170 #[str k] W fun e w' => e = .returned (.int .i64 0) ∧ W = w') := Lib.hid (fun W => hkey ▸ key_is W k hk)
  have HA : Hid (∀ W, Only (fun _ => False) (laidW w 2 [] k [] []) W → Calls Tryz.prog 271 #[.agg #[.pointer (some ⟨r, 0, none⟩)], str [], str k] W fun e w' => e = .returned (.int .i64 E) ∧ Q w' ∧ Only (fun j => j = B.mv) W w') := Lib.hid (fun W hW => hA W (oL.trans hW (fun _ _ q => q)))
  have HC : Hid (∀ W, Only (fun j => j = B.mv) (laidW w 2 [] k [] []) W → CmdAt w.heap.size 2 [] k [] [] W) := Lib.hid (fun W hW => cL.only hW (fun q => by omega))
  have HRP : Hid (∀ W, Only (fun j => j = B.mv) (laidW w 2 [] k [] []) W → W.heap[w.heap.size + 1]? = some (.cells #[.int .i64 0, .string ⟨#[]⟩] 68 (0, 0))) := Lib.hid (fun W hW => (hW.block _ (blk_lt rL) (by omega)).trans rL)
  have HU : Hid (∀ W, Only (fun _ => False) (laidW w 2 [] k [] []) W → Only (fun j => j = B.mv) (laidW w 2 [] k [] []) W) := Lib.hid (fun W hW => hW.mono (fun _ _ (q : False) => q.elim))
  have HU2 : Hid (∀ W, Only (fun j => j = B.mv) (laidW w 2 [] k [] []) W → Only (fun j => j = B.mv) w W) := Lib.hid (fun W hW => Only.trans (oL.mono (fun _ _ (q : False) => q.elim)) hW (fun _ _ q => q))
  obtain ⟨c0, c1, c2, c3, c4⟩ := cL
  unfold laidW at c0 c1 c2 c3 c4
  clear oL hB rL hkey hA
  unfold groundV at *
  go_enter Tryz.func150, Tryz.ntmps150
  go_wp2_with fail
  (with_reducible refine (HN.out _).mono ?_)
  rintro e _ ⟨rfl, rfl⟩
  go_wp2_with fail
  (with_reducible refine (HS.out _ (Only.refl _ _)).mono ?_)
  rintro e w2 ⟨rfl, o2⟩
  have O2 := Lib.hid o2
  have h2 := HC.out w2 (HU.out _ o2)
  obtain ⟨d0, d1, d2, d3, d4⟩ := h2
  clear o2
  go_wp2_with fail
  (with_reducible refine (HK.out _).mono ?_)
  rintro e _ ⟨rfl, rfl⟩
  go_wp2_with fail
  (with_reducible refine (HA.out _ O2.out).mono ?_)
  rintro e w3 ⟨rfl, hq, o3⟩
  have HQ := Lib.hid hq
  have Q3 := Lib.hid ((HU.out _ O2.out).trans o3 (fun _ _ q => q))
  have HRB := Lib.hid (HRP.out w3 Q3.out)
  clear hq o3
  have r0 := blk_cell HRB.out 0
  have r1 := blk_cell HRB.out 1
  have f0 := blk_frozen HRB.out 0
  have f1 := blk_frozen HRB.out 1
  simp only [List.getElem?_toArray, List.getElem?_cons_zero, List.getElem?_cons_succ] at r0 r1
  try unfold replyV
  go_wp2_with fail
  obtain ⟨g0, g1, o6⟩ := reply_set w3 _ HRB.out E (str [])
  refine bodyPost_ret (v := replyV E []) (by simp [results, Tryz.results150, go_sem, g0, g1, replyV]) rfl ⟨rfl, ?_⟩
  exact ⟨w3, HQ.out, HU2.out _ Q3.out, o6⟩
set_option maxRecDepth 100000 in
set_option maxHeartbeats 8000000 in
theorem do_put (w : World) (r : Nat) (k v : Bytes) (B : Box) (E : Int) (Q : World → Prop) (hB : BoxAt w r B) (hk : k.length ≤ maxLen) (hkey : keyErr k = 0)
    (hA : ∀ W, Only (fun _ => False) w W → Calls Tryz.prog 276 #[.agg #[.pointer (some ⟨r, 0, none⟩)], str [], str k, str v] W fun e w' => e = .returned (.int .i64 E) ∧ Q w' ∧ Only (fun j => j = B.mv) W w') :
    Calls Tryz.prog 150 #[groundV r, .agg #[.int .i64 1, str [], str k, str v, str []]] w fun e w' => e = .returned (replyV E []) ∧ ∃ w2, Q w2 ∧ Only (fun j => j = B.mv) w w2 ∧ Only (fun j => j = w.heap.size + 1) w2 w' := by
  obtain ⟨oL, cL, rL⟩ := cmd_laid w 1 [] k v []
  have hSeq := fun n => mP_Seq n r
  have hPut := fun n => mP_Put n r
  have hmvlt := hB.vals.lt
  have HN := Lib.hid names_root
  have HS : Hid (∀ W, Only (fun _ => False) (laidW w 1 [] k v []) W → Calls Tryz.prog 277 #[.agg #[.pointer (some ⟨r, 0, none⟩)], str []] W fun e w' => e = .returned (.tuple #[.int .i64 B.seq, .int .i64 0]) ∧ Only (fun _ => False) W w') := Lib.hid (fun W hW => Seq_is W r r [] B (finds_root _ r) ((hB.still oL).still hW))
  have HK : Hid (∀ W, Calls Tryz.prog 170 #[str k] W fun e w' => e = .returned (.int .i64 0) ∧ W = w') := Lib.hid (fun W => hkey ▸ key_is W k hk)
  have HA : Hid (∀ W, Only (fun _ => False) (laidW w 1 [] k v []) W → Calls Tryz.prog 276 #[.agg #[.pointer (some ⟨r, 0, none⟩)], str [], str k, str v] W fun e w' => e = .returned (.int .i64 E) ∧ Q w' ∧ Only (fun j => j = B.mv) W w') := Lib.hid (fun W hW => hA W (oL.trans hW (fun _ _ q => q)))
  have HC : Hid (∀ W, Only (fun j => j = B.mv) (laidW w 1 [] k v []) W → CmdAt w.heap.size 1 [] k v [] W) := Lib.hid (fun W hW => cL.only hW (fun q => by omega))
  have HRP : Hid (∀ W, Only (fun j => j = B.mv) (laidW w 1 [] k v []) W → W.heap[w.heap.size + 1]? = some (.cells #[.int .i64 0, .string ⟨#[]⟩] 68 (0, 0))) := Lib.hid (fun W hW => (hW.block _ (blk_lt rL) (by omega)).trans rL)
  have HU : Hid (∀ W, Only (fun _ => False) (laidW w 1 [] k v []) W → Only (fun j => j = B.mv) (laidW w 1 [] k v []) W) := Lib.hid (fun W hW => hW.mono (fun _ _ (q : False) => q.elim))
  have HU2 : Hid (∀ W, Only (fun j => j = B.mv) (laidW w 1 [] k v []) W → Only (fun j => j = B.mv) w W) := Lib.hid (fun W hW => Only.trans (oL.mono (fun _ _ (q : False) => q.elim)) hW (fun _ _ q => q))
  obtain ⟨c0, c1, c2, c3, c4⟩ := cL
  unfold laidW at c0 c1 c2 c3 c4
  clear oL hB rL hkey hA
  unfold groundV at *
  go_enter Tryz.func150, Tryz.ntmps150
  go_wp2_with fail
  (with_reducible refine (HN.out _).mono ?_)
  rintro e _ ⟨rfl, rfl⟩
  go_wp2_with fail
  (with_reducible refine (HS.out _ (Only.refl _ _)).mono ?_)
  rintro e w2 ⟨rfl, o2⟩
  have O2 := Lib.hid o2
  have h2 := HC.out w2 (HU.out _ o2)
  obtain ⟨d0, d1, d2, d3, d4⟩ := h2
  clear o2
  go_wp2_with fail
  (with_reducible refine (HK.out _).mono ?_)
  rintro e _ ⟨rfl, rfl⟩
  go_wp2_with fail
  (with_reducible refine (HA.out _ O2.out).mono ?_)
  rintro e w3 ⟨rfl, hq, o3⟩
  have HQ := Lib.hid hq
  have Q3 := Lib.hid ((HU.out _ O2.out).trans o3 (fun _ _ q => q))
  have HRB := Lib.hid (HRP.out w3 Q3.out)
  clear hq o3
  have r0 := blk_cell HRB.out 0
  have r1 := blk_cell HRB.out 1
  have f0 := blk_frozen HRB.out 0
  have f1 := blk_frozen HRB.out 1
  simp only [List.getElem?_toArray, List.getElem?_cons_zero, List.getElem?_cons_succ] at r0 r1
  try unfold replyV
  go_wp2_with fail
  obtain ⟨g0, g1, o6⟩ := reply_set w3 _ HRB.out E (str [])
  refine bodyPost_ret (v := replyV E []) (by simp [results, Tryz.results150, go_sem, g0, g1, replyV]) rfl ⟨rfl, ?_⟩
  exact ⟨w3, HQ.out, HU2.out _ Q3.out, o6⟩
end Go.Proofs.YtlkknekflgclgaaGreatDoor
