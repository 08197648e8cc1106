/- Package cmd: State.Do over a command's own effect; a new state. Conditions: one goroutine. -/
import Derived.Test.YtlkknekflgclgaaGreatDoorZCmd7
import Derived.Deep.RegionWith
namespace Go.Proofs.YtlkknekflgclgaaGreatDoor
open Go.RowKit

theorem box_replied {w w2 w3 : World} {r : Nat} {B B' : Box} (hB : BoxAt w r B) (hmv : B'.mv = B.mv) (hmi : B'.mi = B.mi) (h2 : BoxAt w2 r B') (o2 : Only (fun j => j = B.mv) w w2) (o3 : Only (fun j => j = w.heap.size + 1) w2 w3) : BoxAt w3 r B' ∧ Only (fun j => j = B.mv) w w3 := by
  have l1 := hB.lt
  have l2 := hB.vals.lt
  have l3 := hB.ins.lt
  exact ⟨h2.only o3 (by omega) (by omega) (by omega), o2.trans o3 (fun i hi q => by omega)⟩
/-- A state: one cell, the root's box. -/
def StAt (w : World) (st r : Nat) : Prop := w.heap[st]? = some (.cells #[.pointer (some ⟨r, 0, none⟩)] 191 (0, 0))
set_option maxRecDepth 100000 in
set_option maxHeartbeats 4000000 in
theorem SDo_is (w : World) (st r : Nat) (B B' : Box) (kd : Int) (p k v o : Bytes) (E : Int) (V : Bytes) (hst : StAt w st r) (hB : BoxAt w r B) (hmv : B'.mv = B.mv) (hmi : B'.mi = B.mi) (_hne : st ≠ B.mv)
    (hD : ∀ W, Only (fun _ => False) w W → Calls Tryz.prog 150 #[groundV r, .agg #[.int .i64 kd, str p, str k, str v, str o]] W fun e w' => e = .returned (replyV E V) ∧ BoxAt w' r B' ∧ Only (fun j => j = B.mv) W w') :
    Calls Tryz.prog 92 #[.pointer (some ⟨st, 0, none⟩), .agg #[.int .i64 kd, str p, str k, str v, str o]] w fun e w' => e = .returned (replyV E V) ∧ BoxAt w' r B' ∧ Only (fun j => j = B.mv) w w' := by
  obtain ⟨oL, cL, rL⟩ := cmd_laid w kd p k v o
  have hmvlt := hB.vals.lt
  have s0 : (laidW w kd p k v o).cell? ⟨st, 0, none⟩ = some (.pointer (some ⟨r, 0, none⟩)) := blk_cell ((oL.block st (blk_lt hst) id).trans hst) 0
  have HD : Hid (∀ W, Only (fun _ => False) (laidW w kd p k v o) W → Calls Tryz.prog 150 #[groundV r, .agg #[.int .i64 kd, str p, str k, str v, str o]] W fun e w' => e = .returned (replyV E V) ∧ BoxAt w' r B' ∧ Only (fun j => j = B.mv) W w') := Lib.hid (fun W hW => hD W (oL.trans hW (fun _ _ q => q)))
  have HRP : Hid (∀ W, Only (fun j => j = B.mv) (laidW w kd p k v o) W → W.heap[w.heap.size + 1]? = some (.cells #[.int .i64 0, .string ⟨#[]⟩] 68 (0, 0))) := Lib.hid (fun W hW => (hW.block _ (blk_lt rL) (by omega)).trans rL)
  have HU2 : Hid (∀ W, Only (fun j => j = B.mv) (laidW w kd p k v o) W → Only (fun j => j = B.mv) w W) := Lib.hid (fun W hW => Only.trans (oL.mono (fun _ _ (q : False) => q.elim)) hW (fun _ _ q => q))
  have HBX := Lib.hid (fun w2 w3 => @box_replied w w2 w3 r B B' hB hmv hmi)
  obtain ⟨c0, c1, c2, c3, c4⟩ := cL
  unfold laidW at c0 c1 c2 c3 c4 s0
  clear oL hB rL hD hst hmv hmi
  unfold groundV at *
  have hrep : replyV E V = .agg #[.int .i64 E, str V] := rfl
  rw [hrep] at HD
  clear hrep
  have HL : Hid (Only (fun _ => False) (laidW w kd p k v o) (laidW w kd p k v o).drew) := Lib.hid (Only.refl _ _).drew
  go_enter Tryz.func92, Tryz.ntmps92
  go_wp2_with fail
  go_region_with (first | ((with_reducible refine (HD.out _ HL.out).mono ?_); rintro _ w3 ⟨rfl, b3, o3⟩; have Q3 := Lib.hid ((HL.out.mono (T := fun j => j = B.mv) (fun _ _ (q : False) => q.elim)).trans o3 (fun _ _ q => q)); have HRB := Lib.hid (HRP.out w3 Q3.out); have HB3 := Lib.hid b3; clear b3 o3; have r0 : w3.cell? ⟨w.heap.size + 1, 0, none⟩ = some (.int .i64 0) := blk_cell HRB.out 0; have r1 : w3.cell? ⟨w.heap.size + 1, 1, none⟩ = some (.string ⟨#[]⟩) := blk_cell HRB.out 1; have f0 := blk_frozen HRB.out 0; have f1 := blk_frozen HRB.out 1))
  all_goals (
    go_wp2_with fail
    obtain ⟨g0, g1, o6⟩ := reply_set w3 _ HRB.out E (str V)
    refine bodyPost_ret (v := replyV E V) (by simp [results, Tryz.results92, go_sem, g0, g1, replyV]) rfl ⟨rfl, ?_⟩
    exact HBX.out _ _ HB3.out (HU2.out _ Q3.out) o6)
set_option maxRecDepth 100000 in
theorem New_is (w : World) : Calls Tryz.prog 91 #[] w fun e w' => ∃ st r a b, e = .returned (.pointer (some ⟨st, 0, none⟩)) ∧ StAt w' st r ∧ BoxAt w' r (newBox a b) ∧ Only (fun _ => False) w w' ∧ w.heap.size ≤ r ∧ w.heap.size ≤ a ∧ w.heap.size ≤ b ∧ w.heap.size ≤ st ∧ st ≠ a ∧ st ≠ b ∧ st ≠ r := by
  have HE := Lib.hid (empty_is w)
  go_enter Tryz.func91, Tryz.ntmps91
  go_wp2_with fail
  (with_reducible refine HE.out.mono ?_)
  rintro e w2 ⟨r, a, b, rfl, hB, ho, h1, h2, h3⟩
  have o2 := (Only.refl (fun _ => False) w2).alloc (.cells #[.pointer (some ⟨r, 0, none⟩)] 191)
  have HO := Lib.hid (ho.trans o2 (fun _ _ q => q))
  have HS := Lib.hid (blk_new w2 (.cells #[.pointer (some ⟨r, 0, none⟩)] 191))
  have HB := Lib.hid (hB.still o2)
  have l0 := hB.lt
  have l1 : a < w2.heap.size := hB.vals.lt
  have l2 : b < w2.heap.size := hB.ins.lt
  have l3 := ho.size
  clear ho o2 hB
  go_wp2_with fail
  go_ret
  exact ⟨_, r, a, b, rfl, HS.out, HB.out, HO.out, h1, h2, h3, l3, by omega, by omega, by omega⟩
end Go.Proofs.YtlkknekflgclgaaGreatDoor
