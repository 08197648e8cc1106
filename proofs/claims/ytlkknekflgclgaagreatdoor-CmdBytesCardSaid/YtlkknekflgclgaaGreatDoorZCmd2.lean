/- Package cmd: a plain bucket's Seq, Get, Put, Delete where its path is found. Conditions: one goroutine; the bucket's blocks are its own. -/
import Derived.Test.YtlkknekflgclgaaGreatDoorZCmd1
import Derived.OwnWalk
namespace Go.Proofs.YtlkknekflgclgaaGreatDoor
open Go.RowKit

def ptr (r : Nat) : Value := .pointer (some ⟨r, 0, none⟩)
def plainV (r : Nat) : Value := .agg #[.pointer (some ⟨r, 0, none⟩)]
/-- In this memory, and wherever nothing of it is another, this path leads to block r. -/
def Finds (w : World) (root : Nat) (p : Bytes) (r : Nat) : Prop :=
  ∀ u, Only (fun _ => False) w u → Calls Tryz.prog 280 #[.agg #[.pointer (some ⟨root, 0, none⟩)], str p] u fun e u' => e = .returned (.tuple #[.pointer (some ⟨r, 0, none⟩), .int .i64 0]) ∧ Only (fun _ => False) u u'
theorem finds_root (w : World) (r : Nat) : Finds w r [] r := fun u _ => find_root u r
theorem Finds.still {w w' : World} {root r : Nat} {p : Bytes} (h : Finds w root p r) (ho : Only (fun _ => False) w w') : Finds w' root p r := fun u hu => h u (ho.trans hu (fun _ _ q => q))

/-- What a deletion answers. -/
def delErr (o : Option Bytes) : Int := if o.isSome then 0 else 8
/-- The receiver laid in a block of its own. -/
theorem recv_laid (w : World) (root : Nat) : Only (fun _ => False) w (w.alloc (.cells #[.pointer (some ⟨root, 0, none⟩)] 193)) ∧ (w.alloc (.cells #[.pointer (some ⟨root, 0, none⟩)] 193)).cell? ⟨w.heap.size, 0, none⟩ = some (.pointer (some ⟨root, 0, none⟩)) := by
  have c0 := blk_cell (blk_new w (.cells #[.pointer (some ⟨root, 0, none⟩)] 193)) 0
  simp only [List.getElem?_toArray, List.getElem?_cons_zero] at c0
  exact ⟨(Only.refl (fun _ => False) w).alloc _, c0⟩

set_option maxRecDepth 100000 in
theorem Seq_is (w : World) (root r : Nat) (p : Bytes) (B : Box) (hF : Finds w root p r) (hB : BoxAt w r B) : Calls Tryz.prog 277 #[.agg #[.pointer (some ⟨root, 0, none⟩)], str p] w fun e w' => e = .returned (.tuple #[.int .i64 B.seq, .int .i64 0]) ∧ Only (fun _ => False) w w' := by
  obtain ⟨ho, c0⟩ := recv_laid w root
  have HF := Lib.hid (hF _ ho)
  have HB := Lib.hid (hB.still ho)
  have HO := Lib.hid ho
  clear ho hF hB
  go_enter Tryz.func277, Tryz.ntmps277
  go_wp2_with fail
  (with_reducible refine HF.out.mono ?_)
  rintro e w2 ⟨rfl, ho⟩
  have hc := (HB.out.still ho).cells.1
  have HO2 := Lib.hid ho
  clear ho
  go_wp2_with fail
  go_ret2
  exact ⟨rfl, HO.out.trans HO2.out (fun _ _ q => q)⟩
set_option maxRecDepth 100000 in
theorem at_is (w : World) (root r : Nat) (p k : Bytes) (B : Box) (hF : Finds w root p r) (hB : BoxAt w r B) (hk : k.length ≤ maxLen) (hI : B.I k = none) : Calls Tryz.prog 278 #[.agg #[.pointer (some ⟨root, 0, none⟩)], str p, str k] w fun e w' => e = .returned (.tuple #[.pointer (some ⟨r, 0, none⟩), .int .i64 0]) ∧ Only (fun _ => False) w w' := by
  obtain ⟨ho, c0⟩ := recv_laid w root
  have HF := Lib.hid (hF _ ho)
  have HB := Lib.hid (hB.still ho)
  have HO := Lib.hid ho
  clear ho hF hB
  go_enter Tryz.func278, Tryz.ntmps278
  go_wp2_with fail
  (with_reducible refine HF.out.mono ?_)
  rintro e w2 ⟨rfl, ho⟩
  have hb := HB.out.still ho
  have hc := hb.cells.2.2
  have hl := hb.ins.look (t := 219) (by kernel_rfl) (by kernel_rfl) true k hk
  rw [hI] at hl
  simp only [if_true, Option.getD_none, Option.isSome_none] at hl
  have HO2 := Lib.hid ho
  clear ho hb
  go_wp2_with fail
  go_ret2
  exact ⟨rfl, HO.out.trans HO2.out (fun _ _ q => q)⟩
set_option maxRecDepth 100000 in
theorem Get_is (w : World) (root r : Nat) (p k : Bytes) (B : Box) (hF : Finds w root p r) (hB : BoxAt w r B) (hk : k.length ≤ maxLen) (hI : B.I k = none) : Calls Tryz.prog 273 #[.agg #[.pointer (some ⟨root, 0, none⟩)], str p, str k] w fun e w' => e = .returned (.tuple #[str ((B.V k).getD []), .bool (B.V k).isSome, .int .i64 0]) ∧ Only (fun _ => False) w w' := by
  obtain ⟨ho, c0⟩ := recv_laid w root
  have HA := Lib.hid (at_is _ root r p k B (hF.still ho) (hB.still ho) hk hI)
  have HB := Lib.hid (hB.still ho)
  have HO := Lib.hid ho
  clear ho hF hB
  generalize hx : (B.V k).getD [] = x
  generalize hy : (B.V k).isSome = y
  go_enter Tryz.func273, Tryz.ntmps273
  go_wp2_with fail
  (with_reducible refine HA.out.mono ?_)
  rintro e w2 ⟨rfl, ho⟩
  have hb := HB.out.still ho
  have hc := hb.cells.2.1
  have hl := hb.vals.look (t := 123) (by kernel_rfl) (by kernel_rfl) true k hk
  simp only [if_true] at hl
  have hz : CS.val ((B.V k).getD CS.zero) = str ((B.V k).getD []) := rfl
  rw [hz, hx, hy] at hl
  have HO2 := Lib.hid ho
  clear ho hb hz
  go_wp2_with fail
  go_ret3
  exact ⟨rfl, HO.out.trans HO2.out (fun _ _ q => q)⟩
set_option maxRecDepth 100000 in
theorem Put_long (w : World) (root : Nat) (p k v : Bytes) (hv : 2000 < v.length) (_hv2 : v.length ≤ maxLen) : Calls Tryz.prog 276 #[.agg #[.pointer (some ⟨root, 0, none⟩)], str p, str k, str v] w fun e w' => e = .returned (.int .i64 2) ∧ Only (fun _ => False) w w' := by
  obtain ⟨ho, c0⟩ := recv_laid w root
  have HO := Lib.hid ho
  clear ho
  go_enter Tryz.func276, Tryz.ntmps276
  go_wp2_with fail
  go_ret
  exact ⟨rfl, HO.out⟩
set_option maxRecDepth 100000 in
theorem Put_is (w : World) (root r : Nat) (p k v : Bytes) (B : Box) (hF : Finds w root p r) (hB : BoxAt w r B) (hk : k.length ≤ maxLen) (hI : B.I k = none) (hv : v.length ≤ 2000) (hn : B.nv < maxLen) : Calls Tryz.prog 276 #[.agg #[.pointer (some ⟨root, 0, none⟩)], str p, str k, str v] w fun e w' => e = .returned (.int .i64 0) ∧ BoxAt w' r { B with V := upM B.V k v, nv := B.nv + 1 } ∧ Only (fun j => j = B.mv) w w' := by
  obtain ⟨ho, c0⟩ := recv_laid w root
  have HA := Lib.hid (at_is _ root r p k B (hF.still ho) (hB.still ho) hk hI)
  have HB := Lib.hid (hB.still ho)
  have HO := Lib.hid ho
  clear ho hF hB
  go_enter Tryz.func276, Tryz.ntmps276
  go_wp2_with fail
  (with_reducible refine HA.out.mono ?_)
  rintro e w2 ⟨rfl, ho⟩
  have hb := HB.out.still ho
  have hc := hb.cells.2.1
  obtain ⟨w3, hrun, hm, ho3⟩ := hb.vals.put (t := 123) (by kernel_rfl) (by kernel_rfl) k v hk hn
  have hz : CS.val v = str v := rfl
  rw [hz] at hrun
  have HE := Lib.hid (show BoxAt w3 r { B with V := upM B.V k v, nv := B.nv + 1 } from ⟨(ho3.block r hb.lt hb.d1).trans hb.heap, hm, hb.ins.only ho3 (fun q => hb.d3 q.symm), hb.d1, hb.d2, hb.d3⟩)
  have HO2 := Lib.hid (Only.trans (S := fun j => j = B.mv) ((HO.out.trans ho (fun _ _ q => q)).mono (fun _ _ q => q.elim)) ho3 (fun _ _ q => q))
  have HO1 := Lib.hid (show Only (fun j => j = B.mv) w w2 from (HO.out.trans ho (fun _ _ q => q)).mono (fun _ _ q => q.elim))
  clear ho hb hz ho3 hm
  go_wp2_with fail
  go_ret
  exact ⟨rfl, HE.out, HO2.out⟩
set_option maxRecDepth 100000 in
theorem Delete_is (w : World) (root r : Nat) (p k : Bytes) (B : Box) (hF : Finds w root p r) (hB : BoxAt w r B) (hk : k.length ≤ maxLen) (hI : B.I k = none) : Calls Tryz.prog 271 #[.agg #[.pointer (some ⟨root, 0, none⟩)], str p, str k] w fun e w' => e = .returned (.int .i64 (delErr (B.V k))) ∧ BoxAt w' r { B with V := offM B.V k } ∧ Only (fun j => j = B.mv) w w' := by
  obtain ⟨ho, c0⟩ := recv_laid w root
  have HA := Lib.hid (at_is _ root r p k B (hF.still ho) (hB.still ho) hk hI)
  have HB := Lib.hid (hB.still ho)
  have HO := Lib.hid ho
  clear ho hF hB
  go_enter Tryz.func271, Tryz.ntmps271
  go_wp2_with fail
  (with_reducible refine HA.out.mono ?_)
  rintro e w2 ⟨rfl, ho⟩
  have hb := HB.out.still ho
  have hc := hb.cells.2.1
  have hl := hb.vals.look (t := 123) (by kernel_rfl) (by kernel_rfl) true k hk
  simp only [if_true] at hl
  obtain ⟨w3, hrun, hm, ho3⟩ := hb.vals.off (t := 123) (by kernel_rfl) (by kernel_rfl) k hk 0
  have HE := Lib.hid (show BoxAt w3 r { B with V := offM B.V k } from ⟨(ho3.block r hb.lt hb.d1).trans hb.heap, hm, hb.ins.only ho3 (fun q => hb.d3 q.symm), hb.d1, hb.d2, hb.d3⟩)
  have HO2 := Lib.hid (Only.trans (S := fun j => j = B.mv) ((HO.out.trans ho (fun _ _ q => q)).mono (fun _ _ q => q.elim)) ho3 (fun _ _ q => q))
  have HO1 := Lib.hid (show Only (fun j => j = B.mv) w w2 from (HO.out.trans ho (fun _ _ q => q)).mono (fun _ _ q => q.elim))
  have HB2 := Lib.hid hb
  clear ho ho3 hm hb
  cases hV : B.V k with
  | none =>
    have HE2 := Lib.hid (show BoxAt w2 r { B with V := offM B.V k } from by
      have : offM B.V k = B.V := by
        funext z
        unfold offM
        split
        · rename_i q; rw [q, hV]
        · rfl
      rw [this]; exact HB2.out)
    rw [hV] at hl
    simp only [Option.isSome_none, Option.getD_none] at hl
    have HV := Lib.hid hV
    clear hV
    go_wp2_with fail
    go_ret
    refine ⟨?_, HE2.out, HO1.out⟩
    rw [HV.out]; rfl
  | some x =>
    rw [hV] at hl
    simp only [Option.isSome_some, Option.getD_some] at hl
    have HV := Lib.hid hV
    clear hV
    go_wp2_with fail
    go_ret
    refine ⟨?_, HE.out, HO2.out⟩
    rw [HV.out]; rfl
end Go.Proofs.YtlkknekflgclgaaGreatDoor
