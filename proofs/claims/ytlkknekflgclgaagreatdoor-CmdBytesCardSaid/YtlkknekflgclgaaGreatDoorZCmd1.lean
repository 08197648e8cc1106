/- Package cmd: buckets as plain maps in memory: a new one; the root is found; what a look at it tells. Conditions: one goroutine; the path is the root's. -/
import Derived.Test.YtlkknekflgclgaaGreatDoorZMap1
import Derived.Test.YtlkknekflgclgaaGreatDoorZHeap1
import Derived.Carry
namespace Go.Proofs.YtlkknekflgclgaaGreatDoor
open Go.RowKit

/-- Texts as elements; buckets as elements. -/
def CS : Coded Tryz.prog 9 Bytes where
  val := str
  code := fun x => .lit (.string x)
  R := fun v => match v with | .string s => some (.lit (.string s.data.toList), []) | _ => none
  reads := fun x => by simp
  back := fun v z h => by
    cases v <;> simp at h
    rename_i s
    exact ⟨s.data.toList, by simp [str], h.symm⟩
  inj := fun x y h => by simpa using h
  zero := []
  zeroIs := fun w => by kernel_rfl
def ptrV : Option Nat → Value
  | some k => .pointer (some ⟨k, 0, none⟩)
  | none => .pointer none
def ptrN : Option Nat → Int
  | some k => k
  | none => -1
def ptrR : Value → Option (DataW Unit × List MemPlace)
  | .pointer (some ⟨k, 0, none⟩) => some (.lit (.int .i64 (k : Int)), [])
  | .pointer none => some (.lit (.int .i64 (-1)), [])
  | _ => none
def CP : Coded Tryz.prog 188 (Option Nat) where
  val := ptrV
  code := fun x => .lit (.int .i64 (ptrN x))
  R := ptrR
  reads := fun x => by cases x <;> rfl
  back := fun v z h => by
    unfold ptrR at h
    split at h
    · rename_i k
      exact ⟨some k, rfl, (Option.some.inj h).symm⟩
    · exact ⟨none, rfl, (Option.some.inj h).symm⟩
    · cases h
  inj := fun x y h => by
    have h2 : ptrN x = ptrN y := by simpa using h
    cases x <;> cases y <;> simp [ptrN] at h2 ⊢ <;> omega
  zero := none
  zeroIs := fun w => by kernel_rfl
/-- A bucket: its maps' blocks, how much they may hold, its number, its values, the buckets within. -/
structure Box where
  mv : Nat
  mi : Nat
  nv : Nat
  ni : Nat
  seq : Int
  V : Bytes → Option Bytes
  I : Bytes → Option (Option Nat)
structure BoxAt (w : World) (r : Nat) (B : Box) : Prop where
  heap : w.heap[r]? = some (.cells #[.int .i64 B.seq, .map (some B.mv), .map (some B.mi)] 221 (0, 0))
  vals : MapIs CS 9 w B.mv B.nv B.V
  ins : MapIs CP 9 w B.mi B.ni B.I
  d1 : r ≠ B.mv
  d2 : r ≠ B.mi
  d3 : B.mv ≠ B.mi
theorem BoxAt.lt {w : World} {r : Nat} {B : Box} (h : BoxAt w r B) : r < w.heap.size := (Array.getElem?_eq_some_iff.1 h.heap).1
theorem BoxAt.only {w w' : World} {r : Nat} {B : Box} {T : Nat → Prop} (h : BoxAt w r B) (ho : Only T w w') (h1 : ¬ T r) (h2 : ¬ T B.mv) (h3 : ¬ T B.mi) : BoxAt w' r B :=
  ⟨(ho.block r h.lt h1).trans h.heap, h.vals.only ho h2, h.ins.only ho h3, h.d1, h.d2, h.d3⟩
theorem BoxAt.still {w w' : World} {r : Nat} {B : Box} (h : BoxAt w r B) (ho : Only (fun _ => False) w w') : BoxAt w' r B := h.only ho id id id
theorem BoxAt.cells {w : World} {r : Nat} {B : Box} (h : BoxAt w r B) : w.cell? ⟨r, 0, none⟩ = some (.int .i64 B.seq) ∧ w.cell? ⟨r, 1, none⟩ = some (.map (some B.mv)) ∧ w.cell? ⟨r, 2, none⟩ = some (.map (some B.mi)) := by
  have c0 := blk_cell h.heap 0
  have c1 := blk_cell h.heap 1
  have c2 := blk_cell h.heap 2
  simp only [List.getElem?_toArray, List.getElem?_cons_zero, List.getElem?_cons_succ] at c0 c1 c2
  exact ⟨c0, c1, c2⟩
/-- A new bucket. -/
def newBox (a b : Nat) : Box := ⟨a, b, 0, 0, 0, fun _ => none, fun _ => none⟩

theorem box_made (w : World) : BoxAt (((w.alloc (.map #[] 0)).alloc (.map #[] 0)).alloc (.cells #[.int .i64 0, .map (some w.heap.size), .map (some (w.heap.size + 1))] 221)) (w.heap.size + 1 + 1) (newBox w.heap.size (w.heap.size + 1)) ∧ Only (fun _ => False) w (((w.alloc (.map #[] 0)).alloc (.map #[] 0)).alloc (.cells #[.int .i64 0, .map (some w.heap.size), .map (some (w.heap.size + 1))] 221)) := by
  have s1 : ∀ (W : World) (o : Obj), (W.alloc o).heap.size = W.heap.size + 1 := fun W o => Array.size_push _
  have o1 := (Only.refl (fun _ => False) w).alloc (.map #[] 0)
  have o2 := (Only.refl (fun _ => False) (w.alloc (.map #[] 0))).alloc (.map #[] 0)
  have o3 := (Only.refl (fun _ => False) ((w.alloc (.map #[] 0)).alloc (.map #[] 0))).alloc (.cells #[.int .i64 0, .map (some w.heap.size), .map (some (w.heap.size + 1))] 221)
  have m1 := ((MapIs.made CS 9 w).only o2 id).only o3 id
  have m2 := (MapIs.made CP 9 (w.alloc (.map #[] 0))).only o3 id
  have c := blk_new ((w.alloc (.map #[] 0)).alloc (.map #[] 0)) (.cells #[.int .i64 0, .map (some w.heap.size), .map (some (w.heap.size + 1))] 221)
  rw [s1, s1] at c
  rw [s1] at m2
  refine ⟨⟨c, m1, m2, ?_, ?_, ?_⟩, (o1.trans o2 (fun _ _ q => q)).trans o3 (fun _ _ q => q)⟩
  all_goals show _ ≠ _
  all_goals simp only [newBox]
  all_goals omega
set_option maxRecDepth 100000 in
set_option maxHeartbeats 2000000 in
theorem empty_is (w : World) : Calls Tryz.prog 149 #[] w fun e w' => ∃ r a b, e = .returned (.pointer (some ⟨r, 0, none⟩)) ∧ BoxAt w' r (newBox a b) ∧ Only (fun _ => False) w w' ∧ w.heap.size ≤ r ∧ w.heap.size ≤ a ∧ w.heap.size ≤ b := by
  have hr1 := fun (W : World) => run_makeMap (P := Tryz.prog) 123 W
  have hr2 := fun (W : World) => run_makeMap (P := Tryz.prog) 219 W
  go_enter Tryz.func149, Tryz.ntmps149
  go_wp2_with fail
  have H := Lib.hid (box_made w)
  go_ret
  exact ⟨_, _, _, rfl, H.out.1, H.out.2, by omega, by omega, by omega⟩
theorem Path_root (w : World) : Calls Tryz.prog 7 #[str []] w fun e w' => e = .returned (.tuple #[.slice none 0 0, .int .i64 0]) ∧ w = w' := by
  go_enter Tryz.func7, Tryz.ntmps7
  go_wp2_with fail
  go_ret2
  exact ⟨rfl, rfl⟩
set_option maxRecDepth 100000 in
theorem names_root (w : World) : Calls Tryz.prog 167 #[str []] w fun e w' => e = .returned (.tuple #[.slice none 0 0, .int .i64 0]) ∧ w = w' := by
  have HP := Lib.hid Path_root
  go_enter Tryz.func167, Tryz.ntmps167
  go_wp2_with fail
  (with_reducible refine (HP.out w).mono ?_)
  rintro e _ ⟨rfl, rfl⟩
  go_wp2_with fail
  go_loopg [15] 0 (fun _ iv wr => iv = .int .i64 0 ∧ w = wr)
  case atStart => exact ⟨rfl, rfl⟩
  case round =>
    obtain ⟨rfl, rfl⟩ := hrel
    go_wp2_with fail
    go_ret2
    exact ⟨rfl, rfl⟩
set_option maxRecDepth 100000 in
theorem find_root (w : World) (r : Nat) : Calls Tryz.prog 280 #[.agg #[.pointer (some ⟨r, 0, none⟩)], str []] w fun e w' => e = .returned (.tuple #[.pointer (some ⟨r, 0, none⟩), .int .i64 0]) ∧ Only (fun _ => False) w w' := by
  have HP := Lib.hid Path_root
  have ho := (Only.refl (fun _ => False) w).alloc (.cells #[.pointer (some ⟨r, 0, none⟩)] 193)
  have c0 := blk_cell (blk_new w (.cells #[.pointer (some ⟨r, 0, none⟩)] 193)) 0
  simp only [List.getElem?_toArray, List.getElem?_cons_zero] at c0
  have HO := Lib.hid ho
  clear ho
  go_enter Tryz.func280, Tryz.ntmps280
  go_wp2_with fail
  (with_reducible refine (HP.out _).mono ?_)
  rintro e _ ⟨rfl, rfl⟩
  go_wp2_with fail
  go_loopg [8, 27] 0 (fun _ bv iv wr => iv = .int .i64 0 ∧ bv = .pointer (some ⟨r, 0, none⟩) ∧ Only (fun _ => False) w wr)
  case atStart => exact ⟨rfl, rfl, HO.out⟩
  case round =>
    obtain ⟨rfl, rfl, ho⟩ := hrel
    have HF := Lib.hid ho
    clear ho
    go_wp2_with fail
    go_ret2
    exact ⟨rfl, HF.out⟩
end Go.Proofs.YtlkknekflgclgaaGreatDoor
