/- The law's items: are they few and short. Conditions: one goroutine; the items lie in memory. -/
import Derived.Test.YtklccpaphkpgfaaGreatZLaw1
import Derived.Deep.RegionWith
namespace Go.Proofs.YtklccpaphkpgfaaGreat
open Go.RowKit

theorem room2_range (left a b : Int) (hl : -1 ≤ left ∧ left ≤ 12000) (ha : 0 ≤ a) (hb : 0 ≤ b) : -1 ≤ room2 left a b ∧ room2 left a b ≤ 12000 := by
  unfold room2
  split
  · omega
  · split
    · omega
    · omega

/-- How the question ends whether items are few. -/
def LightEnds (w : World) (l : List Item) (e : Ending) (w' : World) : Prop := ∃ bl : Bool, e = .returned (.bool bl) ∧ (bl = true → l.length ≤ 150) ∧ Only (fun _ => False) w w'

set_option maxRecDepth 100000 in
set_option maxHeartbeats 2000000 in
theorem Light_is (w : World) (v : Value) (l : List Item) (h : RowAt itemC 3 w v l) (hn : l.length ≤ 9223372036854775807) (hlen : ∀ x ∈ l, x.key.length ≤ 9223372036854775807 ∧ x.val.length ≤ 9223372036854775807) :
    Calls Tryz.prog 7 #[v] w (LightEnds w l) := by
  have hform : ∃ a c, v = .slice a l.length c := by cases h with
    | none => exact ⟨_, _, rfl⟩
    | some g off cap => exact ⟨_, _, rfl⟩
  obtain ⟨a, c, rfl⟩ := hform
  have HV := Lib.hid h
  clear h
  go_enter Tryz.func7, Tryz.ntmps7
  go_wp2_with fail
  go_loopg [3, 4] 301 (fun gh rm ix wr => ∃ (k : Nat) (room : Int), gh + k = 301 ∧ k ≤ 300 ∧ ix = .int .i64 k ∧ rm = .int .i64 room ∧ -1 ≤ room ∧ room ≤ 12000 ∧ Only (fun _ => False) w wr)
  case atStart => exact ⟨0, 12000, by omega, by omega, rfl, rfl, by omega, by omega, Only.refl _ w⟩
  case round =>
    obtain ⟨k, room, hgh, hk300, rfl, rfl, hr1, hr2, ho⟩ := hrel
    have HO := Lib.hid ho
    clear ho
    by_cases hk : k < l.length
    · have hk1 : (k : Int) < (l.length : Int) := by omega
      by_cases hk3 : k < 300
      · have hk3' : (k : Int) < 300 := by omega
        by_cases hr : 0 ≤ room
        · obtain ⟨x, hx⟩ : ∃ x, l[k]? = some x := ⟨_, List.getElem?_eq_getElem hk⟩
          have hrow := row_only HV.out HO.out (fun _ _ => fun q => q)
          obtain ⟨g, off, rfl, i0, i1, i2⟩ := row_item hrow hx
          have hxl := hlen x (List.mem_of_getElem? hx)
          have hw1 : IntKind.i64.wrap ((k : Int) + 1) = (k : Int) + 1 := by exact IntWalk.i64_in _ (by omega)
          clear hrow hx
          have hRM := fun (W : World) (g2 cap : Nat) h0 h1 => Room_is W room (x.key.length : Int) (x.val.length : Int) g2 cap (by omega) (by omega) (by omega) h0 h1
          have HRM := Lib.hid hRM
          have hrr := room2_range room x.key.length x.val.length (by omega) (by omega) (by omega)
          have HB : Hid (∀ W : World, ((W.alloc (.cells #[.int .i64 (x.key.length : Int), .int .i64 (x.val.length : Int)] 3)).drew).heap[W.heap.size]? = some (.cells #[.int .i64 (x.key.length : Int), .int .i64 (x.val.length : Int)] 3 (0, 0))) := Lib.hid (fun W => heap_alloc_new W _)
          have oA := ((Only.refl (fun _ => False) wr).alloc (.cells #[.int .i64 (x.key.length : Int), .int .i64 (x.val.length : Int)] 3)).drew
          have HOA := Lib.hid (HO.out.trans oA (fun _ _ q => q))
          clear hRM oA
          generalize hrm : room2 room x.key.length x.val.length = rm at *
          go_wp2_with fail
          go_region_with (go_at_call 23; refine (HRM.out _ _ _ (heap_cell (HB.out wr) 0) (heap_cell (HB.out wr) 1)).mono ?_; rintro e w4 ⟨rfl, o4⟩)
          all_goals
            go_wp2_with fail
            go_roundg (gk - 1)
            case measure => omega
            case rel => exact ⟨k + 1, rm, by omega, by omega, by go_num, rfl, by omega, by omega, HOA.out.trans o4 (fun _ _ q => q)⟩
        · have hr' : ¬ (0 : Int) ≤ room := by omega
          go_wp2_with fail
          all_goals go_ret
          all_goals exact ⟨false, rfl, by simp, HO.out⟩
      · have hk3' : ¬ (k : Int) < 300 := by omega
        have hbig : ¬ (l.length : Int) ≤ 150 := by omega
        go_wp2_with fail
        all_goals go_ret
        all_goals exact ⟨false, rfl, by simp, HO.out⟩
    · have hk1 : ¬ (k : Int) < (l.length : Int) := by omega
      by_cases hsm : l.length ≤ 150
      · go_wp2_with fail
        all_goals go_ret
        all_goals exact ⟨_, rfl, fun _ => hsm, HO.out⟩
      · have hbig : ¬ (l.length : Int) ≤ 150 := by omega
        go_wp2_with fail
        all_goals go_ret
        all_goals exact ⟨false, rfl, by simp, HO.out⟩
end Go.Proofs.YtklccpaphkpgfaaGreat
