/- The law's acts as they lie in memory: are they few and short. Conditions: one goroutine; the acts lie in memory. -/
import Derived.Test.YtklccpaphkpgfaaGreatZLaw2
namespace Go.Proofs.YtklccpaphkpgfaaGreat
open Go.RowKit

/-- An act: its kind, an item. -/
structure Do where
  kind : Int
  item : Item
def doC (d : Do) : List Value := .int .i64 d.kind :: itemC d.item
/-- The cells of a row's k-th act. -/
theorem row_do {w : World} {a : Option Addr} {n c : Nat} {l : List Do} (h : RowAt doC 4 w (.slice a n c) l) {k : Nat} {x : Do} (hx : l[k]? = some x) :
    ∃ g off, a = some ⟨g, off, none⟩ ∧ w.cell? ⟨g, off + k * 4, none⟩ = some (.int .i64 x.kind) ∧ w.cell? ⟨g, off + k * 4 + 1, none⟩ = some (str x.item.key) ∧ w.cell? ⟨g, off + k * 4 + 2, none⟩ = some (str x.item.val) ∧ w.cell? ⟨g, off + k * 4 + 3, none⟩ = some (.int .i64 x.item.kind) := by
  cases h with
  | none => simp at hx
  | some g off cap _ hc => exact ⟨g, off, rfl, hc k x 0 _ hx rfl, hc k x 1 _ hx rfl, hc k x 2 _ hx rfl, hc k x 3 _ hx rfl⟩
theorem room3_range (left a b : Int) (hl : -1 ≤ left ∧ left ≤ 20000) (ha : 0 ≤ a) (hb : 0 ≤ b) : -1 ≤ room2 left a b ∧ room2 left a b ≤ 20000 := by
  unfold room2
  split
  · omega
  · split
    · omega
    · omega

/-- How the question ends whether acts are few. -/
def Light12Ends (w : World) (l : List Do) (e : Ending) (w' : World) : Prop := ∃ bl : Bool, e = .returned (.bool bl) ∧ (bl = true → l.length ≤ 250) ∧ Only (fun _ => False) w w'

set_option maxRecDepth 100000 in
set_option maxHeartbeats 2000000 in
theorem Light12_is (w : World) (v : Value) (l : List Do) (h : RowAt doC 4 w v l) (hn : l.length ≤ 9223372036854775807) (hlen : ∀ x ∈ l, x.item.key.length ≤ 9223372036854775807 ∧ x.item.val.length ≤ 9223372036854775807) :
    Calls Tryz.prog 14 #[v] w (Light12Ends w l) := by
  have hform : ∃ a c, v = .slice a l.length c := by cases h with
    | none => exact ⟨_, _, rfl⟩
    | some g off cap => exact ⟨_, _, rfl⟩
  obtain ⟨a, c, rfl⟩ := hform
  have HV := Lib.hid h
  clear h
  go_enter Tryz.func14, Tryz.ntmps14
  go_wp2_with fail
  go_loopg [3, 4] 501 (fun gh rm ix wr => ∃ (k : Nat) (room : Int), gh + k = 501 ∧ k ≤ 500 ∧ ix = .int .i64 k ∧ rm = .int .i64 room ∧ -1 ≤ room ∧ room ≤ 20000 ∧ Only (fun _ => False) w wr)
  case atStart => exact ⟨0, 20000, by omega, by omega, rfl, rfl, by omega, by omega, Only.refl _ w⟩
  case round =>
    obtain ⟨k, room, hgh, hk300, rfl, rfl, hr1, hr2, ho⟩ := hrel
    have HO := Lib.hid ho
    clear ho
    by_cases hk : k < l.length
    · have hk1 : (k : Int) < (l.length : Int) := by omega
      by_cases hk3 : k < 500
      · have hk3' : (k : Int) < 500 := by omega
        by_cases hr : 0 ≤ room
        · obtain ⟨x, hx⟩ : ∃ x, l[k]? = some x := ⟨_, List.getElem?_eq_getElem hk⟩
          have hrow := row_only HV.out HO.out (fun _ _ => fun q => q)
          obtain ⟨g, off, rfl, _, i0, i1, _⟩ := row_do hrow hx
          have hxl := hlen x (List.mem_of_getElem? hx)
          have hw1 : IntKind.i64.wrap ((k : Int) + 1) = (k : Int) + 1 := by exact IntWalk.i64_in _ (by omega)
          clear hrow hx
          have hRM := fun (W : World) (g2 cap : Nat) h0 h1 => Room_is W room (x.item.key.length : Int) (x.item.val.length : Int) g2 cap (by omega) (by omega) (by omega) h0 h1
          have HRM := Lib.hid hRM
          have hrr := room3_range room x.item.key.length x.item.val.length (by omega) (by omega) (by omega)
          have HB : Hid (∀ W : World, ((W.alloc (.cells #[.int .i64 (x.item.key.length : Int), .int .i64 (x.item.val.length : Int)] 3)).drew).heap[W.heap.size]? = some (.cells #[.int .i64 (x.item.key.length : Int), .int .i64 (x.item.val.length : Int)] 3 (0, 0))) := Lib.hid (fun W => heap_alloc_new W _)
          have oA := ((Only.refl (fun _ => False) wr).alloc (.cells #[.int .i64 (x.item.key.length : Int), .int .i64 (x.item.val.length : Int)] 3)).drew
          have HOA := Lib.hid (HO.out.trans oA (fun _ _ q => q))
          clear hRM oA
          generalize hrm : room2 room x.item.key.length x.item.val.length = rm at *
          go_wp2_with fail
          go_region_with (go_at_call 23; refine (HRM.out _ _ _ (heap_cell (HB.out wr) 0) (heap_cell (HB.out wr) 1)).mono ?_; rintro e w4 ⟨rfl, o4⟩)
          all_goals
            go_wp2_with fail
            go_roundg (gk - 1)
            case measure => omega
            case rel => exact ⟨k + 1, rm, by omega, by omega, by go_num, rfl, by omega, by omega, HOA.out.trans o4 (fun _ _ q => q)⟩
        · have hr' : ¬ (0 : Int) ≤ room := by omega
          go_wp2_with fail
          all_goals go_ret
          all_goals exact ⟨false, rfl, by simp, HO.out⟩
      · have hk3' : ¬ (k : Int) < 500 := by omega
        have hbig : ¬ (l.length : Int) ≤ 250 := by omega
        go_wp2_with fail
        all_goals go_ret
        all_goals exact ⟨false, rfl, by simp, HO.out⟩
    · have hk1 : ¬ (k : Int) < (l.length : Int) := by omega
      by_cases hsm : l.length ≤ 250
      · go_wp2_with fail
        all_goals go_ret
        all_goals exact ⟨_, rfl, fun _ => hsm, HO.out⟩
      · have hbig : ¬ (l.length : Int) ≤ 250 := by omega
        go_wp2_with fail
        all_goals go_ret
        all_goals exact ⟨false, rfl, by simp, HO.out⟩
end Go.Proofs.YtklccpaphkpgfaaGreat
