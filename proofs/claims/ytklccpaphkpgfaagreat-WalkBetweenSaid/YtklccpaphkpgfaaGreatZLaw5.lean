/- The law's first call: a tree of two items, a cursor on it, what it finds. Conditions: one goroutine. -/
import Derived.Test.YtklccpaphkpgfaaGreatZLaw3
import Derived.Test.YtklccpaphkpgfaaGreatZLaw4
namespace Go.Proofs.YtklccpaphkpgfaaGreat
open Go.RowKit

def two : List Item := [⟨[97], [], 0⟩, ⟨[99], [], 0⟩]
theorem two_made : madeL two = two := by decide +kernel
theorem two_find : findAt two [98] = 1 := by decide +kernel
theorem two_row (w : World) : RowAt itemC 3 (w.alloc (.cells #[str [97], str [], .int .i64 0, str [99], str [], .int .i64 0] 29)) (.slice (some ⟨w.heap.size, 0, none⟩) 2 2) two :=
  .some w.heap.size 0 2 two fun i x j u hx hu => by
    have h := heap_alloc_new w (.cells #[str [97], str [], .int .i64 0, str [99], str [], .int .i64 0] 29)
    rw [heap_cell h]
    match i, hx with
    | 0, hx =>
      cases hx
      match j, hu with
      | 0, hu => exact hu
      | 1, hu => exact hu
      | 2, hu => exact hu
      | j + 3, hu => cases hu
    | 1, hx =>
      cases hx
      match j, hu with
      | 0, hu => exact hu
      | 1, hu => exact hu
      | 2, hu => exact hu
      | j + 3, hu => cases hu
    | i + 2, hx => cases hx
theorem MadeTo.grown {S : PSt} {root : Int} {l : List Item} (h : MadeTo S root l l.length) (hl : l.length ≤ 150) : Grown S root (madeL l) := by
  have h1 := h.rooted
  rw [List.take_length] at h1
  have h2 := madeL_length l
  have h3 := h.few
  have h4 := h.stop
  exact ⟨h1, by omega, by omega, by omega⟩

set_option maxRecDepth 100000 in
set_option maxHeartbeats 4000000 in
theorem alive_is (w : World) : Calls Tryz.prog 8 #[] w fun e w' => e = .returned (.bool true) ∧ Only (fun _ => False) w w' := by
  have HROW := Lib.hid two_row
  have HMADE := fun (W : World) (h : ∀ j, rowBlock (.slice (some ⟨W.heap.size, 0, none⟩) 2 2) = some j → j < (W.alloc (.cells #[str [97], str [], .int .i64 0, str [99], str [], .int .i64 0] 29)).heap.size) => Made_is _ _ two (HROW.out W) h (by decide)
  have HM := Lib.hid HMADE
  clear HMADE
  go_enter Tryz.func8, Tryz.ntmps8
  go_wp2_with fail
  refine (HM.out w (fun j hj => by cases hj; simp)).mono ?_
  rintro e w1 ⟨b, root, vh, S, rfl, hP, hT, _, hR, hA, ho1, hb1⟩
  have hG := hT.grown (by decide)
  rw [two_made] at hR hG
  have hON := goes_on w1 b S root two hP
  have HON := Lib.hid hON
  have ho := ((Only.refl (fun _ => False) w).alloc (.cells #[str [97], str [], .int .i64 0, str [99], str [], .int .i64 0] 29)).trans ho1 (fun _ _ q => q)
  have hs0 := ((Only.refl (fun _ => False) w).alloc (.cells #[str [97], str [], .int .i64 0, str [99], str [], .int .i64 0] 29)).size
  have HX := Lib.hid (And.intro hP (And.intro hG (And.intro hR (And.intro hA (And.intro ho hb1)))))
  clear hP hT hR hA ho1 hb1 hG hON ho HM HROW
  unfold pagesV at HON
  go_wp2_with fail
  refine HON.out.mono ?_
  rintro e w2 ⟨rfl, hc2, hs2, ho2⟩
  obtain ⟨hP, hG, hR, hA, ho, hb1⟩ := HX.out
  have hold : Hold w w2 w1.heap.size b S root two vh ⟨S, root, [], 0⟩ (fun k => k = w1.heap.size) none := by
    have hp : ∀ j, pown w2 b j ↔ pown w1 b j := fun j => pown_of_heap (ho2.block b hP.lt id) j
    refine ⟨hc2, hs2, ho.trans ho2 (fun _ _ q => q), fun j e => by have := ho.size; omega, fun j q => by have := hb1 j ((hp j).1 q); omega, hR.only ho2 (fun _ _ => id), fun j hj => ?_⟩
    obtain ⟨_, h2, h3⟩ := hA j hj
    exact ⟨Nat.lt_of_lt_of_le h2 ho2.size, by omega, fun q => h3 ((hp j).1 q)⟩
  have HSK := Lib.hid (hold_seek hG hold [98])
  have e1 : skOf two [98] = some 1 := by unfold skOf; rw [two_find]; rfl
  rw [e1] at HSK
  clear HX hP hG hR hA ho hb1 hc2 hs2 ho2 hold HON e1
  generalize w1.heap.size = x at *
  unfold HGoes str at HSK
  go_wp2_with fail
  refine HSK.out.mono ?_
  rintro e w3 ⟨rfl, c3, F3, H3, _⟩
  have hit := hold_item H3
  have e2 : itemAt two (some 1) = .agg #[.string ⟨#[99]⟩, .string ⟨#[]⟩, .int .i64 0] := rfl
  rw [e2] at hit
  have HIT := Lib.hid hit
  clear hit e2
  have HH := Lib.hid H3
  clear H3 HSK
  go_wp2_with fail
  refine HIT.out.mono ?_
  rintro e w4 ⟨rfl, H4⟩
  have hA4 : (w4.alloc (.cells #[.string ⟨#[99]⟩, .string ⟨#[]⟩, .int .i64 0] 29)).cell? ⟨w4.heap.size, 0, none⟩ = some (.string ⟨#[99]⟩) := by rw [heap_cell (heap_alloc_new w4 _)]; rfl
  have HV := Lib.hid (hold_err (H4.still ((Only.refl (fun _ => False) w4).alloc (.cells #[.string ⟨#[99]⟩, .string ⟨#[]⟩, .int .i64 0] 29))))
  have HO4 := Lib.hid (H4.only.trans ((Only.refl (fun _ => False) w4).alloc (.cells #[.string ⟨#[99]⟩, .string ⟨#[]⟩, .int .i64 0] 29)) (fun _ _ q => q))
  clear H4 HIT HH
  go_wp2_with fail
  refine HV.out.mono ?_
  rintro e w5 ⟨rfl, rfl⟩
  go_wp2_with fail
  go_ret
  exact ⟨rfl, HO4.out⟩
end Go.Proofs.YtklccpaphkpgfaaGreat
