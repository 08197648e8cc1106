/- The law's book, of items: all lists are marked. Conditions: one goroutine; each list lies in memory of its own; they are few and short. -/
import Derived.Test.YtklccpaphkpgfaaGreatZBookA
namespace Go.Proofs.YtklccpaphkpgfaaGreat
open Go.RowKit

theorem set_cells3b (l : List Item) (k : Nat) (z : Item) (hk : k < l.length) : ((((l.flatMap itemC).set (k * 3) (str z.key)).set (k * 3 + 1) (str z.val)).set (k * 3 + 2) (.int .i64 z.kind)) = (l.set k z).flatMap itemC := by
  induction l generalizing k with
  | nil => simp at hk
  | cons a l ih =>
    cases k with
    | zero => rfl
    | succ k =>
      have := ih k (by simpa using hk)
      rw [List.flatMap_cons, List.set_cons_succ, List.flatMap_cons, ← this]
      have e0 : (k + 1) * 3 = k * 3 + 3 := by omega
      have hl : (itemC a).length = 3 := rfl
      rw [e0, List.set_append_right _ _ (by rw [hl]; omega), List.set_append_right _ _ (by rw [hl]; omega), List.set_append_right _ _ (by rw [hl]; omega), hl]
      rw [show k * 3 + 3 - 3 = k * 3 by omega, show k * 3 + 3 + 1 - 3 = k * 3 + 1 by omega, show k * 3 + 3 + 2 - 3 = k * 3 + 2 by omega]

theorem put_next {l m : List Item} {j : Nat} {x : Item} (hx : m[j]? = some x) (hl : j < l.length) : (m.take j ++ l.drop j).set j x = m.take (j + 1) ++ l.drop (j + 1) := by
  have hj := (List.getElem?_eq_some_iff.1 hx).1
  have e : (m.take j).length = j := by rw [List.length_take]; omega
  rw [List.set_append_right _ _ (by omega), e, Nat.sub_self, List.take_add_one, hx, List.drop_eq_getElem_cons hl, List.set_cons_zero, List.append_assoc]
  rfl
/-- How the book stands when all its lists are marked. -/
def PutTold (w : World) (k : Nat) (vI : Value) (xs : List Value) (ls : List (List Item)) (B : Nat) : Ending → World → Prop := fun e w' => e = .returned (.tuple #[]) ∧ BookX w' k vI xs (marksTo ls ls.length) B ∧ Only (fun b => ∃ v ∈ xs, OwnB v b) w w'

set_option maxRecDepth 100000 in
set_option maxHeartbeats 8000000 in
theorem putItems_is (w : World) (k : Nat) (vI : Value) (xs : List Value) (ls : List (List Item)) (B : Nat) (h : BookX w k vI xs ls B) (hl : ls.length < 250) (hn : ∀ l ∈ ls, l.length ≤ 1000) :
    Calls Tryz.prog 49 #[.pointer (some ⟨k, 0, none⟩)] w (PutTold w k vI xs ls B) := by
  have hxl := h.len
  obtain ⟨n, hnx⟩ : ∃ n, ls.length = n := ⟨_, rfl⟩
  have hn250 : n < 250 := by omega
  obtain ⟨aI, cI, rfl⟩ := ownsRow_form h.rowI
  rw [show xs.length = n by omega] at h ⊢
  have HH := Lib.hid (And.intro h (And.intro hn (And.intro hnx (show xs.length = n by omega))))
  have HX0 := Lib.hid h
  clear h hn hnx hxl hl
  go_enter Tryz.func49, Tryz.ntmps49
  go_wp2_with fail
  go_loopg [2] n (fun gh iv wr => ∃ i : Nat, gh + i = n ∧ iv = .int .i64 i ∧ BookX wr k (.slice aI n cI) xs (marksTo ls i) B ∧ Only (fun b => ∃ v ∈ xs, OwnB v b) w wr)
  case atStart => exact ⟨0, by omega, rfl, by rw [marksTo_zero]; exact HX0.out, Only.refl _ w⟩
  case round =>
    obtain ⟨i, hgi, rfl, hX, ho⟩ := hrel
    obtain ⟨vW, hheap⟩ := hX.heap
    have d4 := heap_cell hheap 4
    simp only [List.getElem?_toArray, List.getElem?_cons_zero, List.getElem?_cons_succ] at d4
    have HX := Lib.hid (And.intro hX ho)
    clear hheap ho HX0
    by_cases hi : i < n
    · have hi2 : (i : Int) < (n : Int) := by omega
      have hi3 : (0 : Int) ≤ (i : Int) := by omega
      have hw1 : IntKind.i64.wrap ((i : Int) + 1) = (i : Int) + 1 := by exact IntWalk.i64_in _ (by omega)
      obtain ⟨x, hx⟩ : ∃ x, xs[i]? = some x := ⟨_, List.getElem?_eq_getElem (by have := HH.out.2.2.2; omega)⟩
      obtain ⟨l, hl⟩ : ∃ l, ls[i]? = some l := ⟨_, List.getElem?_eq_getElem (by have := HH.out.2.2.1; omega)⟩
      have hl2 : (marksTo ls i)[i]? = some l := by rw [marksTo_at, hl]; simp
      have rI := hX.rowI
      rw [HH.out.2.2.2] at rI
      obtain ⟨gI, rfl⟩ : ∃ g, aI = some ⟨g, 0, none⟩ := (own_addr rI).resolve_left (fun q => by have := q.2.1; omega)
      have ex := own_cell rI i x hx
      have rx := hX.rows i x l hx hl2
      have hll := HH.out.2.1 l (List.mem_of_getElem? hl)
      obtain ⟨aX, cX, rfl⟩ := ownsRow_form rx
      have HNX := Lib.hid (marksTo_next hl)
      have HB : Hid (Calls Tryz.prog 100 #[.int .i64 (i : Int), .int .i64 0, .int .i64 (l.length : Int)] wr (OwnTold wr (marksI i 0 l.length))) := Lib.hid (markI_is wr i 0 l.length (by omega) (by omega))
      have HL := Lib.hid (And.intro hx hl)
      clear hX hl2 rI hx hl rx
      unfold OwnTold at HB
      go_wp2_with fail
      (with_reducible refine HB.out.mono ?_)
      rintro e w2 ⟨vm, rfl, hm, o2, hmn⟩
      rw [marksI_length] at hm
      obtain ⟨aM, cM, rfl⟩ := ownsRow_form hm
      have HX2 := Lib.hid (HX.out.1.only o2 (fun q => q) (fun _ _ q => q) (fun _ _ _ _ q => q))
      have HO2 := Lib.hid (HX.out.2.trans o2 (fun _ _ q => q.elim))
      have HM2 := Lib.hid (And.intro hm (fun b (e : OwnB (Value.slice aM l.length cM) b) => (⟨hmn b e, (hm.lt b e).2⟩ : wr.heap.size ≤ b ∧ b < w2.heap.size)))
      obtain ⟨mm, hmm⟩ : ∃ mm, marksI i 0 l.length = mm := ⟨_, rfl⟩
      have hml : mm.length = l.length := by rw [← hmm, marksI_length]
      rw [hmm] at HM2 HNX
      have HML := Lib.hid hml
      have hnv : ∀ b, OwnB (.slice aX l.length cX) b → b < wr.heap.size := fun b e => ((HX.out.1.rows i _ l HL.out.1 (by rw [marksTo_at, HL.out.2]; simp)).lt b e).2
      have HNV := Lib.hid hnv
      clear hm o2 hmn HB hmm hml hnv d4 ex
      go_wp2_with fail
      go_loopg [4] l.length (fun gh jv wr2 => ∃ j : Nat, gh + j = l.length ∧ jv = .int .i64 j ∧ BookX wr2 k (.slice (some ⟨gI, 0, none⟩) n cI) xs ((marksTo ls i).set i (mm.take j ++ l.drop j)) B ∧ wr2.ownsRow 0 29 3 (.slice aM l.length cM) l.length (mm.flatMap itemC) ∧ Only (fun b => ∃ v ∈ xs, OwnB v b) w wr2)
      case atStart =>
        refine ⟨0, by omega, rfl, ?_, HM2.out.1, HO2.out⟩
        have e : (marksTo ls i).set i (mm.take 0 ++ l.drop 0) = marksTo ls i := by
          apply List.ext_getElem?
          intro j
          rw [List.getElem?_set]
          by_cases hij : i = j
          · subst hij
            rw [if_pos rfl, if_pos (by rw [marksTo_length]; exact (List.getElem?_eq_some_iff.1 HL.out.2).1), marksTo_at, HL.out.2]
            simp
          · rw [if_neg hij]
        rw [e]
        exact HX2.out
      case round =>
        obtain ⟨j, hgj, rfl, hX, hM, ho⟩ := hrel
        by_cases hj : j < l.length
        · have hj2 : (j : Int) < (l.length : Int) := by omega
          have hj3 : (0 : Int) ≤ (j : Int) := by omega
          have hwj : IntKind.i64.wrap ((j : Int) + 1) = (j : Int) + 1 := by have := HH.out.2.1 l (List.mem_of_getElem? HL.out.2); exact IntWalk.i64_in _ (by omega)
          obtain ⟨z, hz⟩ : ∃ z, mm[j]? = some z := ⟨_, List.getElem?_eq_getElem (by have := HML.out; omega)⟩
          obtain ⟨L, hL⟩ : ∃ L, mm.take j ++ l.drop j = L := ⟨_, rfl⟩
          have hLl : L.length = l.length := by rw [← hL, List.length_append, List.length_take, List.length_drop]; have := HML.out; omega
          have hNX2 := put_next hz hj
          rw [hL] at hX hNX2
          have hrx := hX.rows i _ L HL.out.1 (by rw [List.getElem?_set, if_pos rfl, if_pos (by rw [marksTo_length]; exact (List.getElem?_eq_some_iff.1 HL.out.2).1)])
          rw [hLl] at hrx
          obtain ⟨gX, rfl⟩ : ∃ g, aX = some ⟨g, 0, none⟩ := (own_addr hrx).resolve_left (fun q => by have := q.2.1; omega)
          obtain ⟨gM, rfl⟩ : ∃ g, aM = some ⟨g, 0, none⟩ := (own_addr hM).resolve_left (fun q => by have := q.2.1; omega)
          obtain ⟨vW, hheap⟩ := hX.heap
          have d4 := heap_cell hheap 4
          simp only [List.getElem?_toArray, List.getElem?_cons_zero, List.getElem?_cons_succ] at d4
          have rI := hX.rowI
          rw [HH.out.2.2.2] at rI
          have ex := own_cell rI i _ HL.out.1
          obtain ⟨_, _, he, m0, m1, m2⟩ := row_item (row_own (enc := itemC) (k := 3) (fun _ => rfl) (by have := hM; rw [← HML.out] at this; exact this)) hz
          cases he
          obtain ⟨u, hu⟩ : ∃ u, L[j]? = some u := ⟨_, List.getElem?_eq_getElem (by omega)⟩
          obtain ⟨_, _, he, x0, x1, x2⟩ := row_item (row_own (enc := itemC) (k := 3) (fun _ => rfl) (by have := hrx; rw [← hLl] at this; exact this)) hu
          cases he
          simp only [Nat.zero_add] at m0 m1 m2 x0 x1 x2
          have hgm : gM ≠ gX := fun e => by have h1 := (HM2.out.2 gM rfl).1; have h2 := HNV.out gX rfl; omega
          obtain ⟨X0, hX0⟩ : ∃ X0, j * 3 = X0 := ⟨_, rfl⟩
          rw [hX0] at m0 m1 m2 x0 x1 x2
          have z0 := own_frozen hrx X0
          have z1 := own_frozen hrx (X0 + 1)
          have z2 := own_frozen hrx (X0 + 2)
          have HQ := Lib.hid (And.intro hX (And.intro hM (And.intro ho (And.intro hrx (And.intro hLl (And.intro hNX2 hgm))))))
          have hjL : Hid (j < L.length) := Lib.hid (by omega)
          clear hX hM ho hrx hLl hNX2 hL hz hheap rI hu hgm
          go_wp2_with fail
          go_region_law (fail)
          all_goals
            go_wp2_with fail
            go_roundg (gk - 1)
            case measure => omega
            case rel =>
              obtain ⟨hX, hM, ho, hrx, hLl, hNX2, hgm⟩ := HQ.out
              subst hX0
              have hrow := (own_set (own_set (own_set hrx (j * 3) (str z.key)) (j * 3 + 1) (str z.val)) (j * 3 + 2) (.int .i64 z.kind)).drew
              rw [set_cells3b L j z hjL.out] at hrow
              have hoF := (((Only.refl (fun b => OwnB (.slice (some ⟨gX, 0, none⟩) l.length cX) b) wr).put gX (j * 3) rfl (str z.key)).put gX (j * 3 + 1) rfl (str z.val)).put gX (j * 3 + 2) rfl (.int .i64 z.kind) |>.drew
              have hw := hX.write HL.out.1 (L.set j z) (by rw [List.length_set, hLl]; exact hrow) hoF
              rw [List.set_set, hNX2] at hw
              exact ⟨j + 1, by omega, by go_num, hw, own_only hM hoF (fun b e q => hgm ((Option.some.inj e).trans (Option.some.inj q).symm)), ho.trans hoF (fun b _ q => ⟨_, List.mem_of_getElem? HL.out.1, q⟩)⟩
        · obtain rfl : j = l.length := by omega
          have hj2 : ¬ (l.length : Int) < (l.length : Int) := by omega
          have e : mm.take l.length ++ l.drop l.length = mm := by rw [List.take_of_length_le (by rw [HML.out]; exact Nat.le_refl _), List.drop_length, List.append_nil]
          rw [e, ← HNX.out] at hX
          have HF := Lib.hid (And.intro hX ho)
          clear hX hM ho e
          go_wp2_with fail
          go_roundg (n - (i + 1))
          case measure => omega
          case rel => exact ⟨i + 1, by omega, by go_num, HF.out.1, HF.out.2⟩
    · obtain rfl : i = n := by omega
      have hi2 : ¬ (i : Int) < (i : Int) := by omega
      go_wp2_with fail
      go_end0
      have e : marksTo ls ls.length = marksTo ls i := by rw [HH.out.2.2.1]
      exact ⟨rfl, by rw [e]; exact HX.out.1, HX.out.2⟩
end Go.Proofs.YtklccpaphkpgfaaGreat
