/- TreeEmpties: a tree of which all is deleted is empty, and has given all its pages back. Conditions: one goroutine; the items lie in memory. -/
import Derived.Test.YtklccpaphkpgfaaGreatZDrops1
import Derived.Test.YtklccpaphkpgfaaGreatZAcc
import Derived.Test.YtklccpaphkpgfaaGreatZLaw2
import Derived.Deep.RegionHeld3
import Derived.BigRegion
namespace Go.Proofs.YtklccpaphkpgfaaGreat
open Go.RowKit

theorem room5_range (left a b : Int) (hl : -1 ≤ left ∧ left ≤ 10000) (ha : 0 ≤ a) (hb : 0 ≤ b) : -1 ≤ room2 left a b ∧ room2 left a b ≤ 10000 := by
  unfold room2
  split
  · omega
  · split
    · omega
    · omega
/-- How the law ends. -/
def EmpEnds (w : World) : Ending → World → Prop := fun e w' => e = .returned (.bool true) ∧ Only (fun _ => False) w w'
/-- How the law stands: the tree, and where each page is. -/
def Told12 (S : PSt) (root : Int) (h : List Item) : Prop := ∃ ids, Rooted S.L root h ids ∧ Counted S ids
theorem Told12.none : Told12 noPages 0 [] := ⟨[], .none, Counted.none⟩
theorem Told12.act {S : PSt} {root : Int} {h : List Item} {k : Nat} (H : PlaysTo S root h k) (C : Told12 S root h) (hk : k < 250) (x : Do) : Told12 (actP S root x).2 (actP S root x).1 (actL h x) := by
  obtain ⟨ids, R, hc⟩ := C
  obtain ⟨ids', R', few, M⟩ := act_moved H R hk x
  exact ⟨ids', R', hc.step M R.there⟩
theorem Told12.empty {S : PSt} {root : Int} (C : Told12 S root []) : root = 0 ∧ S.given.length = S.L.length ∧ Rooted S.L root [] [] := by
  obtain ⟨ids, R, hc⟩ := C
  have e : root = 0 ∧ ids = [] := by
    cases R with
    | none => exact ⟨rfl, rfl⟩
    | some n _ b _ _ T => exact absurd rfl T.ne
  obtain ⟨rfl, rfl⟩ := e
  exact ⟨rfl, hc.empty, R⟩
/-- The order in which all is deleted. -/
def orderOf (back : Bool) (l : List Item) : List Item := if back = true then l.reverse else l
theorem orderOf_length (back : Bool) (l : List Item) : (orderOf back l).length = l.length := by cases back <;> simp [orderOf]
theorem orderOf_mem (back : Bool) (l : List Item) : ∀ y ∈ l, y ∈ orderOf back l := by cases back <;> simp [orderOf]
theorem orderOf_fore {l : List Item} {k : Nat} {x : Item} (h : l[k]? = some x) : (orderOf false l)[k]? = some x := h
theorem orderOf_back {l : List Item} {k : Nat} {x : Item} (hk : k < l.length) (h : l[l.length - 1 - k]? = some x) : (orderOf true l)[k]? = some x := by
  show l.reverse[k]? = some x
  rw [List.getElem?_reverse hk]
  exact h
/-- The cells of the law's pages, as numbers. -/
theorem PagesAt.cells {w : World} {b : Nat} {S : PSt} (h : PagesAt w b S) : ∃ a c a2 c2, w.cell? ⟨b, 0, none⟩ = some (.slice a S.L.length c) ∧ w.cell? ⟨b, 2, none⟩ = some (.slice a2 S.given.length c2) ∧ w.cell? ⟨b, 3, none⟩ = some (.bool S.bad) ∧ w.cell? ⟨b, 4, none⟩ = some (.bool S.twice) := by
  obtain ⟨vL, vG, h⟩ := h
  obtain ⟨aG, cG, rfl⟩ := ownsRow_form h.rowG
  obtain ⟨aL, cL, rfl⟩ := ownsRow_form h.rowL
  have c0 := heap_cell h.heap 0
  have c2 := heap_cell h.heap 2
  have c3 := heap_cell h.heap 3
  have c4 := heap_cell h.heap 4
  simp only [List.getElem?_toArray, List.getElem?_cons_zero, List.getElem?_cons_succ] at c0 c2 c3 c4
  exact ⟨aL, cL, aG, cG, c0, c2, c3, c4⟩

set_option maxRecDepth 100000 in
set_option maxHeartbeats 40000000 in
theorem Emp12_is (w : World) (v : Value) (l : List Item) (back : Bool) (h : RowAt itemC 3 w v l) (hn : l.length ≤ 9223372036854775807) (hlen : ∀ x ∈ l, x.key.length ≤ 9223372036854775807 ∧ x.val.length ≤ 9223372036854775807) :
    Calls Tryz.prog 5 #[v, .bool back] w (EmpEnds w) := by
  obtain ⟨a, c, rfl⟩ := row_form h
  have HAL := Lib.hid alive12_is
  have HV := Lib.hid h
  have HLEN := Lib.hid hlen
  clear h hlen
  go_enter Tryz.func5, Tryz.ntmps5
  by_cases hl80 : l.length ≤ 80
  · have hl1 : ¬ (80 : Int) < (l.length : Int) := by omega
    go_wp2_with fail
    refine (HAL.out w).mono ?_
    rintro e w1 ⟨rfl, o1⟩
    have HO1 := Lib.hid o1
    clear o1
    go_wp2_with fail
    go_loopg [5, 6] l.length (fun gh rm ix wr => ∃ (k : Nat) (room : Int), gh + k = l.length ∧ ix = .int .i64 k ∧ rm = .int .i64 room ∧ -1 ≤ room ∧ room ≤ 10000 ∧ Only (fun _ => False) w wr)
    case atStart => exact ⟨0, 10000, by omega, rfl, rfl, by omega, by omega, HO1.out⟩
    case round =>
      obtain ⟨k, room, hgk, rfl, rfl, hr1, hr2, ho⟩ := hrel
      have HO := Lib.hid ho
      clear ho HO1
      by_cases hr : 0 ≤ room
      · by_cases hk : k < l.length
        · as_aux_lemma =>
          have hk1 : (k : Int) < (l.length : Int) := by omega
          obtain ⟨x, hx⟩ : ∃ x, l[k]? = some x := ⟨_, List.getElem?_eq_getElem hk⟩
          have hrow := row_only HV.out HO.out (fun _ _ => fun q => q)
          obtain ⟨g, off, rfl, i0', i1', i2'⟩ := row_item hrow hx
          have hxl := HLEN.out x (List.mem_of_getElem? hx)
          have hw1 : IntKind.i64.wrap ((k : Int) + 1) = (k : Int) + 1 := by exact IntWalk.i64_in _ (by omega)
          clear hrow hx
          have hRM := fun (W : World) (g2 cap : Nat) h0 h1 => Room_is W room (x.key.length : Int) (x.val.length : Int) g2 cap (by omega) (by omega) (by omega) h0 h1
          have HRM := Lib.hid hRM
          have hrr := room5_range room x.key.length x.val.length (by omega) (by omega) (by omega)
          have N0 : Hid ((wr.alloc (.cells #[.int .i64 (x.key.length : Int), .int .i64 (x.val.length : Int)] 3)).drew.cell? ⟨wr.heap.size, 0, none⟩ = some (.int .i64 (x.key.length : Int))) := Lib.hid (heap_cell (heap_alloc_new wr _) 0)
          have N1 : Hid ((wr.alloc (.cells #[.int .i64 (x.key.length : Int), .int .i64 (x.val.length : Int)] 3)).drew.cell? ⟨wr.heap.size, 1, none⟩ = some (.int .i64 (x.val.length : Int))) := Lib.hid (heap_cell (heap_alloc_new wr _) 1)
          have oA := ((Only.refl (fun _ => False) wr).alloc (.cells #[.int .i64 (x.key.length : Int), .int .i64 (x.val.length : Int)] 3)).drew
          have N2 := Lib.hid ((oA.cell (p := ⟨g, off + k * 3, none⟩) (lt_of_cell i0') (fun q => q)).trans i0')
          have N3 := Lib.hid ((oA.cell (p := ⟨g, off + k * 3 + 1, none⟩) (lt_of_cell i1') (fun q => q)).trans i1')
          have HOA := Lib.hid (HO.out.trans oA (fun _ _ q => q))
          clear hRM oA
          generalize hrm : room2 room x.key.length x.val.length = rm at *
          go_wp2_with fail
          go_region_held3 (fun w' => w'.cell? ⟨g, off + k * 3, none⟩ = some (str x.key) ∧ w'.cell? ⟨g, off + k * 3 + 1, none⟩ = some (str x.val)) (first | exact ⟨i0', i1'⟩ | exact ⟨N2.out, N3.out⟩ | exact ⟨N4, N5⟩) (first | ((with_reducible refine (HRM.out _ _ _ N0.out N1.out).mono ?_); rintro e w4 ⟨rfl, o4⟩; have N4 := (o4.cell (p := ⟨g, off + k * 3, none⟩) (lt_of_cell N2.out) (fun q => q)).trans N2.out; have N5 := (o4.cell (p := ⟨g, off + k * 3 + 1, none⟩) (lt_of_cell N3.out) (fun q => q)).trans N3.out))
          clear N4 N5
          go_wp2_with fail
          go_roundg (gk - 1)
          case measure => omega
          case rel => exact ⟨k + 1, rm, by omega, by go_num, rfl, by omega, by omega, HOA.out.trans o4 (fun _ _ q => q)⟩
        · obtain rfl : k = l.length := by omega
          have hk1 : ¬ (l.length : Int) < (l.length : Int) := by omega
          have hr3 : ¬ room < 0 := by omega
          generalize wr = wz at *
          have HF := Lib.hid (Fresh_is wz)
          go_wp2_with fail
          refine HF.out.mono ?_
          rintro e w3 ⟨rfl, hp3, o3, hpw3⟩
          have HA0 : Hid (Acts w w3 wz.heap.size noPages 0 [] 0) := Lib.hid ⟨hp3, plays_none, HO.out.trans o3 (fun _ _ q => q), fun j hj => by have := hpw3 j hj; have := HO.out.size; omega⟩
          clear hp3 o3 hpw3 HF HO
          generalize wz.heap.size = b at *
          go_wp2_with fail
          go_loopg [8, 9] l.length (fun gh rt ix wr => ∃ (k : Nat) (S : PSt) (root : Int) (h : List Item), gh + k = l.length ∧ ix = .int .i64 k ∧ rt = .int .i64 root ∧ Acts w wr b S root h k ∧ Told12 S root h ∧ ∀ y ∈ h, y ∈ l)
          case atStart => exact ⟨0, noPages, 0, [], by omega, rfl, rfl, HA0.out, Told12.none, fun y hy => by cases hy⟩
          case round =>
            obtain ⟨k, S, root, h, hgk, rfl, rfl, hat, htl, hin⟩ := hrel
            have HAT := Lib.hid hat
            have HTL := Lib.hid (And.intro htl hin)
            clear hat htl hin HA0
            by_cases hk : k < l.length
            · as_aux_lemma =>
              have hk2 : (k : Int) < (l.length : Int) := by omega
              have hk3 : (0 : Int) ≤ (k : Int) := by omega
              obtain ⟨x, hx⟩ : ∃ x, l[k]? = some x := ⟨_, List.getElem?_eq_getElem hk⟩
              obtain ⟨g, off, rfl, d0, d1, d2⟩ := row_item (row_only HV.out HAT.out.only (fun _ _ => id)) hx
              have hw1 : IntKind.i64.wrap ((k : Int) + 1) = (k : Int) + 1 := by exact IntWalk.i64_in _ (by omega)
              have hpl := act_plays HAT.out.plays (by omega) ⟨1, x⟩
              have htl := HTL.out.1.act HAT.out.plays (by omega) ⟨1, x⟩
              have hme := mem_actL HAT.out.plays.right (List.mem_of_getElem? hx) HTL.out.2
              have HB := act12_is wr b S root h k ⟨1, x⟩ HAT.out.pages HAT.out.plays (by omega)
              unfold ActEnds at HB
              obtain ⟨r, S', hr⟩ : ∃ r S', actP S root ⟨1, x⟩ = (r, S') := ⟨_, _, rfl⟩
              rw [hr] at hpl HB htl
              generalize actL h ⟨1, x⟩ = h' at hpl htl hme
              dsimp only at hpl HB htl
              have HB := Lib.hid HB
              have HPL := Lib.hid (And.intro hpl (And.intro htl hme))
              clear hx hpl hr htl hme
              go_wp2_with (refine wpList_build_act _ rfl 1 (.tmp 61) rfl x rfl ?_)
              (with_reducible refine HB.out.mono ?_)
              rintro e w4 ⟨rfl, hp4, st4⟩
              have HN := Lib.hid (HAT.out.step st4 hp4 HPL.out.1)
              clear hp4 st4 HB HAT
              go_wp2_with fail
              go_roundg (gk - 1)
              case measure => omega
              case rel => exact ⟨k + 1, _, _, _, by omega, by go_num, rfl, HN.out, HPL.out.2.1, HPL.out.2.2⟩
            · have hk2 : ¬ (k : Int) < (l.length : Int) := by omega
              have HLF : Hid (Left l (orderOf back l) 0 h) := Lib.hid (Left.start HTL.out.2)
              obtain ⟨k0, hk0⟩ : ∃ k0, k = k0 := ⟨_, rfl⟩
              have hk80 : k0 ≤ 80 := by omega
              rw [hk0] at HAT
              have hwn : ∀ i : Nat, i ≤ 80 → IntKind.i64.wrap ((l.length : Int) - 1) = (l.length : Int) - 1 := fun _ _ => IntWalk.i64_in _ (by omega)
              go_wp2_with fail
              go_loopg [8, 10] l.length (fun gh rt ix wr => ∃ (i : Nat) (S : PSt) (root : Int) (h : List Item), gh + i = l.length ∧ ix = .int .i64 i ∧ rt = .int .i64 root ∧ Acts w wr b S root h (k0 + i) ∧ Told12 S root h ∧ Left l (orderOf back l) i h)
              case atStart => exact ⟨0, S, root, h, by omega, rfl, rfl, HAT.out, HTL.out.1, HLF.out⟩
              case round =>
                obtain ⟨i, S, root, h, hgi, rfl, rfl, hat, htl, hlf⟩ := hrel
                have HAT := Lib.hid hat
                have HTL := Lib.hid (And.intro htl hlf)
                clear hat htl hlf HLF
                by_cases hi : i < l.length
                · have hi2 : (i : Int) < (l.length : Int) := by omega
                  have hi3 : (0 : Int) ≤ (i : Int) := by omega
                  have hw1 : IntKind.i64.wrap ((i : Int) + 1) = (i : Int) + 1 := by exact IntWalk.i64_in _ (by omega)
                  obtain ⟨q, x, hq, hqi, hx, hox⟩ : ∃ (q : Nat) (x : Item), q < l.length ∧ (q : Int) = (if back = true then (l.length : Int) - 1 - i else i) ∧ l[q]? = some x ∧ (orderOf back l)[i]? = some x := by
                    cases back with
                    | false => exact ⟨i, _, hi, by simp, List.getElem?_eq_getElem hi, orderOf_fore (List.getElem?_eq_getElem hi)⟩
                    | true => exact ⟨l.length - 1 - i, _, by omega, by simp only [if_true]; omega, List.getElem?_eq_getElem (by omega), orderOf_back hi (List.getElem?_eq_getElem (by omega))⟩
                  obtain ⟨g, off, rfl, d0, d1, d2⟩ := row_item (row_only HV.out HAT.out.only (fun _ _ => id)) hx
                  have hq2 : (q : Int) < (l.length : Int) := by omega
                  have hq3 : (0 : Int) ≤ (q : Int) := by omega
                  have hpl := act_plays HAT.out.plays (by omega) ⟨2, x⟩
                  have htl := HTL.out.1.act HAT.out.plays (by omega) ⟨2, x⟩
                  have hlf := HTL.out.2.next ((rightL_iff _).1 HAT.out.plays.right).2 hox
                  have hal : actL h ⟨2, x⟩ = (dropL h x.key).1 := if_pos rfl
                  have HB := act12_is wr b S root h (k0 + i) ⟨2, x⟩ HAT.out.pages HAT.out.plays (by omega)
                  unfold ActEnds at HB
                  obtain ⟨r, S', hr⟩ : ∃ r S', actP S root ⟨2, x⟩ = (r, S') := ⟨_, _, rfl⟩
                  rw [hr] at hpl HB htl
                  rw [hal] at hpl htl
                  generalize (dropL h x.key).1 = h' at hpl htl hlf
                  dsimp only at hpl HB htl
                  have HB := Lib.hid HB
                  obtain ⟨ids, R, _⟩ := hpl.rooted
                  have hst := hpl.stop
                  have hln := hpl.len
                  have HCK := Lib.hid (fun W hW => tCheck_is W b S' r h' ids hW R (by omega) (by omega))
                  have HPL := Lib.hid (And.intro hpl (And.intro htl hlf))
                  clear hx hpl hr htl hlf hal hox R hst hln
                  unfold pagesV at HCK
                  cases back with
                  | false =>
                    simp only [Bool.false_eq_true, if_false] at hqi
                    obtain rfl : q = i := by omega
                    go_wp2_with (refine wpList_build_act _ rfl 2 (.tmp 82) rfl x rfl ?_)
                    (with_reducible refine HB.out.mono ?_)
                    rintro e w4 ⟨rfl, hp4, st4⟩
                    have HN := Lib.hid (HAT.out.step st4 hp4 HPL.out.1)
                    clear hp4 st4 HB HAT
                    go_wp2_with fail
                    (with_reducible refine (HCK.out w4 HN.out.pages).mono ?_)
                    rintro e w5 ⟨rfl, hp5, st5⟩
                    have HN5 := Lib.hid (HN.out.step st5 hp5 HPL.out.1)
                    clear hp5 st5 HCK HN
                    go_wp2_with fail
                    go_roundg (gk - 1)
                    case measure => omega
                    case rel => exact ⟨q + 1, _, _, _, by omega, by go_num, rfl, HN5.out, HPL.out.2.1, HPL.out.2.2⟩
                  | true =>
                    simp only [if_true] at hqi
                    have hwa : IntKind.i64.wrap ((l.length : Int) - 1) = (l.length : Int) - 1 := by exact IntWalk.i64_in _ (by omega)
                    have hwb : IntKind.i64.wrap ((l.length : Int) - 1 - (i : Int)) = (q : Int) := by rw [← hqi]; exact IntWalk.i64_in _ (by omega)
                    clear hqi
                    go_wp2_with (refine wpList_build_act _ rfl 2 (.tmp 82) rfl x rfl ?_)
                    (with_reducible refine HB.out.mono ?_)
                    rintro e w4 ⟨rfl, hp4, st4⟩
                    have HN := Lib.hid (HAT.out.step st4 hp4 HPL.out.1)
                    clear hp4 st4 HB HAT
                    go_wp2_with fail
                    (with_reducible refine (HCK.out w4 HN.out.pages).mono ?_)
                    rintro e w5 ⟨rfl, hp5, st5⟩
                    have HN5 := Lib.hid (HN.out.step st5 hp5 HPL.out.1)
                    clear hp5 st5 HCK HN
                    go_wp2_with fail
                    go_roundg (gk - 1)
                    case measure => omega
                    case rel => exact ⟨i + 1, _, _, _, by omega, by go_num, rfl, HN5.out, HPL.out.2.1, HPL.out.2.2⟩
                · have hi2 : ¬ (i : Int) < (l.length : Int) := by omega
                  obtain rfl : i = l.length := by omega
                  have hlf := HTL.out.2
                  have hol := orderOf_length back l
                  obtain rfl : h = [] := Left.none (m := orderOf back l) (by rw [hol]; exact hlf) (orderOf_mem back l)
                  obtain ⟨rfl, hgl, R⟩ := HTL.out.1.empty
                  have hst := HAT.out.plays.stop
                  have hbad := HAT.out.plays.bad
                  have htw := HAT.out.plays.twice
                  have HI := Lib.hid (tIds_is wr b S 0 [] [] HAT.out.pages R (by omega) (by simp))
                  clear R hst hlf hol
                  unfold IdsTold pagesV at HI
                  go_wp2_with fail
                  (with_reducible refine HI.out.mono ?_)
                  rintro e w4 ⟨v6, rfl, hrow, hap, hp4, st4, _⟩
                  have HA4 := Lib.hid (HAT.out.step st4 hp4 HAT.out.plays)
                  obtain ⟨a6, n6, c6, rfl⟩ := capOk_form hrow.cap
                  obtain ⟨rfl, _⟩ := row_shape hrow.row
                  have hs0 : (sortI []).length = 0 := by rw [sortI_length]; rfl
                  rw [hs0]
                  obtain ⟨aL, cL, aG, cG, g0, g2, g3, g4⟩ := hp4.cells
                  rw [hbad] at g3
                  rw [htw] at g4
                  rw [hgl] at g2
                  clear hrow hap hp4 st4 HI HAT hbad htw hgl hs0
                  go_wp2_with fail
                  go_region
                  all_goals
                    go_wp2_with fail
                    go_ret
                    exact ⟨rfl, HA4.out.only.drew⟩
      · have hr3 : room < 0 := by omega
        by_cases hk : k < l.length
        · have hk1 : (k : Int) < (l.length : Int) := by omega
          go_wp2_with fail
          go_ret
          exact ⟨rfl, HO.out⟩
        · have hk1 : ¬ (k : Int) < (l.length : Int) := by omega
          go_wp2_with fail
          go_ret
          exact ⟨rfl, HO.out⟩
  · have hl1 : (80 : Int) < (l.length : Int) := by omega
    go_wp2_with fail
    refine (HAL.out w).mono ?_
    rintro e w1 ⟨rfl, o1⟩
    go_wp2_with fail
    go_ret
    exact ⟨rfl, o1⟩
end Go.Proofs.YtklccpaphkpgfaaGreat
