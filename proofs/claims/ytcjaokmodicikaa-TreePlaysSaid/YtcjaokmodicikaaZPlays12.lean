/- TreePlays: acts on a tree, one behind the other: behind each it has just the items that a list has. Conditions: one goroutine; the acts lie in memory. (Printed by wip/gen/plays12.py.) -/
import Derived.Test.YtcjaokmodicikaaZSame12
import Derived.Test.YtcjaokmodicikaaZAlive12
import Derived.Test.YtcjaokmodicikaaZPut12
import Derived.Test.YtcjaokmodicikaaZDrop12
import Derived.Test.YtcjaokmodicikaaZMark12
import Derived.Test.YtcjaokmodicikaaZTree12
namespace Go.Proofs.Ytcjaokmodicikaa
open Go.RowKit

theorem Apart.row {w w' : World} {b : Nat} {S : PSt} {v v' : Value} (hp : PagesAt w b S) (ha : Apart w b v) (ho : Only (fun _ => False) w w') (hn : ∀ j, rowBlock v' = some j → (w.heap.size ≤ j ∧ j < w'.heap.size) ∨ rowBlock v = some j) : Apart w' b v' := fun j hj => by
  have hw := pown_of_heap (ho.block b hp.lt id) j
  rcases hn j hj with ⟨h1, h2⟩ | h
  · exact ⟨fun q => by have := pown_lt hp (hw.1 q); omega, h2⟩
  · obtain ⟨h1, h2⟩ := ha j h
    exact ⟨fun q => h1 (hw.1 q), Nat.lt_of_lt_of_le h2 ho.size⟩
/-- How the law stands behind so many acts. -/
structure At12 (w wr : World) (b : Nat) (S : PSt) (root : Int) (h : List Item) (vh : Value) (k : Nat) : Prop where
  pages : PagesAt wr b S
  plays : PlaysTo S root h k
  row : RowC itemC 3 wr vh h
  apart : Apart wr b vh
  only : Only (fun _ => False) w wr
  fresh : ∀ j, pown wr b j → w.heap.size ≤ j
section
variable {w wr w' : World} {b : Nat} {S S' : PSt} {root root' : Int} {h h' : List Item} {vh vh' : Value} {k k' : Nat}
theorem At12.go (H : At12 w wr b S root h vh k) (s : PStep b wr w') (hp : PagesAt w' b S') (pl : PlaysTo S' root' h' k') (hr : RowC itemC 3 w' vh' h') (ha : Apart w' b vh') : At12 w w' b S' root' h' vh' k' :=
  ⟨hp, pl, hr, ha, (PStep.new H.only H.fresh s).1, (PStep.new H.only H.fresh s).2⟩
theorem At12.still (H : At12 w wr b S root h vh k) (ho : Only (fun _ => False) wr w') : At12 w w' b S root h vh k :=
  H.go (PStep.still H.pages.lt ho) (H.pages.still ho) H.plays (H.row.only ho (fun _ _ => id)) (Apart.row H.pages H.apart ho fun _ hj => .inr hj)
theorem At12.step (H : At12 w wr b S root h vh k) (s : PStep b wr w') (hp : PagesAt w' b S') (pl : PlaysTo S' root' h k') : At12 w w' b S' root' h vh k' :=
  H.go s hp pl (H.row.step H.apart s) (H.apart.step s)
theorem At12.flags (H : At12 w wr b S root h vh k) : wr.cell? ⟨b, 3, none⟩ = some (.bool false) ∧ wr.cell? ⟨b, 4, none⟩ = some (.bool false) := by
  obtain ⟨vL, vG, hI⟩ := H.pages
  have c3 := heap_cell hI.heap 3
  have c4 := heap_cell hI.heap 4
  rw [H.plays.bad] at c3
  rw [H.plays.twice] at c4
  exact ⟨c3, c4⟩
theorem At12.rising (H : At12 w wr b S root h vh k) : Rising h := ((rightL_iff _).1 H.plays.right).2
end

set_option maxRecDepth 100000 in
set_option maxHeartbeats 40000000 in
theorem Plays12_is (w : World) (v : Value) (l : List Do) (key : Bytes) (most : Int) (h : RowAt doC 4 w v l) (hn : l.length ≤ 9223372036854775807) (hlen : ∀ x ∈ l, x.item.key.length ≤ 9223372036854775807 ∧ x.item.val.length ≤ 9223372036854775807) :
    Calls Try.prog 6 #[v, str key, .int .i64 most] w fun e w' => e = .returned (.bool true) ∧ Only (fun _ => False) w w' := by
  obtain ⟨a, c, rfl⟩ : ∃ a c, v = .slice a l.length c := by cases h with
    | none => exact ⟨_, _, rfl⟩
    | some g off cap => exact ⟨_, _, rfl⟩
  have HL := Lib.hid (Light12_is w _ l h hn hlen)
  have HAL := Lib.hid alive12_is
  have HV := Lib.hid h
  clear h hlen
  go_enter Try.func6, Try.ntmps6
  go_wp2_with fail
  refine HL.out.mono ?_
  rintro e w1 ⟨bl, rfl, hbl, o1⟩
  have HO1 := Lib.hid o1
  have HBL := Lib.hid hbl
  clear hbl o1
  cases bl with
  | false =>
    go_wp2_with fail
    refine (HAL.out w1).mono ?_
    rintro e w2 ⟨rfl, o2⟩
    go_wp2_with fail
    go_ret
    exact ⟨rfl, HO1.out.trans o2 (fun _ _ q => q)⟩
  | true =>
    have hl250 := HBL.out rfl
    by_cases hkl : key.length ≤ 100
    · have hk1 : ¬ (100 : Int) < (key.length : Int) := by omega
      go_wp2_with fail
      refine (HAL.out w1).mono ?_
      rintro e w2 ⟨rfl, o2⟩
      have HO2 := Lib.hid (HO1.out.trans o2 (fun _ _ q => q))
      have HF := Lib.hid (Fresh_is w2)
      clear o2
      go_wp2_with fail
      refine HF.out.mono ?_
      rintro e w3 ⟨rfl, hp3, o3, hpw3⟩
      have H0 : At12 w w3 w2.heap.size noPages 0 [] (.slice none 0 0) 0 := ⟨hp3, plays_none, ⟨.none, Nat.le_refl _, Nat.zero_le _⟩, (fun j hj => by cases hj), HO2.out.trans o3 (fun _ _ q => q), fun j hj => by have := hpw3 j hj; have := HO2.out.size; omega⟩
      have HH0 := Lib.hid H0
      clear hp3 o3 hpw3 HF H0
      generalize w2.heap.size = b at *
      go_wp2_with fail
      go_loopg [8, 9, 10] l.length (fun gh hv rt ix wr => ∃ (k : Nat) (S : PSt) (root : Int) (h : List Item), gh + k = l.length ∧ ix = .int .i64 k ∧ rt = .int .i64 root ∧ At12 w wr b S root h hv k)
      case atStart => exact ⟨0, noPages, 0, [], by omega, rfl, rfl, HH0.out⟩
      case round =>
        obtain ⟨k, S, root, h, hgk, rfl, rfl, hat⟩ := hrel
        have HAT := Lib.hid hat
        obtain ⟨aH, cH, hvf⟩ := row_form hat.row.row
        subst hvf
        have hkl2 : h.length ≤ 250 := by have := hat.plays.len; omega
        have hst := hat.plays.stop
        clear HH0
        by_cases hk : k < l.length
        · have hk2 : (k : Int) < (l.length : Int) := by omega
          have hk3 : (0 : Int) ≤ (k : Int) := by omega
          have hk250 : k < 250 := by omega
          obtain ⟨x, hx⟩ : ∃ x, l[k]? = some x := ⟨_, List.getElem?_eq_getElem hk⟩
          obtain ⟨g, off, rfl, d0, d1, d2, d3⟩ := row_do (row_only HV.out hat.only (fun _ _ => id)) hx
          have hw1 : IntKind.i64.wrap ((k : Int) + 1) = (k : Int) + 1 := by exact IntWalk.i64_in _ (by omega)
          have hmod : (k : Int).tmod 4 = ((k % 4 : Nat) : Int) := by rw [Int.tmod_eq_emod_of_nonneg (by omega)]; rfl
          have hwm : IntKind.i64.wrap ((k % 4 : Nat) : Int) = ((k % 4 : Nat) : Int) := by exact IntWalk.i64_in _ (by omega)
          generalize x.kind = kd at d0
          have oX := (Only.refl (fun _ => False) wr).alloc (.cells #[.int .i64 kd, str x.item.key, str x.item.val, .int .i64 x.item.kind] 50)
          have hX := Blk.new hat.pages #[.int .i64 kd, str x.item.key, str x.item.val, .int .i64 x.item.kind] 50
          have hat1 := hat.still oX
          have HAT1 := Lib.hid hat1
          have HX := Lib.hid hX
          have e0 := heap_cell hX.1 0
          have e1 := heap_cell hX.1 1
          have e2 := heap_cell hX.1 2
          have e3 := heap_cell hX.1 3
          simp only [List.getElem?_toArray, List.getElem?_cons_zero, List.getElem?_cons_succ] at e0 e1 e2 e3
          clear hat hx hat1 hX oX HAT
          by_cases hk1 : kd = 1
          · subst hk1
            rcases hok : okItem x.item with _ | _
            · as_aux_lemma =>
              have HB := Lib.hid (tPut_bad _ b S root x.item HAT1.out.pages hok)
              have HVI := fun W => VItem_is x.item W
              rw [hok] at HVI
              have HVI := Lib.hid HVI
              unfold pagesV itemV itemC at HB
              unfold itemV itemC at HVI
              go_wp2_with fail
              refine HB.out.mono ?_
              rintro e w4 ⟨rfl, hp4, st4⟩
              have hX4 := HX.out.step st4
              have f1 := heap_cell hX4.1 1
              have f2 := heap_cell hX4.1 2
              have f3 := heap_cell hX4.1 3
              simp only [List.getElem?_toArray, List.getElem?_cons_zero, List.getElem?_cons_succ] at f1 f2 f3
              have HN4 := Lib.hid (HAT1.out.step st4 hp4 (plays_skip HAT1.out.plays))
              clear hp4 st4 hX4 HB
              go_wp2_with fail
              refine (HVI.out _).mono ?_
              rintro e w5 ⟨rfl, o5⟩
              have HN := Lib.hid (HN4.out.still o5)
              clear o5 HVI HN4
              go_wp2_with fail
              go_roundg (gk - 1)
              case measure => omega
              case rel => exact ⟨k + 1, _, _, _, by omega, by go_num, rfl, HN.out⟩
            · as_aux_lemma =>
              have hpl0 := HAT1.out.plays
              obtain ⟨r, S', hput, hpl⟩ := plays_put hpl0 hok hk250
              obtain ⟨m, m1, m2, m3, m4⟩ := roomOf_next hk250
              obtain ⟨ids, R, _⟩ := hpl0.rooted
              have hfew := hpl0.few
              have hback := hpl0.back
              have hln := hpl0.len
              have HB := Lib.hid (tPut_is _ b S S' root r h ids x.item m HAT1.out.pages hok R (by omega) (by omega) (by omega) (by omega) (by omega) hput)
              have HVI := fun W => VItem_is x.item W
              rw [hok] at HVI
              have HVI := Lib.hid HVI
              have HPL := Lib.hid hpl
              unfold pagesV itemV itemC at HB
              unfold itemV itemC at HVI
              clear hpl0 hput hpl R hfew hback m1 m2 m3 m4
              go_wp2_with fail
              refine HB.out.mono ?_
              rintro e w4 ⟨rfl, hp4, st4⟩
              have HX4 := Lib.hid (HX.out.step st4)
              have f1 := heap_cell HX4.out.1 1
              have f2 := heap_cell HX4.out.1 2
              have f3 := heap_cell HX4.out.1 3
              simp only [List.getElem?_toArray, List.getElem?_cons_zero, List.getElem?_cons_succ] at f1 f2 f3
              have HR4 := Lib.hid (And.intro (HAT1.out.row.step HAT1.out.apart st4) (And.intro (HAT1.out.apart.step st4) (And.intro hp4 st4)))
              clear hp4 st4 HB
              go_wp2_with fail
              refine (HVI.out _).mono ?_
              rintro e w5 ⟨rfl, o5⟩
              have hp5 := HR4.out.2.2.1.still o5
              have HX5 := HX4.out.still HR4.out.2.2.1.lt o5
              have g1 := heap_cell HX5.1 1
              have g2 := heap_cell HX5.1 2
              have g3 := heap_cell HX5.1 3
              simp only [List.getElem?_toArray, List.getElem?_cons_zero, List.getElem?_cons_succ] at g1 g2 g3
              have hr5 := HR4.out.1.only o5 (fun _ _ => id)
              have HPUT := Lib.hid (lput_is w5 _ h x.item hr5 HAT1.out.rising (by omega))
              have HR5 := Lib.hid (And.intro (Apart.row HR4.out.2.2.1 HR4.out.2.1 o5 fun _ hj => .inr hj) (And.intro hp5 (HR4.out.2.2.2.trans (PStep.still HR4.out.2.2.1.lt o5))))
              unfold itemV itemC RowEnds at HPUT
              clear o5 HVI HX4 HX5 HR4 hp5 hr5 f1 f2 f3
              go_wp2_with fail
              refine HPUT.out.mono ?_
              rintro e w6 ⟨v', rfl, hr6, o6, hb6⟩
              have HN := Lib.hid (HAT1.out.go (HR5.out.2.2.trans (PStep.still HR5.out.2.1.lt o6)) (HR5.out.2.1.still o6) HPL.out hr6 (Apart.row HR5.out.2.1 HR5.out.1 o6 fun j hj => .inl (hb6 j hj)))
              obtain ⟨aV, nV, cV, rfl⟩ := capOk_form hr6.cap
              clear hr6 o6 hb6 HPUT HR5 HPL
              obtain ⟨c3, c4⟩ := HN.out.flags
              by_cases hm4 : k % 4 = 0
              · have hm5 : ((k % 4 : Nat) : Int) = 0 := by omega
                obtain ⟨ids', R', _⟩ := HN.out.plays.rooted
                have HS := Lib.hid (same12_is _ b _ _ _ ids' _ key most HN.out.pages R' (by have := HN.out.plays.stop; omega) HN.out.row HN.out.apart HN.out.rising (by have := HN.out.plays.len; omega))
                unfold SameEnds at HS
                clear R'
                generalize k % 4 = km at *
                go_wp2_with fail
                refine HS.out.mono ?_
                rintro e w7 ⟨rfl, hp7, st7⟩
                have HN7 := Lib.hid (HN.out.step st7 hp7 HN.out.plays)
                clear hp7 st7 HS
                go_wp2_with fail
                go_roundg (gk - 1)
                case measure => omega
                case rel => exact ⟨k + 1, _, _, _, by omega, by go_num, rfl, HN7.out⟩
              · have hm5 : ¬ ((k % 4 : Nat) : Int) = 0 := by omega
                generalize k % 4 = km at *
                go_wp2_with fail
                go_roundg (gk - 1)
                case measure => omega
                case rel => exact ⟨k + 1, _, _, _, by omega, by go_num, rfl, HN.out⟩
          · by_cases hk2' : kd = 2
            · subst hk2'
              as_aux_lemma =>
              have hpl0 := HAT1.out.plays
              obtain ⟨m, m1, m2, m3, m4⟩ := roomOf_next hk250
              obtain ⟨ids, R, _⟩ := hpl0.rooted
              have hfew := hpl0.few
              have hback := hpl0.back
              have hln := hpl0.len
              rcases plays_drop (k := x.item.key) hpl0 hk250 with ⟨hd, hdt, hpl⟩ | ⟨hd, r, S', hdt, hpl⟩
              · have HB := Lib.hid (tDelete_is _ b S S root root h ids x.item.key false m HAT1.out.pages R (by omega) (by omega) (by omega) (by omega) (by omega) hdt)
                have HPL := Lib.hid hpl
                have HD := Lib.hid hd
                unfold pagesV at HB
                clear hpl0 hdt hpl R hfew hback m1 m2 m3 m4 hd
                go_wp2_with fail
                refine HB.out.mono ?_
                rintro e w4 ⟨rfl, hp4, st4⟩
                have hX4 := HX.out.step st4
                have f1 := heap_cell hX4.1 1
                simp only [List.getElem?_toArray, List.getElem?_cons_zero, List.getElem?_cons_succ] at f1
                have hr4 := HAT1.out.row.step HAT1.out.apart st4
                have hld := ldrop_is w4 _ h x.item.key hr4 HAT1.out.rising (by omega)
                rw [HD.out] at hld
                have HLD := Lib.hid hld
                have HR4 := Lib.hid (And.intro (HAT1.out.apart.step st4) (And.intro hp4 st4))
                unfold DropEnds at HLD
                clear hp4 st4 hX4 HB hr4 hld
                go_wp2_with fail
                refine HLD.out.mono ?_
                rintro e w6 ⟨v', rfl, hr6, o6, hb6⟩
                have HN := Lib.hid (HAT1.out.go (HR4.out.2.2.trans (PStep.still HR4.out.2.1.lt o6)) (HR4.out.2.1.still o6) HPL.out hr6 (Apart.row HR4.out.2.1 HR4.out.1 o6 hb6))
                obtain ⟨aV, nV, cV, rfl⟩ := capOk_form hr6.cap
                clear hr6 o6 hb6 HLD HR4 HPL
                obtain ⟨c3, c4⟩ := HN.out.flags
                by_cases hm4 : k % 4 = 0
                · have hm5 : ((k % 4 : Nat) : Int) = 0 := by omega
                  obtain ⟨ids', R', _⟩ := HN.out.plays.rooted
                  have HS := Lib.hid (same12_is _ b _ _ _ ids' _ key most HN.out.pages R' (by have := HN.out.plays.stop; omega) HN.out.row HN.out.apart HN.out.rising (by have := HN.out.plays.len; omega))
                  unfold SameEnds at HS
                  clear R'
                  generalize k % 4 = km at *
                  go_wp2_with fail
                  refine HS.out.mono ?_
                  rintro e w7 ⟨rfl, hp7, st7⟩
                  have HN7 := Lib.hid (HN.out.step st7 hp7 HN.out.plays)
                  clear hp7 st7 HS
                  go_wp2_with fail
                  go_roundg (gk - 1)
                  case measure => omega
                  case rel => exact ⟨k + 1, _, _, _, by omega, by go_num, rfl, HN7.out⟩
                · have hm5 : ¬ ((k % 4 : Nat) : Int) = 0 := by omega
                  generalize k % 4 = km at *
                  go_wp2_with fail
                  go_roundg (gk - 1)
                  case measure => omega
                  case rel => exact ⟨k + 1, _, _, _, by omega, by go_num, rfl, HN.out⟩
              · have HB := Lib.hid (tDelete_is _ b S S' root r h ids x.item.key true m HAT1.out.pages R (by omega) (by omega) (by omega) (by omega) (by omega) hdt)
                have HPL := Lib.hid hpl
                have HD := Lib.hid (show dropL h x.item.key = ((dropL h x.item.key).1, true) by rw [← hd])
                unfold pagesV at HB
                clear hpl0 hdt hpl R hfew hback m1 m2 m3 m4 hd
                go_wp2_with fail
                refine HB.out.mono ?_
                rintro e w4 ⟨rfl, hp4, st4⟩
                have hX4 := HX.out.step st4
                have f1 := heap_cell hX4.1 1
                simp only [List.getElem?_toArray, List.getElem?_cons_zero, List.getElem?_cons_succ] at f1
                have hr4 := HAT1.out.row.step HAT1.out.apart st4
                have hld := ldrop_is w4 _ h x.item.key hr4 HAT1.out.rising (by omega)
                generalize hdl : (dropL h x.item.key).1 = dl at *
                rw [HD.out] at hld
                have HLD := Lib.hid hld
                have HR4 := Lib.hid (And.intro (HAT1.out.apart.step st4) (And.intro hp4 st4))
                unfold DropEnds at HLD
                clear hp4 st4 hX4 HB hr4 hld hdl
                go_wp2_with fail
                refine HLD.out.mono ?_
                rintro e w6 ⟨v', rfl, hr6, o6, hb6⟩
                have HN := Lib.hid (HAT1.out.go (HR4.out.2.2.trans (PStep.still HR4.out.2.1.lt o6)) (HR4.out.2.1.still o6) HPL.out hr6 (Apart.row HR4.out.2.1 HR4.out.1 o6 hb6))
                obtain ⟨aV, nV, cV, rfl⟩ := capOk_form hr6.cap
                clear hr6 o6 hb6 HLD HR4 HPL
                obtain ⟨c3, c4⟩ := HN.out.flags
                by_cases hm4 : k % 4 = 0
                · have hm5 : ((k % 4 : Nat) : Int) = 0 := by omega
                  obtain ⟨ids', R', _⟩ := HN.out.plays.rooted
                  have HS := Lib.hid (same12_is _ b _ _ _ ids' _ key most HN.out.pages R' (by have := HN.out.plays.stop; omega) HN.out.row HN.out.apart HN.out.rising (by have := HN.out.plays.len; omega))
                  unfold SameEnds at HS
                  clear R'
                  generalize k % 4 = km at *
                  go_wp2_with fail
                  refine HS.out.mono ?_
                  rintro e w7 ⟨rfl, hp7, st7⟩
                  have HN7 := Lib.hid (HN.out.step st7 hp7 HN.out.plays)
                  clear hp7 st7 HS
                  go_wp2_with fail
                  go_roundg (gk - 1)
                  case measure => omega
                  case rel => exact ⟨k + 1, _, _, _, by omega, by go_num, rfl, HN7.out⟩
                · have hm5 : ¬ ((k % 4 : Nat) : Int) = 0 := by omega
                  generalize k % 4 = km at *
                  go_wp2_with fail
                  go_roundg (gk - 1)
                  case measure => omega
                  case rel => exact ⟨k + 1, _, _, _, by omega, by go_num, rfl, HN.out⟩
            ·
              as_aux_lemma =>
              have HB := Lib.hid (PMark_is _ b S HAT1.out.pages)
              go_wp2_with fail
              refine HB.out.mono ?_
              rintro e w4 ⟨rfl, hp4, st4⟩
              have HN := Lib.hid (HAT1.out.step st4 hp4 (plays_mark HAT1.out.plays))
              clear hp4 st4 HB
              obtain ⟨c3, c4⟩ := HN.out.flags
              by_cases hm4 : k % 4 = 0
              · have hm5 : ((k % 4 : Nat) : Int) = 0 := by omega
                obtain ⟨ids', R', _⟩ := HN.out.plays.rooted
                have HS := Lib.hid (same12_is _ b _ _ _ ids' _ key most HN.out.pages R' (by have := HN.out.plays.stop; omega) HN.out.row HN.out.apart HN.out.rising (by have := HN.out.plays.len; omega))
                unfold SameEnds at HS
                clear R'
                generalize k % 4 = km at *
                go_wp2_with fail
                refine HS.out.mono ?_
                rintro e w7 ⟨rfl, hp7, st7⟩
                have HN7 := Lib.hid (HN.out.step st7 hp7 HN.out.plays)
                clear hp7 st7 HS
                go_wp2_with fail
                go_roundg (gk - 1)
                case measure => omega
                case rel => exact ⟨k + 1, _, _, _, by omega, by go_num, rfl, HN7.out⟩
              · have hm5 : ¬ ((k % 4 : Nat) : Int) = 0 := by omega
                generalize k % 4 = km at *
                go_wp2_with fail
                go_roundg (gk - 1)
                case measure => omega
                case rel => exact ⟨k + 1, _, _, _, by omega, by go_num, rfl, HN.out⟩
        · obtain rfl : k = l.length := by omega
          have hk2 : ¬ (l.length : Int) < (l.length : Int) := by omega
          obtain ⟨ids, R, _⟩ := hat.plays.rooted
          have HS := Lib.hid (same12_is wr b S root h ids _ key most hat.pages R (by omega) hat.row hat.apart hat.rising hkl2)
          unfold SameEnds at HS
          clear hat R
          go_wp2_with fail
          refine HS.out.mono ?_
          rintro e w5 ⟨rfl, hp5, st5⟩
          have HF := Lib.hid (PStep.new HAT.out.only HAT.out.fresh st5).1
          clear hp5 st5
          go_wp2_with fail
          go_ret
          exact ⟨rfl, HF.out⟩
    · have hk1 : (100 : Int) < (key.length : Int) := by omega
      go_wp2_with fail
      refine (HAL.out w1).mono ?_
      rintro e w2 ⟨rfl, o2⟩
      go_wp2_with fail
      go_ret
      exact ⟨rfl, HO1.out.trans o2 (fun _ _ q => q)⟩
end Go.Proofs.Ytcjaokmodicikaa
