/- TreeOrder: the same items, put in whatever order, make trees of the same items. Conditions: one goroutine; the items and the numbers lie in memory. (Printed by wip/gen/order12.py.) -/
import Derived.Test.YtcjaokmodicikaaZAlive12
import Derived.Test.YtcjaokmodicikaaZSame
import Derived.Test.YtcjaokmodicikaaZLook
import Derived.Test.YtcjaokmodicikaaZAct12
import Derived.Test.YtcjaokmodicikaaZLaw3
import Derived.Test.YtcjaokmodicikaaZOrder1
import Derived.Deep.RegionHeld3
namespace Go.Proofs.Ytcjaokmodicikaa
open Go.RowKit

theorem room4_range (left a b : Int) (hl : -1 ≤ left ∧ left ≤ 10000) (ha : 0 ≤ a) (hb : 0 ≤ b) : -1 ≤ room2 left a b ∧ room2 left a b ≤ 10000 := by
  unfold room2
  split
  · omega
  · split
    · omega
    · omega
/-- How the law ends. -/
def OrderEnds (w : World) : Ending → World → Prop := fun e w' => e = .returned (.bool true) ∧ Only (fun _ => False) w w'

set_option maxRecDepth 100000 in
set_option maxHeartbeats 40000000 in
theorem Order12_is (w : World) (v v2 : Value) (l : List Item) (ns : List Int) (h : RowAt itemC 3 w v l) (h2 : RowAt intE 1 w v2 ns) (hn : l.length ≤ 9223372036854775807) (hn2 : ns.length ≤ 9223372036854775807) (hlen : ∀ x ∈ l, x.key.length ≤ 9223372036854775807 ∧ x.val.length ≤ 9223372036854775807) (hin : ∀ x ∈ ns, -9223372036854775808 ≤ x ∧ x ≤ 9223372036854775807) :
    Calls Try.prog 7 #[v, v2] w (OrderEnds w) := by
  obtain ⟨i0, hi, hz0, hz1, hz2⟩ := info_parts itemInfo
  obtain ⟨a, c, rfl⟩ := row_form h
  obtain ⟨a2, c2, rfl⟩ : ∃ a c, v2 = .slice a ns.length c := by cases h2 with
    | none => exact ⟨_, _, rfl⟩
    | some g off cap => exact ⟨_, _, rfl⟩
  have HAL := Lib.hid alive12_is
  have HV := Lib.hid h
  have HV2 := Lib.hid h2
  have HLEN := Lib.hid hlen
  have HIN := Lib.hid hin
  clear h h2 hlen hin
  go_enter Try.func7, Try.ntmps7
  by_cases hl80 : l.length ≤ 80
  · have hl1 : ¬ (80 : Int) < (l.length : Int) := by omega
    by_cases hn80 : ns.length ≤ 80
    · have hn1 : ¬ (80 : Int) < (ns.length : Int) := by omega
      go_wp2_with fail
      refine (HAL.out w).mono ?_
      rintro e w1 ⟨rfl, o1⟩
      have HO1 := Lib.hid o1
      clear o1
      go_wp2_with fail
      go_loopg [5, 6] l.length (fun gh rm ix wr => ∃ (k : Nat) (room : Int), gh + k = l.length ∧ ix = .int .i64 k ∧ rm = .int .i64 room ∧ -1 ≤ room ∧ room ≤ 10000 ∧ Only (fun _ => False) w wr)
      case atStart => exact ⟨0, 10000, by omega, rfl, rfl, by omega, by omega, HO1.out⟩
      case round =>
        obtain ⟨k, room, hgk, rfl, rfl, hr1, hr2, ho⟩ := hrel
        have HO := Lib.hid ho
        clear ho HO1
        by_cases hr : 0 ≤ room
        · by_cases hk : k < l.length
          · as_aux_lemma =>
            have hk1 : (k : Int) < (l.length : Int) := by omega
            obtain ⟨x, hx⟩ : ∃ x, l[k]? = some x := ⟨_, List.getElem?_eq_getElem hk⟩
            have hrow := row_only HV.out HO.out (fun _ _ => fun q => q)
            obtain ⟨g, off, rfl, i0', i1', i2'⟩ := row_item hrow hx
            have hxl := HLEN.out x (List.mem_of_getElem? hx)
            have hw1 : IntKind.i64.wrap ((k : Int) + 1) = (k : Int) + 1 := by exact IntWalk.i64_in _ (by omega)
            clear hrow hx
            have hRM := fun (W : World) (g2 cap : Nat) h0 h1 => Room_is W room (x.key.length : Int) (x.val.length : Int) g2 cap (by omega) (by omega) (by omega) h0 h1
            have HRM := Lib.hid hRM
            have hrr := room4_range room x.key.length x.val.length (by omega) (by omega) (by omega)
            have N0 : Hid ((wr.alloc (.cells #[.int .i64 (x.key.length : Int), .int .i64 (x.val.length : Int)] 3)).drew.cell? ⟨wr.heap.size, 0, none⟩ = some (.int .i64 (x.key.length : Int))) := Lib.hid (heap_cell (heap_alloc_new wr _) 0)
            have N1 : Hid ((wr.alloc (.cells #[.int .i64 (x.key.length : Int), .int .i64 (x.val.length : Int)] 3)).drew.cell? ⟨wr.heap.size, 1, none⟩ = some (.int .i64 (x.val.length : Int))) := Lib.hid (heap_cell (heap_alloc_new wr _) 1)
            have oA := ((Only.refl (fun _ => False) wr).alloc (.cells #[.int .i64 (x.key.length : Int), .int .i64 (x.val.length : Int)] 3)).drew
            have N2 := Lib.hid ((oA.cell (p := ⟨g, off + k * 3, none⟩) (lt_of_cell i0') (fun q => q)).trans i0')
            have N3 := Lib.hid ((oA.cell (p := ⟨g, off + k * 3 + 1, none⟩) (lt_of_cell i1') (fun q => q)).trans i1')
            have HOA := Lib.hid (HO.out.trans oA (fun _ _ q => q))
            clear hRM oA
            generalize hrm : room2 room x.key.length x.val.length = rm at *
            go_wp2_with fail
            go_region_held3 (fun w' => w'.cell? ⟨g, off + k * 3, none⟩ = some (str x.key) ∧ w'.cell? ⟨g, off + k * 3 + 1, none⟩ = some (str x.val)) (first | exact ⟨i0', i1'⟩ | exact ⟨N2.out, N3.out⟩ | exact ⟨N4, N5⟩) (first | ((with_reducible refine (HRM.out _ _ _ N0.out N1.out).mono ?_); rintro e w4 ⟨rfl, o4⟩; have N4 := (o4.cell (p := ⟨g, off + k * 3, none⟩) (lt_of_cell N2.out) (fun q => q)).trans N2.out; have N5 := (o4.cell (p := ⟨g, off + k * 3 + 1, none⟩) (lt_of_cell N3.out) (fun q => q)).trans N3.out))
            clear N4 N5
            go_wp2_with fail
            go_roundg (gk - 1)
            case measure => omega
            case rel => exact ⟨k + 1, rm, by omega, by go_num, rfl, by omega, by omega, HOA.out.trans o4 (fun _ _ q => q)⟩
          · obtain rfl : k = l.length := by omega
            have hk1 : ¬ (l.length : Int) < (l.length : Int) := by omega
            have hr3 : ¬ room < 0 := by omega
            generalize wr = wz at *
            have HF1 := Lib.hid (Fresh_is wz)
            go_wp2_with fail
            refine HF1.out.mono ?_
            rintro e w2 ⟨rfl, hp2, o2, hn2⟩
            have HF2 := Lib.hid (Fresh_is w2)
            have HP2 := Lib.hid (And.intro hp2 (And.intro o2 hn2))
            clear hp2 o2 hn2 HF1
            have hsz0 := Lib.hid HO.out.size
            generalize wz.heap.size = bp at *
            go_wp2_with fail
            refine HF2.out.mono ?_
            rintro e w3 ⟨rfl, hp3, o3, hn3⟩
            have H3 : Two14 w w3 bp w2.heap.size noPages noPages := ⟨HP2.out.1.still o3, hp3, (HO.out.trans HP2.out.2.1 (fun _ _ q => q)).trans o3 (fun _ _ q => q),
              fun j a => by have := HP2.out.2.2 j ((pown_of_heap (o3.block bp HP2.out.1.lt id) j).1 a); have := hsz0.out; omega,
              fun j a => by have := hn3 j a; have := HP2.out.2.1.size; have := HO.out.size; omega,
              fun j a b => by have := pown_lt HP2.out.1 ((pown_of_heap (o3.block bp HP2.out.1.lt id) j).1 a); have := hn3 j b; omega⟩
            have HH3 := Lib.hid H3
            clear hp3 o3 hn3 H3 HP2 HF2 HO hsz0
            generalize w2.heap.size = bq at *
            go_wp2_with fail
            go_loopg [11, 12] l.length (fun gh ov ix wr => ∃ k : Nat, gh + k = l.length ∧ ix = .int .i64 k ∧ Two14 w wr bp bq noPages noPages ∧ Mine14 w wr bp bq ov (onceL (l.take k)))
            case atStart => exact ⟨0, by omega, rfl, HH3.out, Mine14.nil _ _ _ _⟩
            case round =>
              obtain ⟨k, hgk, rfl, h2, hm⟩ := hrel
              obtain ⟨aO, cO, rfl⟩ := ownsRow_form hm.own
              have hol := (onceL_is l k (by omega)).2
              have HH := Lib.hid (And.intro h2 hm)
              clear h2 hm HH3
              by_cases hk : k < l.length
              · have hk1 : (k : Int) < (l.length : Int) := by omega
                obtain ⟨x, hx⟩ : ∃ x, l[k]? = some x := ⟨_, List.getElem?_eq_getElem hk⟩
                have hrow := row_only HV.out HH.out.1.only (fun _ _ => fun q => q)
                obtain ⟨g, off, rfl, i0', i1', i2'⟩ := row_item hrow hx
                have hw1 : IntKind.i64.wrap ((k : Int) + 1) = (k : Int) + 1 := by exact IntWalk.i64_in _ (by omega)
                have HNX := Lib.hid (onceL_next hx)
                have HX := Lib.hid hx
                obtain ⟨on, hon⟩ : ∃ on, onceL (l.take k) = on := ⟨_, rfl⟩
                rw [hon] at HNX HH hol ⊢
                have HVI := fun W => VItem_is x W
                obtain ⟨b0, hb0⟩ : ∃ b0, okItem x = !b0 := ⟨!okItem x, by simp⟩
                rw [hb0] at HVI HNX
                have HVI := Lib.hid HVI
                unfold itemV itemC at HVI
                simp only [Bool.not_not] at HNX
                clear hrow hx hon hb0
                as_aux_lemma =>
                go_wp2_with fail
                refine (HVI.out _).mono ?_
                rintro e w5 ⟨rfl, o5⟩
                have HH5 := Lib.hid (And.intro (HH.out.1.still o5) (HH.out.2.still HH.out.1 o5))
                generalize wr = wo at *
                clear o5 HVI HH i0' i1' i2'
                go_wp2_with fail
                go_loopg [13, 14] on.length (fun gh iv jx wr => ∃ (j : Nat) (bi : Bool), gh + j = on.length ∧ jx = .int .i64 j ∧ iv = .bool bi ∧ bi = (b0 || isOld (on.take j) x) ∧ Only (fun _ => False) w5 wr)
                case atStart => exact ⟨0, b0, by omega, rfl, by first | rfl | simp, by simp [isOld], Only.refl _ _⟩
                case round =>
                  obtain ⟨j, bi, hgj, rfl, rfl, hbi, ho⟩ := hrel
                  have HBI := Lib.hid hbi
                  have HO := Lib.hid ho
                  clear hbi ho
                  by_cases hj : j < on.length
                  · have hj1 : (j : Int) < (on.length : Int) := by omega
                    have hj0 : (0 : Int) ≤ (j : Int) := by omega
                    have hk0 : (0 : Int) ≤ (k : Int) := by omega
                    obtain ⟨y, hy⟩ : ∃ y, on[j]? = some y := ⟨_, List.getElem?_eq_getElem hj⟩
                    have hw2 : IntKind.i64.wrap ((j : Int) + 1) = (j : Int) + 1 := by exact IntWalk.i64_in _ (by omega)
                    have hrow := row_only (row_only HV.out HH5.out.1.only (fun _ _ => fun q => q)) HO.out (fun _ _ => fun q => q)
                    have hrow2 := row_only HH5.out.2.row HO.out (fun _ _ => fun q => q)
                    obtain ⟨g2, off2, rfl, y0, _, _⟩ := row_item hrow2 hy
                    obtain ⟨g', off', he, i0', _, _⟩ := row_item hrow HX.out
                    cases he
                    have q8 : ∀ p : Grew wr, p.u.cell? ⟨g, off + k * 3, none⟩ = some (str x.key) := fun p => p.cell i0'
                    have q9 : ∀ p : Grew wr, p.u.cell? ⟨g2, off2 + j * 3, none⟩ = some (str y.key) := fun p => p.cell y0
                    have HNJ := Lib.hid (isOld_next (i := x) hy)
                    obtain ⟨be, hbe⟩ : ∃ be, (y.key == x.key) = be := ⟨_, rfl⟩
                    rw [hbe] at HNJ
                    clear hrow hrow2 hy i0' y0
                    cases bi with
                    | true =>
                      clear hbe q8 q9
                      go_wp2_with fail
                      refine wp_region_grew (by kernel_rfl) (by kernel_rfl) (fun _W h0 h1 => ?_)
                      repeat (refine h1 _ _ _ (fun K hK => ?_); go_simp; refine hK _ ?_; clear hK K)
                      refine h0 _ (fun p => ?_)
                      clear h0 h1
                      go_wp2_with fail
                      go_roundg (gk - 1)
                      case measure => omega
                      case rel => exact ⟨j + 1, true, by omega, by go_num, rfl, by rw [HNJ.out, ← Bool.or_assoc, ← HBI.out]; rfl, HO.out.trans p.h (fun _ _ q => q)⟩
                    | false =>
                      cases be
                      all_goals
                        go_wp2_with fail
                        refine wp_region_grew (by kernel_rfl) (by kernel_rfl) (fun _W h0 h1 => ?_)
                        repeat (refine h1 _ _ _ (fun K hK => ?_); go_simp; refine hK _ ?_; clear hK K)
                        refine h0 _ (fun p => ?_)
                        clear h0 h1 q8 q9 hbe
                        go_wp2_with fail
                        go_roundg (gk - 1)
                        case measure => omega
                        case rel => exact ⟨j + 1, _, by omega, by go_num, rfl, by rw [HNJ.out, ← Bool.or_assoc, ← HBI.out]; rfl, HO.out.trans p.h (fun _ _ q => q)⟩
                  · obtain rfl : j = on.length := by omega
                    have hj1 : ¬ (on.length : Int) < (on.length : Int) := by omega
                    rw [List.take_length] at HBI
                    have HNX2 : Hid (onceL (l.take (k + 1)) = if bi = true then on else on ++ [x]) := Lib.hid (by rw [HBI.out]; exact HNX.out)
                    have HH6 := Lib.hid (And.intro (HH5.out.1.still HO.out) (HH5.out.2.still HH5.out.1 HO.out))
                    clear HBI HO HH5 HNX hj hgj
                    cases bi with
                    | true =>
                      go_wp2_with fail
                      go_roundg (l.length - (k + 1))
                      case measure => omega
                      case rel => exact ⟨k + 1, by omega, by go_num, HH6.out.1, by rw [HNX2.out]; exact HH6.out.2⟩
                    | false =>
                      have hrow := row_only HV.out HH6.out.1.only (fun _ _ => fun q => q)
                      obtain ⟨g', off', he, i0', i1', i2'⟩ := row_item hrow HX.out
                      cases he
                      have oA := (Only.refl (fun _ => False) wr).alloc (.cells #[str x.key, str x.val, .int .i64 x.kind] 35)
                      have HOWN := Lib.hid (HH6.out.2.own.alloc (.cells #[str x.key, str x.val, .int .i64 x.kind] 35))
                      have HCE := Lib.hid (cells_new wr (itemC x) 35 (0, 0))
                      have HOA := Lib.hid oA
                      have hmax : on.length + 1 ≤ maxLen := by unfold maxLen; omega
                      clear hrow oA
                      go_wp2_with (at_builtin; refine wpList_append_moved _ rfl _ _ 22 rfl 35 i0 _ 3 40 Try.underlying22 hi hz0 hz1 hz2 rfl (by decide) _ _ _ rfl HOWN.out ⟨wr.heap.size, 0, none⟩ 1 1 (itemC x) rfl rfl HCE.out (itemC_one x) hmax (by omega) ?_; intro a' c' wx hown2 hgr hmv; have HG := Lib.hid (HH6.out.2.grow HH6.out.1 HOA.out x hown2 hgr hmv); clear hown2 hgr hmv)
                      all_goals
                        go_roundg (l.length - (k + 1))
                        case measure => omega
                        case rel => exact ⟨k + 1, by omega, by go_num, HG.out.1, by rw [HNX2.out, if_neg (by decide)]; exact HG.out.2⟩
              · obtain rfl : k = l.length := by omega
                have hk1 : ¬ (l.length : Int) < (l.length : Int) := by omega
                have heo := (onceL_is l l.length (Nat.le_refl _)).1
                obtain ⟨on, hon⟩ : ∃ on, onceL (l.take l.length) = on := ⟨_, rfl⟩
                rw [hon] at HH hol heo ⊢
                have HEO := Lib.hid heo
                clear hon heo
                clear hk hgk
                have HC0 := Lib.hid (row_read HH.out.2.row)
                have HNIL := Lib.hid (row_nil HH.out.2.row)
                have hmax : 0 + on.length ≤ maxLen := by unfold maxLen; omega
                have hbig : (0 + on.length) * 40 ≤ 140737488355328 := by omega
                have hfl : (on.flatMap itemC).length = on.length * 3 := flatI_length on
                have HFL := Lib.hid hfl
                clear hfl
                go_wp2_with (at_builtin; refine wpList_append_any _ rfl _ _ 22 rfl 35 i0 _ 3 40 Try.underlying22 hi hz0 hz1 hz2 rfl (by decide) (.slice none 0 0) 0 [] rfl ⟨rfl, .inl ⟨rfl, rfl⟩⟩ aO on.length cO (on.flatMap itemC) rfl HFL.out HNIL.out (HC0.out _ (Only.refl _ _)) (flatI_one on) hmax hbig ?_; intro am cm wx hown2 hgr hmv; have HG := Lib.hid (And.intro hown2 (And.intro hgr hmv)); clear hown2 hgr hmv)
                obtain ⟨hown2, hgr, hmv⟩ := HG.out
                rw [Nat.zero_add, List.nil_append] at hown2
                rw [Nat.zero_add] at hmv
                have hox : Only (fun _ => False) wr wx := (Only.refl (fun _ => False) wr).grown hgr (fun k _ h => by cases h)
                have hnew : ∀ j, (Value.slice am on.length cm).ownBlock = some j → wr.heap.size ≤ j := fun j hj => (hmv j hj).elim (fun q => by cases q) id
                have HX := Lib.hid (And.intro (HH.out.1.still hox) (And.intro (HH.out.2.still HH.out.1 hox) (Mine14.fresh HH.out.1 hown2 hox hnew)))
                have HNE : Hid (∀ j, (Value.slice aO on.length cO).ownBlock = some j → ¬ (Value.slice am on.length cm).ownBlock = some j) := Lib.hid (fun j hj q => by have := hnew j q; have := (HH.out.2.own.lt j hj).2; omega)
                clear hown2 hgr hmv hox hnew HG HH HC0 HNIL HFL hmax hbig HV HLEN
                generalize wr = wy at *
                go_wp2_with fail
                go_loopg [16] ns.length (fun gh ix wr => ∃ (k : Nat) (mm : List Item), gh + k = ns.length ∧ ix = .int .i64 k ∧ Two14 w wr bp bq noPages noPages ∧ Mine14 w wr bp bq (.slice aO on.length cO) on ∧ Mine14 w wr bp bq (.slice am on.length cm) mm ∧ mm.Perm on)
                case atStart => exact ⟨0, on, by omega, rfl, HX.out.1, HX.out.2.1, HX.out.2.2, List.Perm.refl _⟩
                case round =>
                  obtain ⟨k, mm, hgk, rfl, h2, hm1, hm2, hper⟩ := hrel
                  have hml := Lib.hid hper.length_eq
                  have HH := Lib.hid (And.intro h2 (And.intro hm1 (And.intro hm2 hper)))
                  clear h2 hm1 hm2 hper HX
                  have hw1 : IntKind.i64.wrap ((k : Int) + 1) = (k : Int) + 1 := by exact IntWalk.i64_in _ (by omega)
                  by_cases hk : k + 1 < ns.length ∧ 0 < on.length
                  · obtain ⟨hk, hon⟩ := hk
                    generalize hnn : on.length = nn at *
                    clear hnn
                    have hk1 : (k : Int) + 1 < (ns.length : Int) := by omega
                    have hk2 : (k : Int) < (ns.length : Int) := by omega
                    have hk3 : (0 : Int) ≤ (k : Int) := by omega
                    have hk4 : (0 : Int) ≤ (k : Int) + 1 := by omega
                    have hk5 : ((k : Int) + 1).toNat = k + 1 := by omega
                    have hon1 : (0 : Int) < (nn : Int) := by omega
                    have hon2 : ¬ (nn : Int) = 0 := by omega
                    have hon3 : ¬ nn = 0 := by omega
                    obtain ⟨o1, ho1⟩ : ∃ x, ns[k]? = some x := ⟨_, List.getElem?_eq_getElem (by omega)⟩
                    obtain ⟨o2, ho2⟩ : ∃ x, ns[k + 1]? = some x := ⟨_, List.getElem?_eq_getElem hk⟩
                    have hrow := row_only HV2.out HH.out.1.only (fun _ _ => fun q => q)
                    obtain ⟨g, off, rfl, c1⟩ := row_int hrow ho1
                    obtain ⟨g', off', he, c2⟩ := row_int hrow ho2
                    cases he
                    obtain ⟨r1, xi, e1, e2, e3, e4, e5, hx, _, _⟩ := place14 o1 nn hon (by omega)
                    obtain ⟨r2, yi, f1, f2, f3, f4, f5, hy, _, _⟩ := place14 o2 nn hon (by omega)
                    have q8 : ∀ p : Grew wr, p.u.cell? ⟨g, off + k, none⟩ = some (.int .i64 o1) := fun p => p.cell c1
                    have q9 : ∀ p : Grew wr, p.u.cell? ⟨g, off + (k + 1), none⟩ = some (.int .i64 o2) := fun p => p.cell c2
                    have q7 : ∀ p : Grew wr, p.u.cell? ⟨g, off + k + 1, none⟩ = some (.int .i64 o2) := fun p => q9 p
                    have e6 : (r1 + (nn : Int)) % (nn : Int) = (xi : Int) := by rw [← e4, Int.tmod_eq_emod_of_nonneg (place_pos e1 hon)]
                    have f6 : (r2 + (nn : Int)) % (nn : Int) = (yi : Int) := by rw [← f4, Int.tmod_eq_emod_of_nonneg (place_pos f1 hon)]
                    obtain ⟨x1, hx1⟩ : ∃ x, mm[xi]? = some x := ⟨_, List.getElem?_eq_getElem (by have := hml.out; omega)⟩
                    obtain ⟨y1, hy1⟩ : ∃ x, mm[yi]? = some x := ⟨_, List.getElem?_eq_getElem (by have := hml.out; omega)⟩
                    obtain ⟨gm, rfl⟩ : ∃ gm, am = some ⟨gm, 0, none⟩ := (own_addr HH.out.2.2.1.own).resolve_left (fun q => by have := q.2.1; omega)
                    have HXY := Lib.hid (And.intro hx1 hy1)
                    clear hrow ho1 ho2 c1 c2 hx1 hy1
                    go_wp2_with fail
                    refine wp_region_grew (by kernel_rfl) (by kernel_rfl) (fun _W h0 h1 => ?_)
                    repeat (refine h1 _ _ _ (fun K hK => ?_); go_simp; refine hK _ ?_; clear hK K)
                    refine h0 _ (fun p => ?_)
                    clear h0 h1 q7 q8 q9 e1 e2 e3 e4 e5 e6 f1 f2 f3 f4 f5 f6
                    obtain ⟨w3, hw3⟩ : ∃ w3, p.u = w3 := ⟨_, rfl⟩
                    have HH3 := Lib.hid (And.intro (HH.out.1.still p.h) (And.intro (HH.out.2.1.still HH.out.1 p.h) (HH.out.2.2.1.still HH.out.1 p.h)))
                    have HPM := Lib.hid HH.out.2.2.2
                    rw [hw3] at *
                    clear hw3 p HH
                    have hown := HH3.out.2.2.own
                    rw [hml.out] at hown
                    obtain ⟨_, _, he, a0, a1, a2⟩ := row_item HH3.out.2.2.row HXY.out.1
                    cases he
                    obtain ⟨_, _, he, b0, b1, b2⟩ := row_item HH3.out.2.2.row HXY.out.2
                    cases he
                    simp only [Nat.zero_add] at a0 a1 a2 b0 b1 b2
                    obtain ⟨X0, hX0⟩ : ∃ X0, xi * 3 = X0 := ⟨_, rfl⟩
                    obtain ⟨Y0, hY0⟩ : ∃ Y0, yi * 3 = Y0 := ⟨_, rfl⟩
                    rw [hX0] at a0 a1 a2
                    rw [hY0] at b0 b1 b2
                    have z0 := own_frozen hown (X0)
                    have z1 := own_frozen hown (X0 + 1)
                    have z2 := own_frozen hown (X0 + 2)
                    have z3 := own_frozen hown (Y0)
                    have z4 := own_frozen hown (Y0 + 1)
                    have z5 := own_frozen hown (Y0 + 2)
                    have hx3 : (xi : Int) < (nn : Int) := by omega
                    have hy3 : (yi : Int) < (nn : Int) := by omega
                    have hx4 : (0 : Int) ≤ (xi : Int) := by omega
                    have hy4 : (0 : Int) ≤ (yi : Int) := by omega
                    have hown := Lib.hid hown
                    have hx9 : xi < mm.length := by have := hml.out; omega
                    have hy9 : yi < mm.length := by have := hml.out; omega
                    by_cases hxy : xi = yi
                    · subst hxy
                      have hXY2 := HXY.out
                      rw [hXY2.1] at hXY2
                      obtain rfl : x1 = y1 := Option.some.inj hXY2.2
                      clear z3 z4 z5 hy3 hy4 hXY2 b0 b1 b2 hY0
                      have hx9 := Lib.hid hx9
                      have hy9 := Lib.hid hy9
                      go_wp2_with fail
                      go_region_law (fail)
                      all_goals
                        go_wp2_with fail
                        go_roundg (gk - 1)
                        case measure => omega
                        case rel =>
                          subst hX0
                          have hrow := (own_set (own_set (own_set (own_set (own_set (own_set hown.out (xi * 3) (str x1.key)) (xi * 3 + 1) (str x1.val)) (xi * 3 + 2) (.int .i64 x1.kind)) (xi * 3) (str x1.key)) (xi * 3 + 1) (str x1.val)) (xi * 3 + 2) (.int .i64 x1.kind)).drew
                          rw [set_cells3 mm xi x1 hx9.out, set_cells3 (mm.set xi x1) xi x1 (by rw [List.length_set]; exact hy9.out)] at hrow
                          have hoF := ((((((Only.refl (fun j => j = gm) w3).put gm (xi * 3) rfl (str x1.key)).put gm (xi * 3 + 1) rfl (str x1.val)).put gm (xi * 3 + 2) rfl (.int .i64 x1.kind)).put gm (xi * 3) rfl (str x1.key)).put gm (xi * 3 + 1) rfl (str x1.val)).put gm (xi * 3 + 2) rfl (.int .i64 x1.kind) |>.drew
                          have hW := HH3.out.2.2.written HH3.out.1 (l' := (mm.set xi x1).set xi x1) (by simp only [List.length_set]) (by rw [hml.out]; exact hrow) hoF
                          have hO := HH3.out.2.1.other HH3.out.1 hoF (fun j hj e => HNE.out j hj (by rw [e]; rfl)) (fun j e => by rw [e]; exact HH3.out.2.2.mine_blocks gm rfl)
                          exact ⟨k + 1, (mm.set xi x1).set xi x1, by omega, by go_num, hW.1, hO, hW.2, (swap_perm mm xi xi x1 x1 HXY.out.1 HXY.out.2).trans HPM.out⟩
                    · have hyx : ¬ yi = xi := fun e => hxy e.symm
                      have p0 : ¬ X0 = Y0 := by omega
                      have r0 : ¬ Y0 = X0 := by omega
                      have p1 : ¬ X0 = Y0 + 1 := by omega
                      have r1 : ¬ Y0 + 1 = X0 := by omega
                      have p2 : ¬ X0 = Y0 + 2 := by omega
                      have r2 : ¬ Y0 + 2 = X0 := by omega
                      have p3 : ¬ X0 + 1 = Y0 := by omega
                      have r3 : ¬ Y0 = X0 + 1 := by omega
                      have p4 : ¬ X0 + 1 = Y0 + 1 := by omega
                      have r4 : ¬ Y0 + 1 = X0 + 1 := by omega
                      have p5 : ¬ X0 + 1 = Y0 + 2 := by omega
                      have r5 : ¬ Y0 + 2 = X0 + 1 := by omega
                      have p6 : ¬ X0 + 2 = Y0 := by omega
                      have r6 : ¬ Y0 = X0 + 2 := by omega
                      have p7 : ¬ X0 + 2 = Y0 + 1 := by omega
                      have r7 : ¬ Y0 + 1 = X0 + 2 := by omega
                      have p8 : ¬ X0 + 2 = Y0 + 2 := by omega
                      have r8 : ¬ Y0 + 2 = X0 + 2 := by omega
                      have hx9 := Lib.hid hx9
                      have hy9 := Lib.hid hy9
                      go_wp2_with fail
                      go_region_law (fail)
                      all_goals
                        go_wp2_with fail
                        go_roundg (gk - 1)
                        case measure => omega
                        case rel =>
                          subst hX0 hY0
                          have hrow := (own_set (own_set (own_set (own_set (own_set (own_set hown.out (xi * 3) (str y1.key)) (xi * 3 + 1) (str y1.val)) (xi * 3 + 2) (.int .i64 y1.kind)) (yi * 3) (str x1.key)) (yi * 3 + 1) (str x1.val)) (yi * 3 + 2) (.int .i64 x1.kind)).drew
                          rw [set_cells3 mm xi y1 hx9.out, set_cells3 (mm.set xi y1) yi x1 (by rw [List.length_set]; exact hy9.out)] at hrow
                          have hoF := ((((((Only.refl (fun j => j = gm) w3).put gm (xi * 3) rfl (str y1.key)).put gm (xi * 3 + 1) rfl (str y1.val)).put gm (xi * 3 + 2) rfl (.int .i64 y1.kind)).put gm (yi * 3) rfl (str x1.key)).put gm (yi * 3 + 1) rfl (str x1.val)).put gm (yi * 3 + 2) rfl (.int .i64 x1.kind) |>.drew
                          have hW := HH3.out.2.2.written HH3.out.1 (l' := (mm.set xi y1).set yi x1) (by simp only [List.length_set]) (by rw [hml.out]; exact hrow) hoF
                          have hO := HH3.out.2.1.other HH3.out.1 hoF (fun j hj e => HNE.out j hj (by rw [e]; rfl)) (fun j e => by rw [e]; exact HH3.out.2.2.mine_blocks gm rfl)
                          exact ⟨k + 1, (mm.set xi y1).set yi x1, by omega, by go_num, hW.1, hO, hW.2, (swap_perm mm xi yi x1 y1 HXY.out.1 HXY.out.2).trans HPM.out⟩
                  · have hor : (¬ (k : Int) + 1 < (ns.length : Int)) ∨ ((k : Int) + 1 < (ns.length : Int) ∧ on.length = 0) := by omega
                    obtain ⟨nn, hnn⟩ : ∃ nn, on.length = nn := ⟨_, rfl⟩
                    have hn80' : nn ≤ 80 := by omega
                    have HNN := Lib.hid hnn
                    rw [hnn] at hml hor HH HNE ⊢
                    clear hk hgk hnn hol HIN HV2 hi hz0 hz1 hz2
                    rcases hor with hk1 | ⟨hk1, hk2⟩
                    · go_wp2_with fail
                      go_loopg [9, 10, 19] nn (fun gh av bv ix wr => ∃ (k : Nat) (Sp Sq : PSt) (ra rb : Int), gh + k = nn ∧ ix = .int .i64 k ∧ av = .int .i64 ra ∧ bv = .int .i64 rb ∧ Two14 w wr bp bq Sp Sq ∧ Mine14 w wr bp bq (.slice aO nn cO) on ∧ Mine14 w wr bp bq (.slice am nn cm) mm ∧ PlaysTo Sp ra (putAll (on.take k)) k ∧ PlaysTo Sq rb (putAll (mm.take k)) (2 * k))
                      case atStart => exact ⟨0, noPages, noPages, 0, 0, by omega, rfl, rfl, rfl, HH.out.1, HH.out.2.1, HH.out.2.2.1, plays_none, plays_none⟩
                      case round =>
                        obtain ⟨k5, Sp, Sq, ra, rb, hgk5, rfl, rfl, rfl, h2, hm1, hm2, hpp, hpq⟩ := hrel
                        have HPM := Lib.hid HH.out.2.2.2
                        have HQ := Lib.hid (And.intro h2 (And.intro hm1 hm2))
                        have HPP := Lib.hid hpp
                        have HPQ := Lib.hid hpq
                        clear h2 hm1 hm2 hpp hpq HH
                        by_cases hk5 : k5 < nn
                        · as_aux_lemma =>
                          have hk6 : (k5 : Int) < (nn : Int) := by omega
                          have hk7 : (0 : Int) ≤ (k5 : Int) := by omega
                          have hw5 : IntKind.i64.wrap ((k5 : Int) + 1) = (k5 : Int) + 1 := by exact IntWalk.i64_in _ (by omega)
                          have hmod : (k5 : Int).tmod 3 = ((k5 % 3 : Nat) : Int) := by rw [Int.tmod_eq_emod_of_nonneg (by omega)]; rfl
                          have hwm : IntKind.i64.wrap ((k5 % 3 : Nat) : Int) = ((k5 % 3 : Nat) : Int) := by exact IntWalk.i64_in _ (by omega)
                          obtain ⟨y, hy⟩ : ∃ y, on[k5]? = some y := ⟨_, List.getElem?_eq_getElem (by have := HNN.out; omega)⟩
                          obtain ⟨z, hz⟩ : ∃ z, mm[k5]? = some z := ⟨_, List.getElem?_eq_getElem (by have := hml.out; omega)⟩
                          have hyo := HEO.out.ok y (List.mem_of_getElem? hy)
                          have hzo := HEO.out.ok z (HPM.out.mem_iff.1 (List.mem_of_getElem? hz))
                          obtain ⟨r1, S1, ha1, hpl1⟩ := act_put HPP.out (by omega) hyo
                          obtain ⟨r2, S2, ha2, hpl2⟩ := act_put HPQ.out (by omega) hzo
                          have HA1 := act12_is wr bp Sp ra _ k5 ⟨1, y⟩ HQ.out.1.hp HPP.out (by omega)
                          unfold ActEnds at HA1
                          rw [ha1] at HA1
                          dsimp only at HA1
                          have HA1 := Lib.hid HA1
                          obtain ⟨r3, S3, ha3, hpl3⟩ := act_put hpl2 (by omega) hzo
                          rw [putL_twice HPQ.out.right hzo, ← putAll_next hz] at hpl3
                          have HA3 : Hid (∀ W, PagesAt W bq S2 → Calls Try.prog 30 #[.pointer (some ⟨bq, 0, none⟩), .int .i64 r2, .agg #[.int .i64 1, str z.key, str z.val, .int .i64 z.kind]] W fun e w' => e = .returned (.int .i64 r3) ∧ PagesAt w' bq S3 ∧ PStep bq W w') := Lib.hid (fun W hW => by
                            have := act12_is W bq S2 r2 _ (2 * k5 + 1) ⟨1, z⟩ hW hpl2 (by omega)
                            unfold ActEnds at this
                            rw [ha3] at this
                            exact this)
                          have HA2 : Hid (∀ W, PagesAt W bq Sq → Calls Try.prog 30 #[.pointer (some ⟨bq, 0, none⟩), .int .i64 rb, .agg #[.int .i64 1, str z.key, str z.val, .int .i64 z.kind]] W fun e w' => e = .returned (.int .i64 r2) ∧ PagesAt w' bq S2 ∧ PStep bq W w') := Lib.hid (fun W hW => by
                            have := act12_is W bq Sq rb _ (2 * k5) ⟨1, z⟩ hW HPQ.out (by omega)
                            unfold ActEnds at this
                            rw [ha2] at this
                            exact this)
                          rw [← putAll_next hy] at hpl1
                          rw [← putAll_next hz] at hpl2
                          have HPL := Lib.hid (And.intro hpl1 (And.intro hpl2 hpl3))
                          have HZ := Lib.hid hz
                          obtain ⟨g1, f1, rfl, y0, y1, y2⟩ := row_item HQ.out.2.1.row hy
                          obtain ⟨g2, f2, rfl, z0, z1, z2⟩ := row_item HQ.out.2.2.row hz
                          clear hyo hzo ha1 ha2 ha3 hpl1 hpl2 hpl3 hy hz z0 z1 z2
                          go_wp2_with (refine wpList_build_do _ rfl (.tmp 173) rfl y rfl ?_)
                          (with_reducible refine HA1.out.mono ?_)
                          rintro e w4 ⟨rfl, hp4, st4⟩
                          have HQ4 := Lib.hid (And.intro (HQ.out.1.left st4 hp4) (And.intro (HQ.out.2.1.left HQ.out.1 st4 hp4) (HQ.out.2.2.left HQ.out.1 st4 hp4)))
                          obtain ⟨g', f', he, z0, z1, z2⟩ := row_item HQ4.out.2.2.row HZ.out
                          cases he
                          clear hp4 st4 HA1 HQ y0 y1 y2
                          go_wp2_with (refine wpList_build_do _ rfl (.tmp 181) rfl z rfl ?_)
                          (with_reducible refine (HA2.out w4 HQ4.out.1.hq).mono ?_)
                          rintro e w5 ⟨rfl, hp5, st5⟩
                          have HQ5 := Lib.hid (And.intro (HQ4.out.1.right st5 hp5) (And.intro (HQ4.out.2.1.right HQ4.out.1 st5 hp5) (HQ4.out.2.2.right HQ4.out.1 st5 hp5)))
                          clear hp5 st5 HA2 HQ4 z0 z1 z2
                          by_cases hm3 : k5 % 3 = 0
                          · have hm5 : ((k5 % 3 : Nat) : Int) = 0 := by omega
                            obtain ⟨g', f', he, z0, z1, z2⟩ := row_item HQ5.out.2.2.row HZ.out
                            cases he
                            generalize k5 % 3 = km at *
                            go_wp2_with (refine wpList_build_do _ rfl (.tmp 192) rfl z rfl ?_)
                            (with_reducible refine (HA3.out w5 HQ5.out.1.hq).mono ?_)
                            rintro e w6 ⟨rfl, hp6, st6⟩
                            have HQ6 := Lib.hid (And.intro (HQ5.out.1.right st6 hp6) (And.intro (HQ5.out.2.1.right HQ5.out.1 st6 hp6) (HQ5.out.2.2.right HQ5.out.1 st6 hp6)))
                            clear hp6 st6 HA3 HQ5 z0 z1 z2
                            go_wp2_with fail
                            go_roundg (gk - 1)
                            case measure => omega
                            case rel => exact ⟨k5 + 1, S1, S3, r1, r3, by omega, by go_num, rfl, rfl, HQ6.out.1, HQ6.out.2.1, HQ6.out.2.2, HPL.out.1, HPL.out.2.2⟩
                          · have hm5 : ¬ ((k5 % 3 : Nat) : Int) = 0 := by omega
                            generalize k5 % 3 = km at *
                            go_wp2_with fail
                            go_roundg (gk - 1)
                            case measure => omega
                            case rel => exact ⟨k5 + 1, S1, S2, r1, r2, by omega, by go_num, rfl, rfl, HQ5.out.1, HQ5.out.2.1, HQ5.out.2.2, HPL.out.1, plays_skip HPL.out.2.1⟩
                        · obtain rfl : k5 = nn := by omega
                          have hk6 : ¬ (k5 : Int) < (k5 : Int) := by omega
                          have he1 : on.take k5 = on := List.take_of_length_le (by have := HNN.out; omega)
                          have he2 : mm.take k5 = mm := List.take_of_length_le (by have := hml.out; omega)
                          have he3 : putAll mm = putAll on := (putAll_perm HEO.out (fun _ => HPM.out.mem_iff.symm) (HEO.out.perm HPM.out.symm)).symm
                          have hPl := (putAll_is HEO.out).2.2
                          rw [he1] at HPP
                          rw [he2, he3] at HPQ
                          rw [HNN.out] at hPl
                          obtain ⟨P, hP⟩ : ∃ P, putAll on = P := ⟨_, rfl⟩
                          rw [hP] at HPP HPQ hPl
                          have HPL := Lib.hid hPl
                          obtain ⟨ids, R, _⟩ := HPP.out.rooted
                          obtain ⟨ids2, R2, _⟩ := HPQ.out.rooted
                          have HR := Lib.hid (And.intro R R2)
                          have hs1 : Sp.stop < 0 := by rw [HPP.out.stop]; decide
                          have hs2 : Sq.stop < 0 := by rw [HPQ.out.stop]; decide
                          have hP2 : P.length < 2 ^ 11 := by omega
                          have HI1 := Lib.hid (tItems_is wr bp Sp ra P ids [] 1000 HQ.out.1.hp R hs1 hP2 (by omega))
                          have HS := Lib.hid (And.intro hs1 (And.intro hs2 hP2))
                          clear he1 he2 he3 hP R R2 hs1 hs2 hP2 hPl hk5
                          unfold pagesV ItemsTold at HI1
                          go_wp2_with fail
                          (with_reducible refine HI1.out.mono ?_)
                          rintro e w4 ⟨va, rfl, rA, aA_, hp4, st4, hn4⟩
                          rw [fromL_nil_key, List.take_of_length_le (by show P.length ≤ 1000; have := HPL.out; omega)] at rA
                          have hva : ∃ aA cA, va = .slice aA k5 cA := by
                            obtain ⟨a', c', e'⟩ := row_form rA.row
                            exact ⟨a', c', by rw [e', HPL.out]⟩
                          obtain ⟨aA, cA, rfl⟩ := hva
                          have HQ4 := Lib.hid (HQ.out.1.left st4 hp4)
                          have HRA := Lib.hid (And.intro rA (fun j hj q => by
                            have h1 := hn4 j hj
                            have h3 := pown_lt HQ.out.1.hq ((pown_of_heap (st4.only.block bq HQ.out.1.hq.lt (fun e => HQ.out.1.dis bq e (.inl rfl))) j).1 q)
                            omega : ∀ j, rowBlock (.slice aA k5 cA) = some j → ¬ pown w4 bq j))
                          have HI2 := Lib.hid (tItems_is w4 bq Sq rb P ids2 [] 1000 HQ4.out.hq HR.out.2 HS.out.2.1 HS.out.2.2 (by omega))
                          clear rA aA_ hp4 st4 hn4 HI1 HQ
                          unfold pagesV ItemsTold at HI2
                          go_wp2_with fail
                          (with_reducible refine HI2.out.mono ?_)
                          rintro e w5 ⟨vb, rfl, rB, aB_, hp5, st5, hn5⟩
                          rw [fromL_nil_key, List.take_of_length_le (by show P.length ≤ 1000; have := HPL.out; omega)] at rB
                          have hvb : ∃ aB cB, vb = .slice aB k5 cB := by
                            obtain ⟨a', c', e'⟩ := row_form rB.row
                            exact ⟨a', c', by rw [e', HPL.out]⟩
                          obtain ⟨aB, cB, rfl⟩ := hvb
                          have HQ5 := Lib.hid (HQ4.out.right st5 hp5)
                          have HSA := Lib.hid (SameI_is w5 _ _ P (HRA.out.1.only st5.only HRA.out.2).row rB.row (by have := HPL.out; omega))
                          clear rB aB_ hp5 st5 hn5 HI2 HQ4 HRA
                          go_wp2_with fail
                          (with_reducible refine HSA.out.mono ?_)
                          rintro e w6 ⟨rfl, o6⟩
                          have HQ6 := Lib.hid (HQ5.out.still o6)
                          have HC1 := Lib.hid (tCheck_is w6 bp Sp ra P ids HQ6.out.hp HR.out.1 HS.out.1 HS.out.2.2)
                          clear o6 HSA HQ5
                          unfold pagesV at HC1
                          go_wp2_with fail
                          (with_reducible refine HC1.out.mono ?_)
                          rintro e w7 ⟨rfl, hp7, st7⟩
                          have HQ7 := Lib.hid (HQ6.out.left st7 hp7)
                          have HC2 := Lib.hid (tCheck_is w7 bq Sq rb P ids2 HQ7.out.hq HR.out.2 HS.out.2.1 HS.out.2.2)
                          clear hp7 st7 HC1 HQ6
                          unfold pagesV at HC2
                          go_wp2_with fail
                          (with_reducible refine HC2.out.mono ?_)
                          rintro e w8 ⟨rfl, hp8, st8⟩
                          have HF := Lib.hid (HQ7.out.right st8 hp8).only
                          clear hp8 st8 HC2 HQ7
                          go_wp2_with fail
                          go_ret
                          exact ⟨rfl, HF.out⟩
                    · have hk3 : ¬ (0 : Int) < (nn : Int) := by omega
                      clear hk2
                      go_wp2_with fail
                      try clear hk3
                      go_loopg [9, 10, 19] nn (fun gh av bv ix wr => ∃ (k : Nat) (Sp Sq : PSt) (ra rb : Int), gh + k = nn ∧ ix = .int .i64 k ∧ av = .int .i64 ra ∧ bv = .int .i64 rb ∧ Two14 w wr bp bq Sp Sq ∧ Mine14 w wr bp bq (.slice aO nn cO) on ∧ Mine14 w wr bp bq (.slice am nn cm) mm ∧ PlaysTo Sp ra (putAll (on.take k)) k ∧ PlaysTo Sq rb (putAll (mm.take k)) (2 * k))
                      case atStart => exact ⟨0, noPages, noPages, 0, 0, by omega, rfl, rfl, rfl, HH.out.1, HH.out.2.1, HH.out.2.2.1, plays_none, plays_none⟩
                      case round =>
                        obtain ⟨k5, Sp, Sq, ra, rb, hgk5, rfl, rfl, rfl, h2, hm1, hm2, hpp, hpq⟩ := hrel
                        have HPM := Lib.hid HH.out.2.2.2
                        have HQ := Lib.hid (And.intro h2 (And.intro hm1 hm2))
                        have HPP := Lib.hid hpp
                        have HPQ := Lib.hid hpq
                        clear h2 hm1 hm2 hpp hpq HH
                        by_cases hk5 : k5 < nn
                        · exfalso; omega
                        · obtain rfl : k5 = nn := by omega
                          have hk6 : ¬ (k5 : Int) < (k5 : Int) := by omega
                          have he1 : on.take k5 = on := List.take_of_length_le (by have := HNN.out; omega)
                          have he2 : mm.take k5 = mm := List.take_of_length_le (by have := hml.out; omega)
                          have he3 : putAll mm = putAll on := (putAll_perm HEO.out (fun _ => HPM.out.mem_iff.symm) (HEO.out.perm HPM.out.symm)).symm
                          have hPl := (putAll_is HEO.out).2.2
                          rw [he1] at HPP
                          rw [he2, he3] at HPQ
                          rw [HNN.out] at hPl
                          obtain ⟨P, hP⟩ : ∃ P, putAll on = P := ⟨_, rfl⟩
                          rw [hP] at HPP HPQ hPl
                          have HPL := Lib.hid hPl
                          obtain ⟨ids, R, _⟩ := HPP.out.rooted
                          obtain ⟨ids2, R2, _⟩ := HPQ.out.rooted
                          have HR := Lib.hid (And.intro R R2)
                          have hs1 : Sp.stop < 0 := by rw [HPP.out.stop]; decide
                          have hs2 : Sq.stop < 0 := by rw [HPQ.out.stop]; decide
                          have hP2 : P.length < 2 ^ 11 := by omega
                          have HI1 := Lib.hid (tItems_is wr bp Sp ra P ids [] 1000 HQ.out.1.hp R hs1 hP2 (by omega))
                          have HS := Lib.hid (And.intro hs1 (And.intro hs2 hP2))
                          clear he1 he2 he3 hP R R2 hs1 hs2 hP2 hPl hk5
                          unfold pagesV ItemsTold at HI1
                          go_wp2_with fail
                          (with_reducible refine HI1.out.mono ?_)
                          rintro e w4 ⟨va, rfl, rA, aA_, hp4, st4, hn4⟩
                          rw [fromL_nil_key, List.take_of_length_le (by show P.length ≤ 1000; have := HPL.out; omega)] at rA
                          have hva : ∃ aA cA, va = .slice aA k5 cA := by
                            obtain ⟨a', c', e'⟩ := row_form rA.row
                            exact ⟨a', c', by rw [e', HPL.out]⟩
                          obtain ⟨aA, cA, rfl⟩ := hva
                          have HQ4 := Lib.hid (HQ.out.1.left st4 hp4)
                          have HRA := Lib.hid (And.intro rA (fun j hj q => by
                            have h1 := hn4 j hj
                            have h3 := pown_lt HQ.out.1.hq ((pown_of_heap (st4.only.block bq HQ.out.1.hq.lt (fun e => HQ.out.1.dis bq e (.inl rfl))) j).1 q)
                            omega : ∀ j, rowBlock (.slice aA k5 cA) = some j → ¬ pown w4 bq j))
                          have HI2 := Lib.hid (tItems_is w4 bq Sq rb P ids2 [] 1000 HQ4.out.hq HR.out.2 HS.out.2.1 HS.out.2.2 (by omega))
                          clear rA aA_ hp4 st4 hn4 HI1 HQ
                          unfold pagesV ItemsTold at HI2
                          go_wp2_with fail
                          (with_reducible refine HI2.out.mono ?_)
                          rintro e w5 ⟨vb, rfl, rB, aB_, hp5, st5, hn5⟩
                          rw [fromL_nil_key, List.take_of_length_le (by show P.length ≤ 1000; have := HPL.out; omega)] at rB
                          have hvb : ∃ aB cB, vb = .slice aB k5 cB := by
                            obtain ⟨a', c', e'⟩ := row_form rB.row
                            exact ⟨a', c', by rw [e', HPL.out]⟩
                          obtain ⟨aB, cB, rfl⟩ := hvb
                          have HQ5 := Lib.hid (HQ4.out.right st5 hp5)
                          have HSA := Lib.hid (SameI_is w5 _ _ P (HRA.out.1.only st5.only HRA.out.2).row rB.row (by have := HPL.out; omega))
                          clear rB aB_ hp5 st5 hn5 HI2 HQ4 HRA
                          go_wp2_with fail
                          (with_reducible refine HSA.out.mono ?_)
                          rintro e w6 ⟨rfl, o6⟩
                          have HQ6 := Lib.hid (HQ5.out.still o6)
                          have HC1 := Lib.hid (tCheck_is w6 bp Sp ra P ids HQ6.out.hp HR.out.1 HS.out.1 HS.out.2.2)
                          clear o6 HSA HQ5
                          unfold pagesV at HC1
                          go_wp2_with fail
                          (with_reducible refine HC1.out.mono ?_)
                          rintro e w7 ⟨rfl, hp7, st7⟩
                          have HQ7 := Lib.hid (HQ6.out.left st7 hp7)
                          have HC2 := Lib.hid (tCheck_is w7 bq Sq rb P ids2 HQ7.out.hq HR.out.2 HS.out.2.1 HS.out.2.2)
                          clear hp7 st7 HC1 HQ6
                          unfold pagesV at HC2
                          go_wp2_with fail
                          (with_reducible refine HC2.out.mono ?_)
                          rintro e w8 ⟨rfl, hp8, st8⟩
                          have HF := Lib.hid (HQ7.out.right st8 hp8).only
                          clear hp8 st8 HC2 HQ7
                          go_wp2_with fail
                          go_ret
                          exact ⟨rfl, HF.out⟩
        · have hr3 : room < 0 := by omega
          by_cases hk : k < l.length
          · have hk1 : (k : Int) < (l.length : Int) := by omega
            go_wp2_with fail
            go_ret
            exact ⟨rfl, HO.out⟩
          · have hk1 : ¬ (k : Int) < (l.length : Int) := by omega
            go_wp2_with fail
            go_ret
            exact ⟨rfl, HO.out⟩
    · have hn1 : (80 : Int) < (ns.length : Int) := by omega
      go_wp2_with fail
      refine (HAL.out w).mono ?_
      rintro e w1 ⟨rfl, o1⟩
      go_wp2_with fail
      go_ret
      exact ⟨rfl, o1⟩
  · have hl1 : (80 : Int) < (l.length : Int) := by omega
    go_wp2_with fail
    refine (HAL.out w).mono ?_
    rintro e w1 ⟨rfl, o1⟩
    go_wp2_with fail
    go_ret
    exact ⟨rfl, o1⟩
end Go.Proofs.Ytcjaokmodicikaa
