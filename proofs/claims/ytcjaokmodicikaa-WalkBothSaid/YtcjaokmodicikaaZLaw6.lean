/- WalkPlays: every tree, and every way of a cursor: it stands where a list of the items says. Conditions: one goroutine; the arguments lie in memory. -/
import Derived.Test.YtcjaokmodicikaaZLaw2
import Derived.Test.YtcjaokmodicikaaZLaw5
import Derived.Test.YtcjaokmodicikaaZArgs
namespace Go.Proofs.Ytcjaokmodicikaa
open Go.RowKit

theorem row_mv {w : World} {a : Option Addr} {n c : Nat} {l : List Mv} (h : RowAt mvC 2 w (.slice a n c) l) {k : Nat} {x : Mv} (hx : l[k]? = some x) :
    ∃ g off, a = some ⟨g, off, none⟩ ∧ w.cell? ⟨g, off + k * 2, none⟩ = some (.int .i64 x.kind) ∧ w.cell? ⟨g, off + k * 2 + 1, none⟩ = some (str x.s) := by
  cases h with
  | none => simp at hx
  | some g off cap _ hc => exact ⟨g, off, rfl, hc k x 0 _ hx rfl, hc k x 1 _ hx rfl⟩
theorem row_n {α : Type} {enc : α → List Value} {k : Nat} {w : World} {a : Option Addr} {n c : Nat} {l : List α} (h : RowAt enc k w (.slice a n c) l) : n = l.length := by
  cases h with
  | none => rfl
  | some => rfl
/-- Where a place stands, as a number. -/
def atI : Option Nat → Int
  | some k => k
  | none => -1
theorem Hold.fresh {w0 w : World} {x b : Nat} {S : PSt} {root : Int} {l : List Item} {vh : Value} {c : Cur} {F : Nat → Prop} {k : Option Nat} (H : Hold w0 w x b S root l vh c F k) (o : Obj) : ¬ F w.heap.size ∧ ¬ pown (w.alloc o) b w.heap.size := by
  obtain ⟨vS, vs, hI⟩ := H.cur
  refine ⟨fun q => by have := hI.small _ q; omega, fun q => ?_⟩
  have := pown_lt hI.pages ((pown_of_heap (((Only.refl (fun _ => False) w).alloc o).block b hI.pages.lt id) _).1 q)
  omega
theorem itemAt_some {l : List Item} {k : Nat} {y : Item} (h : l[k]? = some y) : itemAt l (some k) = .agg #[str y.key, str y.val, .int .i64 y.kind] := by
  unfold itemAt
  simp only [Option.bind_some, h]
  rfl
theorem neq_same (a b : Bytes) (n : Int) (w : World) : (binOp .neq 35 (.agg #[.string ⟨a.toArray⟩, .string ⟨b.toArray⟩, .int .i64 n]) (.agg #[.string ⟨a.toArray⟩, .string ⟨b.toArray⟩, .int .i64 n])).run Try.prog w = .ok (.bool false) w := by
  simp [go_sem]

set_option maxRecDepth 100000 in
set_option maxHeartbeats 40000000 in
theorem Plays_is (w : World) (a : Option Addr) (len cap : Nat) (l : List Item) (a2 : Option Addr) (len2 cap2 : Nat) (ops : List Mv) (h : IsItems w a len cap l) (h2 : IsMoves w a2 len2 cap2 ops) :
    Calls Try.prog 3 #[.slice a len cap, .slice a2 len2 cap2] w fun e w' => e = .returned (.bool true) ∧ Only (fun _ => False) w w' := by
  obtain ⟨rfl, hrow, hlt, hfew, hshort, hkinds⟩ := h
  obtain ⟨rfl, hrow2, hlt2, hfew2, hshort2⟩ := h2
  have HL := Lib.hid (Light_is w _ l hrow hfew hshort)
  have HAL := Lib.hid alive_is
  have HR := Lib.hid (And.intro hrow (And.intro hlt hrow2))
  clear hrow hlt hrow2 hlt2 hshort hkinds
  go_enter Try.func3, Try.ntmps3
  go_wp2_with fail
  refine HL.out.mono ?_
  rintro e w1 ⟨bl, rfl, hbl, o1⟩
  have HO1 := Lib.hid o1
  have HBL := Lib.hid hbl
  clear hbl o1
  cases bl with
  | false =>
    go_wp2_with fail
    refine (HAL.out w1).mono ?_
    rintro e w2 ⟨rfl, o2⟩
    go_wp2_with fail
    go_ret
    exact ⟨rfl, HO1.out.trans o2 (fun _ _ q => q)⟩
  | true =>
    have hl150 : l.length ≤ 150 := HBL.out rfl
    by_cases hn2 : ops.length ≤ 200
    · have hn2' : ¬ (ops.length : Int) > 200 := by omega
      go_wp2_with fail
      refine (HAL.out w1).mono ?_
      rintro e w2 ⟨rfl, o2⟩
      have hMD := Made_is w2 _ l (row_only HR.out.1 (HO1.out.trans o2 (fun _ _ q => q)) (fun _ _ => id)) (fun j hj => Nat.lt_of_lt_of_le (HR.out.2.1 j hj) (HO1.out.trans o2 (fun _ _ q => q)).size) hl150
      have HMD := Lib.hid hMD
      have HO2 := Lib.hid (HO1.out.trans o2 (fun _ _ q => q))
      clear hMD o2
      go_wp2_with fail
      refine HMD.out.mono ?_
      rintro e w3 ⟨b, root, vh, S, rfl, hP, hT, _, hRR, hA, ho3, hb3⟩
      have hG := hT.grown hl150
      obtain ⟨ah, nh, ch, rfl⟩ := capOk_form hRR.cap
      obtain rfl := row_n hRR.row
      have HON := Lib.hid (goes_on w3 b S root (madeL l) hP)
      have hml := madeL_length l
      have hmr := madeL_right l
      generalize madeL l = have_ at *
      have HX := Lib.hid (And.intro hP (And.intro hG (And.intro hRR (And.intro hA (And.intro ho3 hb3)))))
      have HRIS := Lib.hid ((rightL_iff _).1 hmr).2
      clear hP hG hRR hA ho3 hb3 hT hmr
      unfold pagesV at HON
      go_wp2_with fail
      refine HON.out.mono ?_
      rintro e w4 ⟨rfl, hc4, hs4, ho4⟩
      have hHold : Hold w w4 w3.heap.size b S root have_ (.slice ah have_.length ch) ⟨S, root, [], 0⟩ (fun k => k = w3.heap.size) none := by
        obtain ⟨hP, hG, hRR, hA, ho3, hb3⟩ := HX.out
        have hp : ∀ j, pown w4 b j ↔ pown w3 b j := fun j => pown_of_heap (ho4.block b hP.lt id) j
        have hs2 := HO2.out.size
        have hs3 := ho3.size
        refine ⟨hc4, hs4, (HO2.out.trans ho3 (fun _ _ q => q)).trans ho4 (fun _ _ q => q), fun j e => by omega, fun j q => by have := hb3 j ((hp j).1 q); omega, hRR.only ho4 (fun _ _ => id), fun j hj => ?_⟩
        obtain ⟨_, h2, h3⟩ := hA j hj
        exact ⟨Nat.lt_of_lt_of_le h2 ho4.size, by omega, fun q => h3 ((hp j).1 q)⟩
      have HG := Lib.hid HX.out.2.1
      have HHOLD := Lib.hid hHold
      clear hc4 hs4 ho4 hHold HX HON HMD
      generalize w3.heap.size = x at *
      go_wp2_with fail
      go_loopg [9, 10] ops.length (fun gh av ix wr => ∃ (i : Nat) (k : Option Nat) (c : Cur) (F : Nat → Prop), gh + i = ops.length ∧ ix = .int .i64 i ∧ av = .int .i64 (atI k) ∧ Hold w wr x b S root have_ (.slice ah have_.length ch) c F k)
      case atStart => exact ⟨0, none, _, _, by omega, rfl, rfl, HHOLD.out⟩
      case round =>
        obtain ⟨i, k, c, F, hgi, rfl, rfl, hH⟩ := hrel
        have HH := Lib.hid hH
        clear hH HHOLD
        by_cases hi : i < ops.length
        · have hi2 : (i : Int) < (ops.length : Int) := by omega
          obtain ⟨⟨kd, s⟩, ho⟩ : ∃ o, ops[i]? = some o := ⟨_, List.getElem?_eq_getElem hi⟩
          obtain ⟨g2, off2, rfl, m0, m1⟩ := row_mv (row_only HR.out.2.2 HH.out.only (fun _ _ => id)) ho
          have hw1 : IntKind.i64.wrap ((i : Int) + 1) = (i : Int) + 1 := by exact IntWalk.i64_in _ (by omega)
          have hol := hshort2 _ (List.mem_of_getElem? ho)
          simp only at m0 m1 hol
          clear ho
          have HH1 := Lib.hid (HH.out.still ((Only.refl (fun _ => False) wr).alloc (.cells #[.int .i64 kd, str s] 32)))
          have HFR := Lib.hid (HH.out.fresh (.cells #[.int .i64 kd, str s] 32))
          have HNB := Lib.hid (heap_alloc_new wr (.cells #[.int .i64 kd, str s] 32))
          have hsz1 : (wr.alloc (.cells #[.int .i64 kd, str s] 32)).heap.size = wr.heap.size + 1 := by simp
          by_cases hos : s.length ≤ 60
          · have hos2 : ¬ (s.length : Int) > 60 := by omega
            by_cases h1 : kd = 1
            · subst h1
              as_aux_lemma =>
                by_cases hl : 0 < have_.length
                · have hke : fstOf have_ = some 0 := by unfold fstOf; rw [if_pos hl]
                  have hcl := hold_first HG.out HH1.out
                  rw [hke] at hcl
                  have HCL := Lib.hid hcl
                  clear hcl
                  unfold HGoes at HCL
                  go_wp2_with fail
                  refine HCL.out.mono ?_
                  rintro e w5 ⟨rfl, c5, F5, hH5, st5⟩
                  have H5 := Lib.hid hH5
                  clear hH5 HCL st5
                  have hne : ¬ have_ = [] := fun q => by rw [q] at hl; simp at hl

                  obtain ⟨y, hy⟩ : ∃ y, have_[0]? = some y := ⟨_, List.getElem?_eq_getElem (by omega)⟩
                  have hge : ¬ (have_.length : Int) ≤ (0 : Int) := by omega
                  have hz0 : (0 : Int) ≤ (0 : Int) := by omega
                  have hit := hold_item H5.out
                  rw [itemAt_some hy] at hit
                  have HIT := Lib.hid hit
                  clear hit
                  unfold str at HIT
                  go_wp2_with fail
                  refine HIT.out.mono ?_
                  rintro e w6 ⟨rfl, H6⟩
                  have H7 := Lib.hid (H6.still ((Only.refl (fun _ => False) w6).alloc (.cells #[str y.key, str y.val, .int .i64 y.kind] 35)))
                  obtain ⟨gh_, offh, rfl, y0, y1, y2⟩ := row_item H7.out.row.row hy
                  simp only [Nat.zero_mul, Nat.add_zero] at y0 y1 y2
                  have hn6 := heap_alloc_new w6 (.cells #[str y.key, str y.val, .int .i64 y.kind] 35)
                  have q0 : ∀ p : Grew (w6.alloc (.cells #[str y.key, str y.val, .int .i64 y.kind] 35)), p.u.cell? ⟨w6.heap.size, 0, none⟩ = some (str y.key) := fun p => p.cell (by rw [heap_cell hn6]; rfl)
                  have q1 : ∀ p : Grew (w6.alloc (.cells #[str y.key, str y.val, .int .i64 y.kind] 35)), p.u.cell? ⟨w6.heap.size, 1, none⟩ = some (str y.val) := fun p => p.cell (by rw [heap_cell hn6]; rfl)
                  have q2 : ∀ p : Grew (w6.alloc (.cells #[str y.key, str y.val, .int .i64 y.kind] 35)), p.u.cell? ⟨w6.heap.size, 2, none⟩ = some (.int .i64 y.kind) := fun p => p.cell (by rw [heap_cell hn6]; rfl)
                  have r0 : ∀ p : Grew (w6.alloc (.cells #[str y.key, str y.val, .int .i64 y.kind] 35)), p.u.cell? ⟨gh_, offh, none⟩ = some (str y.key) := fun p => p.cell y0
                  have r1 : ∀ p : Grew (w6.alloc (.cells #[str y.key, str y.val, .int .i64 y.kind] 35)), p.u.cell? ⟨gh_, offh + 1, none⟩ = some (str y.val) := fun p => p.cell y1
                  have r2 : ∀ p : Grew (w6.alloc (.cells #[str y.key, str y.val, .int .i64 y.kind] 35)), p.u.cell? ⟨gh_, offh + 2, none⟩ = some (.int .i64 y.kind) := fun p => p.cell y2
                  have HV : Hid (∀ p : Grew (w6.alloc (.cells #[str y.key, str y.val, .int .i64 y.kind] 35)), Calls Try.prog 18 #[.pointer (some ⟨x, 0, none⟩)] p.u fun e w' => e = .returned (.int .i64 0) ∧ Only (fun _ => False) p.u w') := Lib.hid (fun p => (hold_err (H7.out.still p.h)).mono fun e w' ⟨h1, h2⟩ => ⟨h1, h2 ▸ Only.refl _ _⟩)
                  have hns := neq_same y.key y.val y.kind
                  clear y0 y1 y2 hn6 H6 HIT H5 hy
                  go_wp2_with fail

                  refine wp_region_grew (by kernel_rfl) (by kernel_rfl) (fun _W h0 h1 => ?_)
                  repeat (refine h1 _ _ _ (fun K hK => ?_); go_simp; first | (refine hK _ ?_; clear hK K) | (apply Exists.intro; refine ⟨fun _ => ?_, hK _ ?_⟩; (refine Grew.calls _ (HV.out _)); clear hK K))
                  refine h0 _ (fun p => ?_)
                  clear h0 h1
                  go_wp2_with fail
                  go_roundg (ops.length - (i + 1))
                  case measure => omega
                  case rel => exact ⟨i + 1, some (0), _, _, by omega, by go_num, rfl, H7.out.still p.h⟩
                · have hke : fstOf have_ = none := by unfold fstOf; rw [if_neg hl]
                  have hcl := hold_first HG.out HH1.out
                  rw [hke] at hcl
                  have HCL := Lib.hid hcl
                  clear hcl
                  unfold HGoes at HCL
                  go_wp2_with fail
                  refine HCL.out.mono ?_
                  rintro e w5 ⟨rfl, c5, F5, hH5, st5⟩
                  have H5 := Lib.hid hH5
                  clear hH5 HCL st5

                  have hit := hold_item H5.out
                  have e0 : itemAt have_ none = .agg #[.string ⟨#[]⟩, .string ⟨#[]⟩, .int .i64 0] := rfl
                  rw [e0] at hit
                  have HIT := Lib.hid hit
                  clear hit e0
                  have hl0 : Hid (have_ = []) := Lib.hid (List.eq_nil_of_length_eq_zero (by omega))
                  clear hl hke
                  go_wp2_with fail
                  all_goals first | exact absurd hl0.out (by assumption) | skip
                  rename_i hq _ _ _ _
                  clear hq
                  refine HIT.out.mono ?_
                  rintro e w6 ⟨rfl, H6⟩
                  have H7 := Lib.hid (H6.still ((Only.refl (fun _ => False) w6).alloc (.cells #[.string ⟨#[]⟩, .string ⟨#[]⟩, .int .i64 0] 35)))
                  have hn6 := heap_alloc_new w6 (.cells #[.string ⟨#[]⟩, .string ⟨#[]⟩, .int .i64 0] 35)
                  have q0 : ∀ p : Grew (w6.alloc (.cells #[.string ⟨#[]⟩, .string ⟨#[]⟩, .int .i64 0] 35)), p.u.cell? ⟨w6.heap.size, 0, none⟩ = some (.string ⟨#[]⟩) := fun p => p.cell (by rw [heap_cell hn6]; rfl)
                  have q1 : ∀ p : Grew (w6.alloc (.cells #[.string ⟨#[]⟩, .string ⟨#[]⟩, .int .i64 0] 35)), p.u.cell? ⟨w6.heap.size, 1, none⟩ = some (.string ⟨#[]⟩) := fun p => p.cell (by rw [heap_cell hn6]; rfl)
                  have q2 : ∀ p : Grew (w6.alloc (.cells #[.string ⟨#[]⟩, .string ⟨#[]⟩, .int .i64 0] 35)), p.u.cell? ⟨w6.heap.size, 2, none⟩ = some (.int .i64 0) := fun p => p.cell (by rw [heap_cell hn6]; rfl)
                  have HV : Hid (∀ p : Grew (w6.alloc (.cells #[.string ⟨#[]⟩, .string ⟨#[]⟩, .int .i64 0] 35)), Calls Try.prog 18 #[.pointer (some ⟨x, 0, none⟩)] p.u fun e w' => e = .returned (.int .i64 0) ∧ Only (fun _ => False) p.u w') := Lib.hid (fun p => (hold_err (H7.out.still p.h)).mono fun e w' ⟨h1, h2⟩ => ⟨h1, h2 ▸ Only.refl _ _⟩)
                  have hns := neq_same [] [] 0
                  clear hn6 H6 HIT H5
                  go_wp2_with fail

                  refine wp_region_grew (by kernel_rfl) (by kernel_rfl) (fun _W h0 h1 => ?_)
                  repeat (refine h1 _ _ _ (fun K hK => ?_); go_simp; first | (refine hK _ ?_; clear hK K) | (apply Exists.intro; refine ⟨fun _ => ?_, hK _ ?_⟩; (refine Grew.calls _ (HV.out _)); clear hK K))
                  refine h0 _ (fun p => ?_)
                  clear h0 h1
                  go_wp2_with fail
                  go_roundg (ops.length - (i + 1))
                  case measure => omega
                  case rel => exact ⟨i + 1, none, _, _, by omega, by go_num, rfl, H7.out.still p.h⟩
            · by_cases h2 : kd = 2
              · subst h2
                as_aux_lemma =>
                  by_cases hl : 0 < have_.length
                  · obtain ⟨m, hm⟩ : ∃ m, have_.length = m + 1 := ⟨have_.length - 1, by omega⟩
                    have hwl : IntKind.i64.wrap ((have_.length : Int) - 1) = (m : Int) := by rw [IntWalk.i64_in _ (by omega)]; omega
                    have hke : lstOf have_ = some m := by unfold lstOf; rw [if_pos hl, hm]; rfl
                    have HM := Lib.hid hm
                    have hge : ¬ (have_.length : Int) ≤ (m : Int) := by omega
                    clear hm hl
                    have hcl := hold_last HG.out HH1.out
                    rw [hke] at hcl
                    have HCL := Lib.hid hcl
                    clear hcl
                    unfold HGoes at HCL
                    clear hke
                    go_wp2_with fail
                    refine HCL.out.mono ?_
                    rintro e w5 ⟨rfl, c5, F5, hH5, st5⟩
                    have H5 := Lib.hid hH5
                    clear hH5 HCL st5

                    obtain ⟨y, hy⟩ : ∃ y, have_[m]? = some y := ⟨_, List.getElem?_eq_getElem (by have := HM.out; omega)⟩
                    have hz0 : (0 : Int) ≤ (m : Int) := by omega
                    have hit := hold_item H5.out
                    rw [itemAt_some hy] at hit
                    have HIT := Lib.hid hit
                    clear hit
                    unfold str at HIT
                    go_wp2_with fail
                    refine HIT.out.mono ?_
                    rintro e w6 ⟨rfl, H6⟩
                    have H7 := Lib.hid (H6.still ((Only.refl (fun _ => False) w6).alloc (.cells #[str y.key, str y.val, .int .i64 y.kind] 35)))
                    obtain ⟨gh_, offh, rfl, y0, y1, y2⟩ := row_item H7.out.row.row hy
                    have hn6 := heap_alloc_new w6 (.cells #[str y.key, str y.val, .int .i64 y.kind] 35)
                    have q0 : ∀ p : Grew (w6.alloc (.cells #[str y.key, str y.val, .int .i64 y.kind] 35)), p.u.cell? ⟨w6.heap.size, 0, none⟩ = some (str y.key) := fun p => p.cell (by rw [heap_cell hn6]; rfl)
                    have q1 : ∀ p : Grew (w6.alloc (.cells #[str y.key, str y.val, .int .i64 y.kind] 35)), p.u.cell? ⟨w6.heap.size, 1, none⟩ = some (str y.val) := fun p => p.cell (by rw [heap_cell hn6]; rfl)
                    have q2 : ∀ p : Grew (w6.alloc (.cells #[str y.key, str y.val, .int .i64 y.kind] 35)), p.u.cell? ⟨w6.heap.size, 2, none⟩ = some (.int .i64 y.kind) := fun p => p.cell (by rw [heap_cell hn6]; rfl)
                    have r0 : ∀ p : Grew (w6.alloc (.cells #[str y.key, str y.val, .int .i64 y.kind] 35)), p.u.cell? ⟨gh_, offh + m * 3, none⟩ = some (str y.key) := fun p => p.cell y0
                    have r1 : ∀ p : Grew (w6.alloc (.cells #[str y.key, str y.val, .int .i64 y.kind] 35)), p.u.cell? ⟨gh_, offh + m * 3 + 1, none⟩ = some (str y.val) := fun p => p.cell y1
                    have r2 : ∀ p : Grew (w6.alloc (.cells #[str y.key, str y.val, .int .i64 y.kind] 35)), p.u.cell? ⟨gh_, offh + m * 3 + 2, none⟩ = some (.int .i64 y.kind) := fun p => p.cell y2
                    have HV : Hid (∀ p : Grew (w6.alloc (.cells #[str y.key, str y.val, .int .i64 y.kind] 35)), Calls Try.prog 18 #[.pointer (some ⟨x, 0, none⟩)] p.u fun e w' => e = .returned (.int .i64 0) ∧ Only (fun _ => False) p.u w') := Lib.hid (fun p => (hold_err (H7.out.still p.h)).mono fun e w' ⟨h1, h2⟩ => ⟨h1, h2 ▸ Only.refl _ _⟩)
                    have hns := neq_same y.key y.val y.kind
                    clear y0 y1 y2 hn6 H6 HIT H5 hy
                    go_wp2_with fail

                    refine wp_region_grew (by kernel_rfl) (by kernel_rfl) (fun _W h0 h1 => ?_)
                    repeat (refine h1 _ _ _ (fun K hK => ?_); go_simp; first | (refine hK _ ?_; clear hK K) | (apply Exists.intro; refine ⟨fun _ => ?_, hK _ ?_⟩; (refine Grew.calls _ (HV.out _)); clear hK K))
                    refine h0 _ (fun p => ?_)
                    clear h0 h1
                    go_wp2_with fail
                    go_roundg (ops.length - (i + 1))
                    case measure => omega
                    case rel => exact ⟨i + 1, some (m), _, _, by omega, by go_num, rfl, H7.out.still p.h⟩
                  · have hke : lstOf have_ = none := by unfold lstOf; rw [if_neg hl]
                    have hwl : IntKind.i64.wrap ((have_.length : Int) - 1) = -1 := by rw [IntWalk.i64_in _ (by omega)]; omega
                    have hge : ¬ (have_.length : Int) ≤ -1 := by omega
                    clear hl
                    have hcl := hold_last HG.out HH1.out
                    rw [hke] at hcl
                    have HCL := Lib.hid hcl
                    clear hcl
                    unfold HGoes at HCL
                    go_wp2_with fail
                    refine HCL.out.mono ?_
                    rintro e w5 ⟨rfl, c5, F5, hH5, st5⟩
                    have H5 := Lib.hid hH5
                    clear hH5 HCL st5

                    have hit := hold_item H5.out
                    have e0 : itemAt have_ none = .agg #[.string ⟨#[]⟩, .string ⟨#[]⟩, .int .i64 0] := rfl
                    rw [e0] at hit
                    have HIT := Lib.hid hit
                    clear hit e0
                    clear hke
                    go_wp2_with fail
                    refine HIT.out.mono ?_
                    rintro e w6 ⟨rfl, H6⟩
                    have H7 := Lib.hid (H6.still ((Only.refl (fun _ => False) w6).alloc (.cells #[.string ⟨#[]⟩, .string ⟨#[]⟩, .int .i64 0] 35)))
                    have hn6 := heap_alloc_new w6 (.cells #[.string ⟨#[]⟩, .string ⟨#[]⟩, .int .i64 0] 35)
                    have q0 : ∀ p : Grew (w6.alloc (.cells #[.string ⟨#[]⟩, .string ⟨#[]⟩, .int .i64 0] 35)), p.u.cell? ⟨w6.heap.size, 0, none⟩ = some (.string ⟨#[]⟩) := fun p => p.cell (by rw [heap_cell hn6]; rfl)
                    have q1 : ∀ p : Grew (w6.alloc (.cells #[.string ⟨#[]⟩, .string ⟨#[]⟩, .int .i64 0] 35)), p.u.cell? ⟨w6.heap.size, 1, none⟩ = some (.string ⟨#[]⟩) := fun p => p.cell (by rw [heap_cell hn6]; rfl)
                    have q2 : ∀ p : Grew (w6.alloc (.cells #[.string ⟨#[]⟩, .string ⟨#[]⟩, .int .i64 0] 35)), p.u.cell? ⟨w6.heap.size, 2, none⟩ = some (.int .i64 0) := fun p => p.cell (by rw [heap_cell hn6]; rfl)
                    have HV : Hid (∀ p : Grew (w6.alloc (.cells #[.string ⟨#[]⟩, .string ⟨#[]⟩, .int .i64 0] 35)), Calls Try.prog 18 #[.pointer (some ⟨x, 0, none⟩)] p.u fun e w' => e = .returned (.int .i64 0) ∧ Only (fun _ => False) p.u w') := Lib.hid (fun p => (hold_err (H7.out.still p.h)).mono fun e w' ⟨h1, h2⟩ => ⟨h1, h2 ▸ Only.refl _ _⟩)
                    have hns := neq_same [] [] 0
                    clear hn6 H6 HIT H5
                    go_wp2_with fail

                    refine wp_region_grew (by kernel_rfl) (by kernel_rfl) (fun _W h0 h1 => ?_)
                    repeat (refine h1 _ _ _ (fun K hK => ?_); go_simp; first | (refine hK _ ?_; clear hK K) | (apply Exists.intro; refine ⟨fun _ => ?_, hK _ ?_⟩; (refine Grew.calls _ (HV.out _)); clear hK K))
                    refine h0 _ (fun p => ?_)
                    clear h0 h1
                    go_wp2_with fail
                    go_roundg (ops.length - (i + 1))
                    case measure => omega
                    case rel => exact ⟨i + 1, none, _, _, by omega, by go_num, rfl, H7.out.still p.h⟩
              · by_cases h3 : kd = 3
                · subst h3
                  as_aux_lemma =>
                    by_cases hl : findAt have_ s < have_.length
                    · have hke : skOf have_ s = some (findAt have_ s) := by unfold skOf; rw [if_pos hl]
                      have hcl := hold_seek HG.out HH1.out s
                      rw [hke] at hcl
                      have HCL := Lib.hid hcl
                      clear hcl
                      unfold HGoes at HCL
                      go_wp2_with fail
                      refine HCL.out.mono ?_
                      rintro e w5 ⟨rfl, c5, F5, hH5, st5⟩
                      have H5 := Lib.hid hH5
                      clear hH5 HCL
                      have hS5 : w5.cell? ⟨wr.heap.size, 1, none⟩ = some (str s) := by
                        have := st5.only.block wr.heap.size (by omega) (fun q => q.elim HFR.out.1 HFR.out.2)
                        rw [heap_cell (this.trans HNB.out)]
                        rfl
                      have HS5 := Lib.hid hS5
                      clear hS5 st5 HNB HFR m0 m1
                      generalize hwo : wr.heap.size = B at *
                      clear hwo
                      generalize wr = wo at *
                      have hfl := findAt_le have_ s
                      go_wp2_with fail
                      go_loopg [9] (findAt have_ s) (fun gh av wi => ∃ j : Nat, gh + j = findAt have_ s ∧ av = .int .i64 j ∧ Only (fun _ => False) w5 wi)
                      case atStart => exact ⟨0, by omega, rfl, Only.refl _ _⟩
                      case round =>
                        obtain ⟨j, hgj, rfl, hoi⟩ := hrel
                        have HOI := Lib.hid hoi
                        clear hoi
                        have hS := (HOI.out.cell (p := ⟨B, 1, none⟩) (lt_of_cell HS5.out) id).trans HS5.out
                        have q9 : ∀ p : Grew wr, p.u.cell? ⟨B, 1, none⟩ = some (str s) := fun p => p.cell hS
                        clear hS
                        have hj0 : (0 : Int) ≤ (j : Int) := by omega
                        by_cases hjf : j < findAt have_ s
                        · have hjl : j < have_.length := by omega
                          have hjl2 : (j : Int) < (have_.length : Int) := by omega
                          obtain ⟨y, hy⟩ : ∃ y, have_[j]? = some y := ⟨_, List.getElem?_eq_getElem hjl⟩
                          obtain ⟨gO, offO, rfl, y0, _, _⟩ := row_item (H5.out.still HOI.out).row.row hy
                          have q8 : ∀ p : Grew wr, p.u.cell? ⟨gO, offO + j * 3, none⟩ = some (str y.key) := fun p => p.cell y0
                          have hb : Op.bytesLess y.key s = decide (y.key < s) := bytesLess_eq y.key s
                          rw [decide_eq_true (show y.key < s from (lt_findAt HRIS.out s j y hy).1 hjf)] at hb
                          have hw8 : IntKind.i64.wrap ((j : Int) + 1) = (j : Int) + 1 := by exact IntWalk.i64_in _ (by omega)
                          clear y0 hy
                          go_wp2_with fail
                          refine wp_region_grew (by kernel_rfl) (by kernel_rfl) (fun _W h0 h1 => ?_)
                          repeat (refine h1 _ _ _ (fun K hK => ?_); go_simp; refine hK _ ?_; clear hK K)
                          refine h0 _ (fun p => ?_)
                          clear h0 h1
                          go_wp2_with fail
                          go_roundg (gk - 1)
                          case measure => omega
                          case rel => exact ⟨j + 1, by omega, by go_num, HOI.out.trans p.h (fun _ _ q => q)⟩
                        · have hje : j = findAt have_ s := by omega
                          have hjl : j < have_.length := by omega
                          have hjl2 : (j : Int) < (have_.length : Int) := by omega
                          have H5 := Lib.hid (hje ▸ H5.out.still HOI.out)
                          obtain ⟨y, hy⟩ : ∃ y, have_[j]? = some y := ⟨_, List.getElem?_eq_getElem hjl⟩
                          obtain ⟨gO, offO, rfl, y0, _, _⟩ := row_item H5.out.row.row hy
                          have q8 : ∀ p : Grew wr, p.u.cell? ⟨gO, offO + j * 3, none⟩ = some (str y.key) := fun p => p.cell y0
                          have hb : Op.bytesLess y.key s = decide (y.key < s) := bytesLess_eq y.key s
                          rw [decide_eq_false (fun q : y.key < s => hjf ((lt_findAt HRIS.out s j y hy).2 q))] at hb
                          clear y0 hy hje hjf hl hke
                          go_wp2_with fail
                          refine wp_region_grew (by kernel_rfl) (by kernel_rfl) (fun _W h0 h1 => ?_)
                          repeat (refine h1 _ _ _ (fun K hK => ?_); go_simp; refine hK _ ?_; clear hK K)
                          refine h0 _ (fun p => ?_)
                          clear h0 h1 q8 q9 hb
                          have hh := H5.out.still p.h
                          revert hh
                          generalize p.u = w3'
                          intro hh
                          have H5 := Lib.hid hh
                          clear hh p
                          obtain ⟨y, hy⟩ : ∃ y, have_[j]? = some y := ⟨_, List.getElem?_eq_getElem (by omega)⟩
                          have hge : ¬ (have_.length : Int) ≤ (j : Int) := by omega
                          have hz0 : (0 : Int) ≤ (j : Int) := by omega
                          have hit := hold_item H5.out
                          rw [itemAt_some hy] at hit
                          have HIT := Lib.hid hit
                          clear hit
                          unfold str at HIT
                          go_wp2_with fail
                          refine HIT.out.mono ?_
                          rintro e w6 ⟨rfl, H6⟩
                          have H7 := Lib.hid (H6.still ((Only.refl (fun _ => False) w6).alloc (.cells #[str y.key, str y.val, .int .i64 y.kind] 35)))
                          obtain ⟨_, _, he, y0, y1, y2⟩ := row_item H7.out.row.row hy
                          cases he
                          have hn6 := heap_alloc_new w6 (.cells #[str y.key, str y.val, .int .i64 y.kind] 35)
                          have q0 : ∀ p : Grew (w6.alloc (.cells #[str y.key, str y.val, .int .i64 y.kind] 35)), p.u.cell? ⟨w6.heap.size, 0, none⟩ = some (str y.key) := fun p => p.cell (by rw [heap_cell hn6]; rfl)
                          have q1 : ∀ p : Grew (w6.alloc (.cells #[str y.key, str y.val, .int .i64 y.kind] 35)), p.u.cell? ⟨w6.heap.size, 1, none⟩ = some (str y.val) := fun p => p.cell (by rw [heap_cell hn6]; rfl)
                          have q2 : ∀ p : Grew (w6.alloc (.cells #[str y.key, str y.val, .int .i64 y.kind] 35)), p.u.cell? ⟨w6.heap.size, 2, none⟩ = some (.int .i64 y.kind) := fun p => p.cell (by rw [heap_cell hn6]; rfl)
                          have r0 : ∀ p : Grew (w6.alloc (.cells #[str y.key, str y.val, .int .i64 y.kind] 35)), p.u.cell? ⟨gO, offO + j * 3, none⟩ = some (str y.key) := fun p => p.cell y0
                          have r1 : ∀ p : Grew (w6.alloc (.cells #[str y.key, str y.val, .int .i64 y.kind] 35)), p.u.cell? ⟨gO, offO + j * 3 + 1, none⟩ = some (str y.val) := fun p => p.cell y1
                          have r2 : ∀ p : Grew (w6.alloc (.cells #[str y.key, str y.val, .int .i64 y.kind] 35)), p.u.cell? ⟨gO, offO + j * 3 + 2, none⟩ = some (.int .i64 y.kind) := fun p => p.cell y2
                          have HV : Hid (∀ p : Grew (w6.alloc (.cells #[str y.key, str y.val, .int .i64 y.kind] 35)), Calls Try.prog 18 #[.pointer (some ⟨x, 0, none⟩)] p.u fun e w' => e = .returned (.int .i64 0) ∧ Only (fun _ => False) p.u w') := Lib.hid (fun p => (hold_err (H7.out.still p.h)).mono fun e w' ⟨h1, h2⟩ => ⟨h1, h2 ▸ Only.refl _ _⟩)
                          have hns := neq_same y.key y.val y.kind
                          clear y0 y1 y2 hn6 H6 HIT H5 hy
                          go_wp2_with fail

                          refine wp_region_grew (by kernel_rfl) (by kernel_rfl) (fun _W h0 h1 => ?_)
                          repeat (refine h1 _ _ _ (fun K hK => ?_); go_simp; first | (refine hK _ ?_; clear hK K) | (apply Exists.intro; refine ⟨fun _ => ?_, hK _ ?_⟩; (refine Grew.calls _ (HV.out _)); clear hK K))
                          refine h0 _ (fun p => ?_)
                          clear h0 h1
                          go_wp2_with fail
                          go_roundg (ops.length - (i + 1))
                          case measure => omega
                          case rel => exact ⟨i + 1, some (j), _, _, by omega, by go_num, rfl, H7.out.still p.h⟩
                    · have hke : skOf have_ s = none := by unfold skOf; rw [if_neg hl]
                      have hcl := hold_seek HG.out HH1.out s
                      rw [hke] at hcl
                      have HCL := Lib.hid hcl
                      clear hcl
                      unfold HGoes at HCL
                      go_wp2_with fail
                      refine HCL.out.mono ?_
                      rintro e w5 ⟨rfl, c5, F5, hH5, st5⟩
                      have H5 := Lib.hid hH5
                      clear hH5 HCL
                      have hS5 : w5.cell? ⟨wr.heap.size, 1, none⟩ = some (str s) := by
                        have := st5.only.block wr.heap.size (by omega) (fun q => q.elim HFR.out.1 HFR.out.2)
                        rw [heap_cell (this.trans HNB.out)]
                        rfl
                      have HS5 := Lib.hid hS5
                      clear hS5 st5 HNB HFR m0 m1
                      generalize hwo : wr.heap.size = B at *
                      clear hwo
                      generalize wr = wo at *
                      have hfl := findAt_le have_ s
                      go_wp2_with fail
                      go_loopg [9] (findAt have_ s) (fun gh av wi => ∃ j : Nat, gh + j = findAt have_ s ∧ av = .int .i64 j ∧ Only (fun _ => False) w5 wi)
                      case atStart => exact ⟨0, by omega, rfl, Only.refl _ _⟩
                      case round =>
                        obtain ⟨j, hgj, rfl, hoi⟩ := hrel
                        have HOI := Lib.hid hoi
                        clear hoi
                        have hS := (HOI.out.cell (p := ⟨B, 1, none⟩) (lt_of_cell HS5.out) id).trans HS5.out
                        have q9 : ∀ p : Grew wr, p.u.cell? ⟨B, 1, none⟩ = some (str s) := fun p => p.cell hS
                        clear hS
                        have hj0 : (0 : Int) ≤ (j : Int) := by omega
                        by_cases hjf : j < findAt have_ s
                        · have hjl : j < have_.length := by omega
                          have hjl2 : (j : Int) < (have_.length : Int) := by omega
                          obtain ⟨y, hy⟩ : ∃ y, have_[j]? = some y := ⟨_, List.getElem?_eq_getElem hjl⟩
                          obtain ⟨gO, offO, rfl, y0, _, _⟩ := row_item (H5.out.still HOI.out).row.row hy
                          have q8 : ∀ p : Grew wr, p.u.cell? ⟨gO, offO + j * 3, none⟩ = some (str y.key) := fun p => p.cell y0
                          have hb : Op.bytesLess y.key s = decide (y.key < s) := bytesLess_eq y.key s
                          rw [decide_eq_true (show y.key < s from (lt_findAt HRIS.out s j y hy).1 hjf)] at hb
                          have hw8 : IntKind.i64.wrap ((j : Int) + 1) = (j : Int) + 1 := by exact IntWalk.i64_in _ (by omega)
                          clear y0 hy
                          go_wp2_with fail
                          refine wp_region_grew (by kernel_rfl) (by kernel_rfl) (fun _W h0 h1 => ?_)
                          repeat (refine h1 _ _ _ (fun K hK => ?_); go_simp; refine hK _ ?_; clear hK K)
                          refine h0 _ (fun p => ?_)
                          clear h0 h1
                          go_wp2_with fail
                          go_roundg (gk - 1)
                          case measure => omega
                          case rel => exact ⟨j + 1, by omega, by go_num, HOI.out.trans p.h (fun _ _ q => q)⟩
                        · have hje : j = findAt have_ s := by omega
                          have hjl2 : ¬ (j : Int) < (have_.length : Int) := by omega
                          have hjl : ¬ j < have_.length := by omega
                          have H5 := Lib.hid (H5.out.still HOI.out)
                          have HGE : Hid ((have_.length : Int) ≤ (j : Int)) := Lib.hid (by omega)
                          clear hje hjf hl hke
                          go_wp2_with fail
                          refine wp_region_grew (by kernel_rfl) (by kernel_rfl) (fun _W h0 h1 => ?_)
                          repeat (refine h1 _ _ _ (fun K hK => ?_); go_simp; refine hK _ ?_; clear hK K)
                          refine h0 _ (fun p => ?_)
                          clear h0 h1 q9
                          have hh := H5.out.still p.h
                          revert hh
                          generalize p.u = w3'
                          intro hh
                          have H5 := Lib.hid hh
                          clear hh p
                          have hit := hold_item H5.out
                          have e0 : itemAt have_ none = .agg #[.string ⟨#[]⟩, .string ⟨#[]⟩, .int .i64 0] := rfl
                          rw [e0] at hit
                          have HIT := Lib.hid hit
                          clear hit e0
                          have hge := HGE.out
                          clear hjl2 hjl
                          go_wp2_with fail
                          refine HIT.out.mono ?_
                          rintro e w6 ⟨rfl, H6⟩
                          have H7 := Lib.hid (H6.still ((Only.refl (fun _ => False) w6).alloc (.cells #[.string ⟨#[]⟩, .string ⟨#[]⟩, .int .i64 0] 35)))
                          have hn6 := heap_alloc_new w6 (.cells #[.string ⟨#[]⟩, .string ⟨#[]⟩, .int .i64 0] 35)
                          have q0 : ∀ p : Grew (w6.alloc (.cells #[.string ⟨#[]⟩, .string ⟨#[]⟩, .int .i64 0] 35)), p.u.cell? ⟨w6.heap.size, 0, none⟩ = some (.string ⟨#[]⟩) := fun p => p.cell (by rw [heap_cell hn6]; rfl)
                          have q1 : ∀ p : Grew (w6.alloc (.cells #[.string ⟨#[]⟩, .string ⟨#[]⟩, .int .i64 0] 35)), p.u.cell? ⟨w6.heap.size, 1, none⟩ = some (.string ⟨#[]⟩) := fun p => p.cell (by rw [heap_cell hn6]; rfl)
                          have q2 : ∀ p : Grew (w6.alloc (.cells #[.string ⟨#[]⟩, .string ⟨#[]⟩, .int .i64 0] 35)), p.u.cell? ⟨w6.heap.size, 2, none⟩ = some (.int .i64 0) := fun p => p.cell (by rw [heap_cell hn6]; rfl)
                          have HV : Hid (∀ p : Grew (w6.alloc (.cells #[.string ⟨#[]⟩, .string ⟨#[]⟩, .int .i64 0] 35)), Calls Try.prog 18 #[.pointer (some ⟨x, 0, none⟩)] p.u fun e w' => e = .returned (.int .i64 0) ∧ Only (fun _ => False) p.u w') := Lib.hid (fun p => (hold_err (H7.out.still p.h)).mono fun e w' ⟨h1, h2⟩ => ⟨h1, h2 ▸ Only.refl _ _⟩)
                          have hns := neq_same [] [] 0
                          clear hn6 H6 HIT H5
                          go_wp2_with fail

                          refine wp_region_grew (by kernel_rfl) (by kernel_rfl) (fun _W h0 h1 => ?_)
                          repeat (refine h1 _ _ _ (fun K hK => ?_); go_simp; first | (refine hK _ ?_; clear hK K) | (apply Exists.intro; refine ⟨fun _ => ?_, hK _ ?_⟩; (refine Grew.calls _ (HV.out _)); clear hK K))
                          refine h0 _ (fun p => ?_)
                          clear h0 h1
                          go_wp2_with fail
                          go_roundg (ops.length - (i + 1))
                          case measure => omega
                          case rel => exact ⟨i + 1, none, _, _, by omega, by go_num, rfl, H7.out.still p.h⟩
                · by_cases h4 : kd = 4
                  · subst h4
                    as_aux_lemma =>
                      cases k with
                      | some kk =>
                        have hkl := HH.out.sits.lt
                        have e9 : atI (some kk) = (kk : Int) := rfl
                        have hz9 : (0 : Int) ≤ (kk : Int) := by omega
                        obtain ⟨m, hm⟩ : ∃ m, m = kk + 1 := ⟨_, rfl⟩
                        have hw9 : IntKind.i64.wrap ((kk : Int) + 1) = (m : Int) := by rw [IntWalk.i64_in _ (by omega)]; omega
                        by_cases hl : m < have_.length
                        · have hke : nxtOf have_ (some kk) = some m := by unfold nxtOf; simp only; rw [← hm, if_pos hl]
                          clear hm
                          have hcl := hold_next HG.out HH1.out
                          rw [hke] at hcl
                          have HCL := Lib.hid hcl
                          clear hcl
                          unfold HGoes at HCL
                          go_wp2_with fail
                          refine HCL.out.mono ?_
                          rintro e w5 ⟨rfl, c5, F5, hH5, st5⟩
                          have H5 := Lib.hid hH5
                          clear hH5 HCL st5

                          obtain ⟨y, hy⟩ : ∃ y, have_[m]? = some y := ⟨_, List.getElem?_eq_getElem (by omega)⟩
                          have hge : ¬ (have_.length : Int) ≤ (m : Int) := by omega
                          have hz0 : (0 : Int) ≤ (m : Int) := by omega
                          have hit := hold_item H5.out
                          rw [itemAt_some hy] at hit
                          have HIT := Lib.hid hit
                          clear hit
                          unfold str at HIT
                          go_wp2_with fail
                          refine HIT.out.mono ?_
                          rintro e w6 ⟨rfl, H6⟩
                          have H7 := Lib.hid (H6.still ((Only.refl (fun _ => False) w6).alloc (.cells #[str y.key, str y.val, .int .i64 y.kind] 35)))
                          obtain ⟨gh_, offh, rfl, y0, y1, y2⟩ := row_item H7.out.row.row hy
                          have hn6 := heap_alloc_new w6 (.cells #[str y.key, str y.val, .int .i64 y.kind] 35)
                          have q0 : ∀ p : Grew (w6.alloc (.cells #[str y.key, str y.val, .int .i64 y.kind] 35)), p.u.cell? ⟨w6.heap.size, 0, none⟩ = some (str y.key) := fun p => p.cell (by rw [heap_cell hn6]; rfl)
                          have q1 : ∀ p : Grew (w6.alloc (.cells #[str y.key, str y.val, .int .i64 y.kind] 35)), p.u.cell? ⟨w6.heap.size, 1, none⟩ = some (str y.val) := fun p => p.cell (by rw [heap_cell hn6]; rfl)
                          have q2 : ∀ p : Grew (w6.alloc (.cells #[str y.key, str y.val, .int .i64 y.kind] 35)), p.u.cell? ⟨w6.heap.size, 2, none⟩ = some (.int .i64 y.kind) := fun p => p.cell (by rw [heap_cell hn6]; rfl)
                          have r0 : ∀ p : Grew (w6.alloc (.cells #[str y.key, str y.val, .int .i64 y.kind] 35)), p.u.cell? ⟨gh_, offh + m * 3, none⟩ = some (str y.key) := fun p => p.cell y0
                          have r1 : ∀ p : Grew (w6.alloc (.cells #[str y.key, str y.val, .int .i64 y.kind] 35)), p.u.cell? ⟨gh_, offh + m * 3 + 1, none⟩ = some (str y.val) := fun p => p.cell y1
                          have r2 : ∀ p : Grew (w6.alloc (.cells #[str y.key, str y.val, .int .i64 y.kind] 35)), p.u.cell? ⟨gh_, offh + m * 3 + 2, none⟩ = some (.int .i64 y.kind) := fun p => p.cell y2
                          have HV : Hid (∀ p : Grew (w6.alloc (.cells #[str y.key, str y.val, .int .i64 y.kind] 35)), Calls Try.prog 18 #[.pointer (some ⟨x, 0, none⟩)] p.u fun e w' => e = .returned (.int .i64 0) ∧ Only (fun _ => False) p.u w') := Lib.hid (fun p => (hold_err (H7.out.still p.h)).mono fun e w' ⟨h1, h2⟩ => ⟨h1, h2 ▸ Only.refl _ _⟩)
                          have hns := neq_same y.key y.val y.kind
                          clear y0 y1 y2 hn6 H6 HIT H5 hy
                          go_wp2_with fail

                          refine wp_region_grew (by kernel_rfl) (by kernel_rfl) (fun _W h0 h1 => ?_)
                          repeat (refine h1 _ _ _ (fun K hK => ?_); go_simp; first | (refine hK _ ?_; clear hK K) | (apply Exists.intro; refine ⟨fun _ => ?_, hK _ ?_⟩; (refine Grew.calls _ (HV.out _)); clear hK K))
                          refine h0 _ (fun p => ?_)
                          clear h0 h1
                          go_wp2_with fail
                          go_roundg (ops.length - (i + 1))
                          case measure => omega
                          case rel => exact ⟨i + 1, some (m), _, _, by omega, by go_num, rfl, H7.out.still p.h⟩
                        · have hke : nxtOf have_ (some kk) = none := by unfold nxtOf; simp only; rw [← hm, if_neg hl]
                          clear hm
                          have hcl := hold_next HG.out HH1.out
                          rw [hke] at hcl
                          have HCL := Lib.hid hcl
                          clear hcl
                          unfold HGoes at HCL
                          go_wp2_with fail
                          refine HCL.out.mono ?_
                          rintro e w5 ⟨rfl, c5, F5, hH5, st5⟩
                          have H5 := Lib.hid hH5
                          clear hH5 HCL st5

                          have hit := hold_item H5.out
                          have e0 : itemAt have_ none = .agg #[.string ⟨#[]⟩, .string ⟨#[]⟩, .int .i64 0] := rfl
                          rw [e0] at hit
                          have HIT := Lib.hid hit
                          clear hit e0
                          have hge : (have_.length : Int) ≤ (m : Int) := by omega
                          go_wp2_with fail
                          refine HIT.out.mono ?_
                          rintro e w6 ⟨rfl, H6⟩
                          have H7 := Lib.hid (H6.still ((Only.refl (fun _ => False) w6).alloc (.cells #[.string ⟨#[]⟩, .string ⟨#[]⟩, .int .i64 0] 35)))
                          have hn6 := heap_alloc_new w6 (.cells #[.string ⟨#[]⟩, .string ⟨#[]⟩, .int .i64 0] 35)
                          have q0 : ∀ p : Grew (w6.alloc (.cells #[.string ⟨#[]⟩, .string ⟨#[]⟩, .int .i64 0] 35)), p.u.cell? ⟨w6.heap.size, 0, none⟩ = some (.string ⟨#[]⟩) := fun p => p.cell (by rw [heap_cell hn6]; rfl)
                          have q1 : ∀ p : Grew (w6.alloc (.cells #[.string ⟨#[]⟩, .string ⟨#[]⟩, .int .i64 0] 35)), p.u.cell? ⟨w6.heap.size, 1, none⟩ = some (.string ⟨#[]⟩) := fun p => p.cell (by rw [heap_cell hn6]; rfl)
                          have q2 : ∀ p : Grew (w6.alloc (.cells #[.string ⟨#[]⟩, .string ⟨#[]⟩, .int .i64 0] 35)), p.u.cell? ⟨w6.heap.size, 2, none⟩ = some (.int .i64 0) := fun p => p.cell (by rw [heap_cell hn6]; rfl)
                          have HV : Hid (∀ p : Grew (w6.alloc (.cells #[.string ⟨#[]⟩, .string ⟨#[]⟩, .int .i64 0] 35)), Calls Try.prog 18 #[.pointer (some ⟨x, 0, none⟩)] p.u fun e w' => e = .returned (.int .i64 0) ∧ Only (fun _ => False) p.u w') := Lib.hid (fun p => (hold_err (H7.out.still p.h)).mono fun e w' ⟨h1, h2⟩ => ⟨h1, h2 ▸ Only.refl _ _⟩)
                          have hns := neq_same [] [] 0
                          clear hn6 H6 HIT H5
                          go_wp2_with fail

                          refine wp_region_grew (by kernel_rfl) (by kernel_rfl) (fun _W h0 h1 => ?_)
                          repeat (refine h1 _ _ _ (fun K hK => ?_); go_simp; first | (refine hK _ ?_; clear hK K) | (apply Exists.intro; refine ⟨fun _ => ?_, hK _ ?_⟩; (refine Grew.calls _ (HV.out _)); clear hK K))
                          refine h0 _ (fun p => ?_)
                          clear h0 h1
                          go_wp2_with fail
                          go_roundg (ops.length - (i + 1))
                          case measure => omega
                          case rel => exact ⟨i + 1, none, _, _, by omega, by go_num, rfl, H7.out.still p.h⟩
                      | none =>
                        have e9 : atI none = -1 := rfl
                        have hke : nxtOf have_ none = none := rfl
                        have hcl := hold_next HG.out HH1.out
                        rw [hke] at hcl
                        have HCL := Lib.hid hcl
                        clear hcl
                        unfold HGoes at HCL
                        go_wp2_with fail
                        refine HCL.out.mono ?_
                        rintro e w5 ⟨rfl, c5, F5, hH5, st5⟩
                        have H5 := Lib.hid hH5
                        clear hH5 HCL st5

                        have hit := hold_item H5.out
                        have e0 : itemAt have_ none = .agg #[.string ⟨#[]⟩, .string ⟨#[]⟩, .int .i64 0] := rfl
                        rw [e0] at hit
                        have HIT := Lib.hid hit
                        clear hit e0
                        have hge : ¬ (have_.length : Int) ≤ -1 := by omega
                        go_wp2_with fail
                        refine HIT.out.mono ?_
                        rintro e w6 ⟨rfl, H6⟩
                        have H7 := Lib.hid (H6.still ((Only.refl (fun _ => False) w6).alloc (.cells #[.string ⟨#[]⟩, .string ⟨#[]⟩, .int .i64 0] 35)))
                        have hn6 := heap_alloc_new w6 (.cells #[.string ⟨#[]⟩, .string ⟨#[]⟩, .int .i64 0] 35)
                        have q0 : ∀ p : Grew (w6.alloc (.cells #[.string ⟨#[]⟩, .string ⟨#[]⟩, .int .i64 0] 35)), p.u.cell? ⟨w6.heap.size, 0, none⟩ = some (.string ⟨#[]⟩) := fun p => p.cell (by rw [heap_cell hn6]; rfl)
                        have q1 : ∀ p : Grew (w6.alloc (.cells #[.string ⟨#[]⟩, .string ⟨#[]⟩, .int .i64 0] 35)), p.u.cell? ⟨w6.heap.size, 1, none⟩ = some (.string ⟨#[]⟩) := fun p => p.cell (by rw [heap_cell hn6]; rfl)
                        have q2 : ∀ p : Grew (w6.alloc (.cells #[.string ⟨#[]⟩, .string ⟨#[]⟩, .int .i64 0] 35)), p.u.cell? ⟨w6.heap.size, 2, none⟩ = some (.int .i64 0) := fun p => p.cell (by rw [heap_cell hn6]; rfl)
                        have HV : Hid (∀ p : Grew (w6.alloc (.cells #[.string ⟨#[]⟩, .string ⟨#[]⟩, .int .i64 0] 35)), Calls Try.prog 18 #[.pointer (some ⟨x, 0, none⟩)] p.u fun e w' => e = .returned (.int .i64 0) ∧ Only (fun _ => False) p.u w') := Lib.hid (fun p => (hold_err (H7.out.still p.h)).mono fun e w' ⟨h1, h2⟩ => ⟨h1, h2 ▸ Only.refl _ _⟩)
                        have hns := neq_same [] [] 0
                        clear hn6 H6 HIT H5
                        go_wp2_with fail

                        refine wp_region_grew (by kernel_rfl) (by kernel_rfl) (fun _W h0 h1 => ?_)
                        repeat (refine h1 _ _ _ (fun K hK => ?_); go_simp; first | (refine hK _ ?_; clear hK K) | (apply Exists.intro; refine ⟨fun _ => ?_, hK _ ?_⟩; (refine Grew.calls _ (HV.out _)); clear hK K))
                        refine h0 _ (fun p => ?_)
                        clear h0 h1
                        go_wp2_with fail
                        go_roundg (ops.length - (i + 1))
                        case measure => omega
                        case rel => exact ⟨i + 1, none, _, _, by omega, by go_num, rfl, H7.out.still p.h⟩
                  · skip
                    as_aux_lemma =>
                      cases k with
                      | some kk =>
                        have hkl := HH.out.sits.lt
                        have e9 : atI (some kk) = (kk : Int) := rfl
                        have hz9 : (0 : Int) ≤ (kk : Int) := by omega
                        by_cases hl : 0 < kk
                        · obtain ⟨m, hm⟩ : ∃ m, kk = m + 1 := ⟨kk - 1, by omega⟩
                          have hw9 : IntKind.i64.wrap ((kk : Int) - 1) = (m : Int) := by rw [IntWalk.i64_in _ (by omega)]; omega
                          have hke : prvOf (some kk) = some m := by rw [hm]; rfl
                          have hml2 : m < have_.length := by omega
                          clear hm hl
                          have hcl := hold_back HG.out HH1.out
                          rw [hke] at hcl
                          have HCL := Lib.hid hcl
                          clear hcl
                          unfold HGoes at HCL
                          go_wp2_with fail
                          refine HCL.out.mono ?_
                          rintro e w5 ⟨rfl, c5, F5, hH5, st5⟩
                          have H5 := Lib.hid hH5
                          clear hH5 HCL st5

                          obtain ⟨y, hy⟩ : ∃ y, have_[m]? = some y := ⟨_, List.getElem?_eq_getElem (by omega)⟩
                          have hge : ¬ (have_.length : Int) ≤ (m : Int) := by omega
                          have hz0 : (0 : Int) ≤ (m : Int) := by omega
                          have hit := hold_item H5.out
                          rw [itemAt_some hy] at hit
                          have HIT := Lib.hid hit
                          clear hit
                          unfold str at HIT
                          go_wp2_with fail
                          refine HIT.out.mono ?_
                          rintro e w6 ⟨rfl, H6⟩
                          have H7 := Lib.hid (H6.still ((Only.refl (fun _ => False) w6).alloc (.cells #[str y.key, str y.val, .int .i64 y.kind] 35)))
                          obtain ⟨gh_, offh, rfl, y0, y1, y2⟩ := row_item H7.out.row.row hy
                          have hn6 := heap_alloc_new w6 (.cells #[str y.key, str y.val, .int .i64 y.kind] 35)
                          have q0 : ∀ p : Grew (w6.alloc (.cells #[str y.key, str y.val, .int .i64 y.kind] 35)), p.u.cell? ⟨w6.heap.size, 0, none⟩ = some (str y.key) := fun p => p.cell (by rw [heap_cell hn6]; rfl)
                          have q1 : ∀ p : Grew (w6.alloc (.cells #[str y.key, str y.val, .int .i64 y.kind] 35)), p.u.cell? ⟨w6.heap.size, 1, none⟩ = some (str y.val) := fun p => p.cell (by rw [heap_cell hn6]; rfl)
                          have q2 : ∀ p : Grew (w6.alloc (.cells #[str y.key, str y.val, .int .i64 y.kind] 35)), p.u.cell? ⟨w6.heap.size, 2, none⟩ = some (.int .i64 y.kind) := fun p => p.cell (by rw [heap_cell hn6]; rfl)
                          have r0 : ∀ p : Grew (w6.alloc (.cells #[str y.key, str y.val, .int .i64 y.kind] 35)), p.u.cell? ⟨gh_, offh + m * 3, none⟩ = some (str y.key) := fun p => p.cell y0
                          have r1 : ∀ p : Grew (w6.alloc (.cells #[str y.key, str y.val, .int .i64 y.kind] 35)), p.u.cell? ⟨gh_, offh + m * 3 + 1, none⟩ = some (str y.val) := fun p => p.cell y1
                          have r2 : ∀ p : Grew (w6.alloc (.cells #[str y.key, str y.val, .int .i64 y.kind] 35)), p.u.cell? ⟨gh_, offh + m * 3 + 2, none⟩ = some (.int .i64 y.kind) := fun p => p.cell y2
                          have HV : Hid (∀ p : Grew (w6.alloc (.cells #[str y.key, str y.val, .int .i64 y.kind] 35)), Calls Try.prog 18 #[.pointer (some ⟨x, 0, none⟩)] p.u fun e w' => e = .returned (.int .i64 0) ∧ Only (fun _ => False) p.u w') := Lib.hid (fun p => (hold_err (H7.out.still p.h)).mono fun e w' ⟨h1, h2⟩ => ⟨h1, h2 ▸ Only.refl _ _⟩)
                          have hns := neq_same y.key y.val y.kind
                          clear y0 y1 y2 hn6 H6 HIT H5 hy
                          go_wp2_with fail

                          refine wp_region_grew (by kernel_rfl) (by kernel_rfl) (fun _W h0 h1 => ?_)
                          repeat (refine h1 _ _ _ (fun K hK => ?_); go_simp; first | (refine hK _ ?_; clear hK K) | (apply Exists.intro; refine ⟨fun _ => ?_, hK _ ?_⟩; (refine Grew.calls _ (HV.out _)); clear hK K))
                          refine h0 _ (fun p => ?_)
                          clear h0 h1
                          go_wp2_with fail
                          go_roundg (ops.length - (i + 1))
                          case measure => omega
                          case rel => exact ⟨i + 1, some (m), _, _, by omega, by go_num, rfl, H7.out.still p.h⟩
                        · have hke : prvOf (some kk) = none := by unfold prvOf; simp only; rw [if_neg hl]
                          have hw9 : IntKind.i64.wrap ((kk : Int) - 1) = -1 := by rw [IntWalk.i64_in _ (by omega)]; omega
                          have hge : ¬ (have_.length : Int) ≤ -1 := by omega
                          clear hl
                          have hcl := hold_back HG.out HH1.out
                          rw [hke] at hcl
                          have HCL := Lib.hid hcl
                          clear hcl
                          unfold HGoes at HCL
                          go_wp2_with fail
                          refine HCL.out.mono ?_
                          rintro e w5 ⟨rfl, c5, F5, hH5, st5⟩
                          have H5 := Lib.hid hH5
                          clear hH5 HCL st5

                          have hit := hold_item H5.out
                          have e0 : itemAt have_ none = .agg #[.string ⟨#[]⟩, .string ⟨#[]⟩, .int .i64 0] := rfl
                          rw [e0] at hit
                          have HIT := Lib.hid hit
                          clear hit e0
                          clear hke
                          go_wp2_with fail
                          refine HIT.out.mono ?_
                          rintro e w6 ⟨rfl, H6⟩
                          have H7 := Lib.hid (H6.still ((Only.refl (fun _ => False) w6).alloc (.cells #[.string ⟨#[]⟩, .string ⟨#[]⟩, .int .i64 0] 35)))
                          have hn6 := heap_alloc_new w6 (.cells #[.string ⟨#[]⟩, .string ⟨#[]⟩, .int .i64 0] 35)
                          have q0 : ∀ p : Grew (w6.alloc (.cells #[.string ⟨#[]⟩, .string ⟨#[]⟩, .int .i64 0] 35)), p.u.cell? ⟨w6.heap.size, 0, none⟩ = some (.string ⟨#[]⟩) := fun p => p.cell (by rw [heap_cell hn6]; rfl)
                          have q1 : ∀ p : Grew (w6.alloc (.cells #[.string ⟨#[]⟩, .string ⟨#[]⟩, .int .i64 0] 35)), p.u.cell? ⟨w6.heap.size, 1, none⟩ = some (.string ⟨#[]⟩) := fun p => p.cell (by rw [heap_cell hn6]; rfl)
                          have q2 : ∀ p : Grew (w6.alloc (.cells #[.string ⟨#[]⟩, .string ⟨#[]⟩, .int .i64 0] 35)), p.u.cell? ⟨w6.heap.size, 2, none⟩ = some (.int .i64 0) := fun p => p.cell (by rw [heap_cell hn6]; rfl)
                          have HV : Hid (∀ p : Grew (w6.alloc (.cells #[.string ⟨#[]⟩, .string ⟨#[]⟩, .int .i64 0] 35)), Calls Try.prog 18 #[.pointer (some ⟨x, 0, none⟩)] p.u fun e w' => e = .returned (.int .i64 0) ∧ Only (fun _ => False) p.u w') := Lib.hid (fun p => (hold_err (H7.out.still p.h)).mono fun e w' ⟨h1, h2⟩ => ⟨h1, h2 ▸ Only.refl _ _⟩)
                          have hns := neq_same [] [] 0
                          clear hn6 H6 HIT H5
                          go_wp2_with fail

                          refine wp_region_grew (by kernel_rfl) (by kernel_rfl) (fun _W h0 h1 => ?_)
                          repeat (refine h1 _ _ _ (fun K hK => ?_); go_simp; first | (refine hK _ ?_; clear hK K) | (apply Exists.intro; refine ⟨fun _ => ?_, hK _ ?_⟩; (refine Grew.calls _ (HV.out _)); clear hK K))
                          refine h0 _ (fun p => ?_)
                          clear h0 h1
                          go_wp2_with fail
                          go_roundg (ops.length - (i + 1))
                          case measure => omega
                          case rel => exact ⟨i + 1, none, _, _, by omega, by go_num, rfl, H7.out.still p.h⟩
                      | none =>
                        have e9 : atI none = -1 := rfl
                        have hke : prvOf none = none := rfl
                        have hcl := hold_back HG.out HH1.out
                        rw [hke] at hcl
                        have HCL := Lib.hid hcl
                        clear hcl
                        unfold HGoes at HCL
                        go_wp2_with fail
                        refine HCL.out.mono ?_
                        rintro e w5 ⟨rfl, c5, F5, hH5, st5⟩
                        have H5 := Lib.hid hH5
                        clear hH5 HCL st5

                        have hit := hold_item H5.out
                        have e0 : itemAt have_ none = .agg #[.string ⟨#[]⟩, .string ⟨#[]⟩, .int .i64 0] := rfl
                        rw [e0] at hit
                        have HIT := Lib.hid hit
                        clear hit e0
                        have hge : ¬ (have_.length : Int) ≤ -1 := by omega
                        go_wp2_with fail
                        refine HIT.out.mono ?_
                        rintro e w6 ⟨rfl, H6⟩
                        have H7 := Lib.hid (H6.still ((Only.refl (fun _ => False) w6).alloc (.cells #[.string ⟨#[]⟩, .string ⟨#[]⟩, .int .i64 0] 35)))
                        have hn6 := heap_alloc_new w6 (.cells #[.string ⟨#[]⟩, .string ⟨#[]⟩, .int .i64 0] 35)
                        have q0 : ∀ p : Grew (w6.alloc (.cells #[.string ⟨#[]⟩, .string ⟨#[]⟩, .int .i64 0] 35)), p.u.cell? ⟨w6.heap.size, 0, none⟩ = some (.string ⟨#[]⟩) := fun p => p.cell (by rw [heap_cell hn6]; rfl)
                        have q1 : ∀ p : Grew (w6.alloc (.cells #[.string ⟨#[]⟩, .string ⟨#[]⟩, .int .i64 0] 35)), p.u.cell? ⟨w6.heap.size, 1, none⟩ = some (.string ⟨#[]⟩) := fun p => p.cell (by rw [heap_cell hn6]; rfl)
                        have q2 : ∀ p : Grew (w6.alloc (.cells #[.string ⟨#[]⟩, .string ⟨#[]⟩, .int .i64 0] 35)), p.u.cell? ⟨w6.heap.size, 2, none⟩ = some (.int .i64 0) := fun p => p.cell (by rw [heap_cell hn6]; rfl)
                        have HV : Hid (∀ p : Grew (w6.alloc (.cells #[.string ⟨#[]⟩, .string ⟨#[]⟩, .int .i64 0] 35)), Calls Try.prog 18 #[.pointer (some ⟨x, 0, none⟩)] p.u fun e w' => e = .returned (.int .i64 0) ∧ Only (fun _ => False) p.u w') := Lib.hid (fun p => (hold_err (H7.out.still p.h)).mono fun e w' ⟨h1, h2⟩ => ⟨h1, h2 ▸ Only.refl _ _⟩)
                        have hns := neq_same [] [] 0
                        clear hn6 H6 HIT H5
                        go_wp2_with fail

                        refine wp_region_grew (by kernel_rfl) (by kernel_rfl) (fun _W h0 h1 => ?_)
                        repeat (refine h1 _ _ _ (fun K hK => ?_); go_simp; first | (refine hK _ ?_; clear hK K) | (apply Exists.intro; refine ⟨fun _ => ?_, hK _ ?_⟩; (refine Grew.calls _ (HV.out _)); clear hK K))
                        refine h0 _ (fun p => ?_)
                        clear h0 h1
                        go_wp2_with fail
                        go_roundg (ops.length - (i + 1))
                        case measure => omega
                        case rel => exact ⟨i + 1, none, _, _, by omega, by go_num, rfl, H7.out.still p.h⟩
          · have hos2 : (s.length : Int) > 60 := by omega
            go_wp2_with fail
            go_ret
            exact ⟨rfl, HH.out.only.alloc _⟩
        · have hi2 : ¬ (i : Int) < (ops.length : Int) := by omega
          go_wp2_with fail
          go_ret
          exact ⟨rfl, HH.out.only⟩
    · have hn2' : (ops.length : Int) > 200 := by omega
      go_wp2_with fail
      refine (HAL.out w1).mono ?_
      rintro e w2 ⟨rfl, o2⟩
      go_wp2_with fail
      go_ret
      exact ⟨rfl, HO1.out.trans o2 (fun _ _ q => q)⟩
end Go.Proofs.Ytcjaokmodicikaa
