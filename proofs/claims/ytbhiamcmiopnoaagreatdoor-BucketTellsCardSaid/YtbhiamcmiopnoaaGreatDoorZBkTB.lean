/- The law's book, of texts: each list is as it was; all are marked. Conditions: one goroutine; each list lies in memory of its own; they are few and short. (Printed by wip/gen/bk.py.) -/
import Derived.Test.YtbhiamcmiopnoaaGreatDoorZBkTA
import Derived.Deep.RegionLaw
namespace Go.Proofs.YtbhiamcmiopnoaaGreatDoor.bk
open Go.RowKit

theorem eqT (x : Bytes) (w : World) : (binOp .eql 9 (.string ⟨x.toArray⟩) (.string ⟨x.toArray⟩)).run Tryz.prog w = .ok (.bool true) w := by
  simp [go_sem]
set_option maxRecDepth 100000 in
set_option maxHeartbeats 2000000 in
theorem SameT_is (w : World) (va vb : Value) (l : List Bytes) (ha : RowAt txtC 1 w va l) (hb : RowAt txtC 1 w vb l) (hn : l.length ≤ 1000000) : Calls Tryz.prog 16 #[va, vb] w (StillTold w) := by
  obtain ⟨a1, c1, rfl⟩ := row_form ha
  obtain ⟨a2, c2, rfl⟩ := row_form hb
  have HA := Lib.hid ha
  have HB := Lib.hid hb
  clear ha hb
  go_enter Tryz.func16, Tryz.ntmps16
  go_wp2_with fail
  go_loopg [5] l.length (fun gh iv wr => ∃ k : Nat, gh + k = l.length ∧ iv = .int .i64 k ∧ Only (fun _ => False) w wr)
  case atStart => exact ⟨0, by omega, rfl, Only.refl _ w⟩
  case round =>
    obtain ⟨k, hgk, rfl, ho⟩ := hrel
    have HO := Lib.hid ho
    clear ho
    by_cases hk : k < l.length
    · have hk1 : (k : Int) < (l.length : Int) := by omega
      have hk0 : (0 : Int) ≤ (k : Int) := by omega
      obtain ⟨x, hx⟩ : ∃ x, l[k]? = some x := ⟨_, List.getElem?_eq_getElem hk⟩
      obtain ⟨g1, off1, rfl, hi⟩ := row_at (row_only HA.out HO.out (fun _ _ => id)) hx
      obtain ⟨g2, off2, rfl, hj⟩ := row_at (row_only HB.out HO.out (fun _ _ => id)) hx
      have i0 : wr.cell? ⟨g1, off1 + k, none⟩ = some (str x) := by simpa using hi 0 _ rfl
      have j0 : wr.cell? ⟨g2, off2 + k, none⟩ = some (str x) := by simpa using hj 0 _ rfl
      try simp only [← Nat.add_assoc] at i0 j0
      have hw1 : IntKind.i64.wrap ((k : Int) + 1) = (k : Int) + 1 := by exact IntWalk.i64_in _ (by omega)
      have heq := eqT x
      have HH := Lib.hid (HO.out.drew)
      clear hx hi hj
      go_wp2_with fail
      go_region
      all_goals
        go_wp2_with fail
        go_roundg (gk - 1)
        case measure => omega
        case rel => exact ⟨k + 1, by omega, by go_num, by first | exact HH.out | exact HO.out⟩
    · obtain rfl : k = l.length := by omega
      have hk1 : ¬ (l.length : Int) < (l.length : Int) := by omega
      go_wp2_with fail
      go_ret
      exact ⟨rfl, HO.out⟩

set_option maxRecDepth 100000 in
set_option maxHeartbeats 8000000 in
theorem stillT_is (w : World) (k : Nat) (cs : Array Value) (vI vW : Value) (xs ys : List Value) (ls : List (List Bytes)) (B : Nat) (h : BookAt txtC 1 9 37 0 w k cs vI vW xs ys ls ls B) (hl : ls.length < 250) (hn : ∀ l ∈ ls, l.length ≤ 1000000) :
    Calls Tryz.prog 51 #[.pointer (some ⟨k, 0, none⟩)] w (StillTold w) := by
  have hxl := h.x.len
  have hyl := h.len
  have hrowI := h.x.rowI
  have hrowW := h.rowW
  obtain ⟨aI, cI, rfl⟩ := ownsRow_form hrowI
  obtain ⟨aW, cW, rfl⟩ := ownsRow_form hrowW
  obtain ⟨n, hnx⟩ : ∃ n, xs.length = n := ⟨_, rfl⟩
  have hny : ys.length = n := by omega
  have c4 : w.cell? ⟨k, 0, none⟩ = some (.slice aI xs.length cI) := h.x.cell
  have c5 : w.cell? ⟨k, 1, none⟩ = some (.slice aW ys.length cW) := h.cell
  rw [hnx] at c4 hrowI
  rw [hny] at c5 hrowW
  have HH := Lib.hid (And.intro h (And.intro hn (And.intro hnx hny)))
  have HR := Lib.hid (And.intro hrowI hrowW)
  have hn250 : n < 250 := by omega
  clear h hn hnx hny hrowI hrowW hxl hyl hl
  go_enter Tryz.func51, Tryz.ntmps51
  go_wp2_with fail
  go_loopg [3] n (fun gh iv wr => ∃ i : Nat, gh + i = n ∧ iv = .int .i64 i ∧ Only (fun _ => False) w wr)
  case atStart => exact ⟨0, by omega, rfl, Only.refl _ w⟩
  case round =>
    obtain ⟨i, hgi, rfl, ho⟩ := hrel
    have d4 := (ho.cell (p := ⟨k, 0, none⟩) (lt_of_cell c4) (fun q => q)).trans c4
    have HO := Lib.hid ho
    by_cases hi : i < n
    · as_aux_lemma =>
      have hi2 : (i : Int) < (n : Int) := by omega
      have hi3 : (0 : Int) ≤ (i : Int) := by omega
      have hw1 : IntKind.i64.wrap ((i : Int) + 1) = (i : Int) + 1 := by exact IntWalk.i64_in _ (by omega)
      obtain ⟨hB, hn, hnx, hny⟩ := HH.out
      obtain ⟨x, hx⟩ : ∃ x, xs[i]? = some x := ⟨_, List.getElem?_eq_getElem (by omega)⟩
      obtain ⟨y, hy⟩ : ∃ y, ys[i]? = some y := ⟨_, List.getElem?_eq_getElem (by omega)⟩
      obtain ⟨l, hl⟩ : ∃ l, ls[i]? = some l := ⟨_, List.getElem?_eq_getElem (by have := hB.x.len; omega)⟩
      obtain ⟨gI, rfl⟩ : ∃ g, aI = some ⟨g, 0, none⟩ := (own_addr HR.out.1).resolve_left (fun q => by have := q.2.1; omega)
      obtain ⟨gW, rfl⟩ : ∃ g, aW = some ⟨g, 0, none⟩ := (own_addr HR.out.2).resolve_left (fun q => by have := q.2.1; omega)
      have ex := own_cell HR.out.1 i x hx
      have ey := own_cell HR.out.2 i y hy
      have rx := row_own (enc := txtC) (k := 1) (fun _ => rfl) (hB.x.rows i x l hx hl)
      have ry := row_own (enc := txtC) (k := 1) (fun _ => rfl) (hB.copies i y l hy hl)
      have hll := hn l (List.mem_of_getElem? hl)
      obtain ⟨aX, cX, rfl⟩ := row_form rx
      obtain ⟨aY, cY, rfl⟩ := row_form ry
      have q4 : ∀ p : Grew wr, p.u.cell? ⟨k, 0, none⟩ = some (.slice (some ⟨gI, 0, none⟩) n cI) := fun p => p.cell d4
      have q5 : ∀ p : Grew wr, p.u.cell? ⟨k, 1, none⟩ = some (.slice (some ⟨gW, 0, none⟩) n cW) := fun p => p.cell ((HO.out.cell (p := ⟨k, 1, none⟩) (lt_of_cell c5) (fun q => q)).trans c5)
      have qx : ∀ p : Grew wr, p.u.cell? ⟨gI, i, none⟩ = some (.slice aX l.length cX) := fun p => p.cell ((HO.out.cell (p := ⟨gI, i, none⟩) (lt_of_cell ex) (fun q => q)).trans ex)
      have qy : ∀ p : Grew wr, p.u.cell? ⟨gW, i, none⟩ = some (.slice aY l.length cY) := fun p => p.cell ((HO.out.cell (p := ⟨gW, i, none⟩) (lt_of_cell ey) (fun q => q)).trans ey)
      have HV1 : Hid (∀ p : Grew wr, Calls Tryz.prog 16 #[.slice aX l.length cX, .slice aY l.length cY] p.u fun e w' => e = .returned (.bool true) ∧ Only (fun _ => False) p.u w') := Lib.hid (fun p => SameT_is p.u _ _ l (row_only rx (HO.out.trans p.h (fun _ _ q => q)) (fun _ _ => id)) (row_only ry (HO.out.trans p.h (fun _ _ q => q)) (fun _ _ => id)) hll)
      clear rx ry ex ey hx hy hl hB hn hnx hny c4 c5 ho HR HH
      go_wp2_with fail
      refine wp_region_grew (by kernel_rfl) (by kernel_rfl) (fun _W h0 h1 => ?_)
      repeat (refine h1 _ _ _ (fun K hK => ?_); go_simp; first | (refine hK _ ?_; clear hK K) | (apply Exists.intro; refine ⟨fun _ => ?_, hK _ ?_⟩; (with_reducible refine Grew.calls _ (HV1.out _)); clear hK K))
      refine h0 _ (fun p => ?_)
      clear h0 h1 q4 q5 qx qy
      go_wp2_with fail
      go_roundg (gk - 1)
      case measure => omega
      case rel => exact ⟨i + 1, by omega, by go_num, HO.out.trans p.h (fun _ _ q => q)⟩
    · obtain rfl : i = n := by omega
      have hi2 : ¬ (i : Int) < (i : Int) := by omega
      clear ho
      go_wp2_with fail
      go_ret
      exact ⟨rfl, HO.out⟩

set_option maxRecDepth 100000 in
set_option maxHeartbeats 8000000 in
theorem putT_is (w : World) (k : Nat) (cs : Array Value) (vI : Value) (xs : List Value) (ls : List (List Bytes)) (B : Nat) (h : BookX txtC 1 9 37 0 w k cs vI xs ls B) (hl : ls.length < 250) (hn : ∀ l ∈ ls, l.length ≤ 1000) :
    Calls Tryz.prog 62 #[.pointer (some ⟨k, 0, none⟩)] w (PutTold markT txtC 1 9 37 0 w k cs vI xs ls B) := by
  have hxl := h.len
  obtain ⟨n, hnx⟩ : ∃ n, ls.length = n := ⟨_, rfl⟩
  have hn250 : n < 250 := by omega
  obtain ⟨aI, cI, rfl⟩ := ownsRow_form h.rowI
  rw [show xs.length = n by omega] at h ⊢
  have HH := Lib.hid (And.intro h (And.intro hn (And.intro hnx (show xs.length = n by omega))))
  have HX0 := Lib.hid h
  clear h hn hnx hxl hl
  go_enter Tryz.func62, Tryz.ntmps62
  go_wp2_with fail
  go_loopg [2] n (fun gh iv wr => ∃ i : Nat, gh + i = n ∧ iv = .int .i64 i ∧ BookX txtC 1 9 37 0 wr k cs (.slice aI n cI) xs (marksTo markT ls i) B ∧ Only (fun b => ∃ v ∈ xs, OwnB v b) w wr)
  case atStart => exact ⟨0, by omega, rfl, by rw [marksTo_zero]; exact HX0.out, Only.refl _ w⟩
  case round =>
    obtain ⟨i, hgi, rfl, hX, ho⟩ := hrel
    have d4 : wr.cell? ⟨k, 0, none⟩ = some (.slice aI n cI) := hX.cell
    have HX := Lib.hid (And.intro hX ho)
    clear ho HX0
    by_cases hi : i < n
    · have hi2 : (i : Int) < (n : Int) := by omega
      have hi3 : (0 : Int) ≤ (i : Int) := by omega
      have hw1 : IntKind.i64.wrap ((i : Int) + 1) = (i : Int) + 1 := by exact IntWalk.i64_in _ (by omega)
      obtain ⟨x, hx⟩ : ∃ x, xs[i]? = some x := ⟨_, List.getElem?_eq_getElem (by have := HH.out.2.2.2; omega)⟩
      obtain ⟨l, hl⟩ : ∃ l, ls[i]? = some l := ⟨_, List.getElem?_eq_getElem (by have := HH.out.2.2.1; omega)⟩
      have hl2 : (marksTo markT ls i)[i]? = some l := by rw [marksTo_at, hl]; simp
      have rI := hX.rowI
      rw [HH.out.2.2.2] at rI
      obtain ⟨gI, rfl⟩ : ∃ g, aI = some ⟨g, 0, none⟩ := (own_addr rI).resolve_left (fun q => by have := q.2.1; omega)
      have ex := own_cell rI i x hx
      have rx := hX.rows i x l hx hl2
      have hll := HH.out.2.1 l (List.mem_of_getElem? hl)
      obtain ⟨aX, cX, rfl⟩ := ownsRow_form rx
      have HNX := Lib.hid (marksTo_next markT hl)
      have HB : Hid (Calls Tryz.prog 129 #[.int .i64 (i : Int), .int .i64 0, .int .i64 (l.length : Int)] wr (OwnTold txtC 1 9 wr (marks markT i 0 l.length))) := Lib.hid (markT_is wr i 0 l.length (by omega) (by omega))
      have HL := Lib.hid (And.intro hx hl)
      clear hX hl2 rI hx hl rx
      unfold OwnTold at HB
      go_wp2_with fail
      (with_reducible refine HB.out.mono ?_)
      rintro e w2 ⟨vm, rfl, hm, o2, hmn⟩
      rw [marks_length] at hm
      obtain ⟨aM, cM, rfl⟩ := ownsRow_form hm
      have HX2 := Lib.hid (HX.out.1.still o2)
      have HO2 := Lib.hid (HX.out.2.trans o2 (fun _ _ q => q.elim))
      have HM2 := Lib.hid (And.intro hm (fun b (e : OwnB (Value.slice aM l.length cM) b) => (⟨hmn b e, (hm.lt b e).2⟩ : wr.heap.size ≤ b ∧ b < w2.heap.size)))
      obtain ⟨mm, hmm⟩ : ∃ mm, marks markT i 0 l.length = mm := ⟨_, rfl⟩
      have hml : mm.length = l.length := by rw [← hmm, marks_length]
      rw [hmm] at HM2 HNX
      have HML := Lib.hid hml
      have hnv : ∀ b, OwnB (.slice aX l.length cX) b → b < wr.heap.size := fun b e => ((HX.out.1.rows i _ l HL.out.1 (by rw [marksTo_at, HL.out.2]; simp)).lt b e).2
      have HNV := Lib.hid hnv
      clear hm o2 hmn HB hmm hml hnv d4 ex
      go_wp2_with fail
      go_loopg [4] l.length (fun gh jv wr2 => ∃ j : Nat, gh + j = l.length ∧ jv = .int .i64 j ∧ BookX txtC 1 9 37 0 wr2 k cs (.slice (some ⟨gI, 0, none⟩) n cI) xs ((marksTo markT ls i).set i (mm.take j ++ l.drop j)) B ∧ wr2.ownsRow 0 9 1 (.slice aM l.length cM) l.length (mm.flatMap txtC) ∧ Only (fun b => ∃ v ∈ xs, OwnB v b) w wr2)
      case atStart =>
        refine ⟨0, by omega, rfl, ?_, HM2.out.1, HO2.out⟩
        have e : (marksTo markT ls i).set i (mm.take 0 ++ l.drop 0) = marksTo markT ls i := by
          apply List.ext_getElem?
          intro j
          rw [List.getElem?_set]
          by_cases hij : i = j
          · subst hij
            rw [if_pos rfl, if_pos (by rw [marksTo_length]; exact (List.getElem?_eq_some_iff.1 HL.out.2).1), marksTo_at, HL.out.2]
            simp
          · rw [if_neg hij]
        rw [e]
        exact HX2.out
      case round =>
        obtain ⟨j, hgj, rfl, hX, hM, ho⟩ := hrel
        by_cases hj : j < l.length
        · have hj2 : (j : Int) < (l.length : Int) := by omega
          have hj3 : (0 : Int) ≤ (j : Int) := by omega
          have hwj : IntKind.i64.wrap ((j : Int) + 1) = (j : Int) + 1 := by have := HH.out.2.1 l (List.mem_of_getElem? HL.out.2); exact IntWalk.i64_in _ (by omega)
          obtain ⟨z, hz⟩ : ∃ z, mm[j]? = some z := ⟨_, List.getElem?_eq_getElem (by have := HML.out; omega)⟩
          obtain ⟨L, hL⟩ : ∃ L, mm.take j ++ l.drop j = L := ⟨_, rfl⟩
          have hLl : L.length = l.length := by rw [← hL, List.length_append, List.length_take, List.length_drop]; have := HML.out; omega
          have hNX2 := put_next hz hj
          rw [hL] at hX hNX2
          have d4 : wr.cell? ⟨k, 0, none⟩ = some (.slice (some ⟨gI, 0, none⟩) n cI) := hX.cell
          have rI := hX.rowI
          rw [HH.out.2.2.2] at rI
          have ex := own_cell rI i _ HL.out.1
          have hrx := hX.rows i _ L HL.out.1 (by
            rw [List.getElem?_set, if_pos rfl, if_pos (by rw [marksTo_length]; exact (List.getElem?_eq_some_iff.1 HL.out.2).1)])
          obtain ⟨gX, rfl⟩ : ∃ g, aX = some ⟨g, 0, none⟩ := (own_addr hrx).resolve_left (fun q => by have := q.2.1; omega)
          obtain ⟨gM, rfl⟩ : ∃ g, aM = some ⟨g, 0, none⟩ := (own_addr hM).resolve_left (fun q => by have := q.2.1; omega)
          rw [hLl] at hrx
          obtain ⟨u, hu⟩ : ∃ u, L[j]? = some u := ⟨_, List.getElem?_eq_getElem (by omega)⟩
          have m0 : wr.cell? ⟨gM, j, none⟩ = some (str z) := by simpa using own_cell hM (j * 1 + 0) _ (flat_get (enc := txtC) (k := 1) (fun _ => rfl) mm j 0 z _ hz rfl)
          have x0 : wr.cell? ⟨gX, j, none⟩ = some (str u) := by simpa using own_cell hrx (j * 1 + 0) _ (flat_get (enc := txtC) (k := 1) (fun _ => rfl) L j 0 u _ hu rfl)
          have hgm : gM ≠ gX := fun e => by have h1 := (HM2.out.2 gM rfl).1; have h2 := HNV.out gX rfl; omega
          have z0 := own_frozen hrx j
          have HQ := Lib.hid (And.intro hX (And.intro hM (And.intro ho (And.intro hrx (And.intro hLl (And.intro hNX2 hgm))))))
          have hjL : Hid (j < L.length) := Lib.hid (by omega)
          clear hX hM ho hrx hLl hNX2 hL hz rI hu hgm
          go_wp2_with fail
          go_region_law (fail)
          all_goals
            go_wp2_with fail
            go_roundg (gk - 1)
            case measure => omega
            case rel =>
              obtain ⟨hX, hM, ho, hrx, hLl, hNX2, hgm⟩ := HQ.out
              have hrow := (own_set hrx (j) (str z)).drew
              have hsc : putL (L.flatMap txtC) (j * 1) (txtC z) = (L.set j z).flatMap txtC := set_cells (enc := txtC) (k := 1) (fun _ => rfl) L j z hjL.out
              rw [Nat.mul_one] at hsc
              have hsc2 : (L.flatMap txtC).set (j) (str z) = (L.set j z).flatMap txtC := hsc
              rw [hsc2] at hrow
              have hoF := ((Only.refl (fun b => OwnB (.slice (some ⟨gX, 0, none⟩) l.length cX) b) wr).put gX (j) rfl (str z)).drew
              have hw := hX.write HL.out.1 (L.set j z) (by rw [List.length_set, hLl]; exact hrow) hoF
              rw [List.set_set, hNX2] at hw
              exact ⟨j + 1, by omega, by go_num, hw, own_only hM hoF (fun b e q => hgm ((Option.some.inj e).trans (Option.some.inj q).symm)), ho.trans hoF (fun b _ q => ⟨_, List.mem_of_getElem? HL.out.1, q⟩)⟩
        · obtain rfl : j = l.length := by omega
          have hj2 : ¬ (l.length : Int) < (l.length : Int) := by omega
          have e : mm.take l.length ++ l.drop l.length = mm := by rw [List.take_of_length_le (by rw [HML.out]; exact Nat.le_refl _), List.drop_length, List.append_nil]
          rw [e, ← HNX.out] at hX
          have HF := Lib.hid (And.intro hX ho)
          clear hX hM ho e
          go_wp2_with fail
          go_roundg (n - (i + 1))
          case measure => omega
          case rel => exact ⟨i + 1, by omega, by go_num, HF.out.1, HF.out.2⟩
    · obtain rfl : i = n := by omega
      have hi2 : ¬ (i : Int) < (i : Int) := by omega
      clear hX
      go_wp2_with fail
      go_end0
      have e : marksTo markT ls ls.length = marksTo markT ls i := by rw [HH.out.2.2.1]
      exact ⟨rfl, by rw [e]; exact HX.out.1, HX.out.2⟩

end Go.Proofs.YtbhiamcmiopnoaaGreatDoor.bk
