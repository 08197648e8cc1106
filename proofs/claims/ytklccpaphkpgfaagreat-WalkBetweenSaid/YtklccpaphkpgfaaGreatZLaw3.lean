/- The law's tree: items are put one behind the other, the same in a list. Conditions: one goroutine; the items lie in memory; they are few. -/
import Derived.Test.YtklccpaphkpgfaaGreatZLaw2
import Derived.BigQuiet
namespace Go.Proofs.YtklccpaphkpgfaaGreat
open Go.RowKit

/-- What Made hands back. -/
def MadeEnds (w : World) (l : List Item) (e : Ending) (w' : World) : Prop := ∃ (b : Nat) (root : Int) (vh : Value) (S : PSt), e = .returned (.tuple #[.pointer (some ⟨b, 0, none⟩), .int .i64 root, vh]) ∧ PagesAt w' b S ∧ MadeTo S root l l.length ∧ S.given.length ≤ 10000 ∧ RowC itemC 3 w' vh (madeL l) ∧ (∀ j, rowBlock vh = some j → w.heap.size ≤ j ∧ j < w'.heap.size ∧ ¬ pown w' b j) ∧ Only (fun _ => False) w w' ∧ (∀ k, pown w' b k → w.heap.size ≤ k)

theorem one_items (l : List Item) : ∀ u ∈ l.flatMap itemC, u.oneCell' = true := by
  intro u hu
  obtain ⟨x, _, hu⟩ := List.mem_flatMap.1 hu
  simp only [itemC, List.mem_cons, List.not_mem_nil, or_false] at hu
  rcases hu with rfl | rfl | rfl <;> rfl
theorem step_append_any {P : Program} (w : World) {ops : Array Oper} {o : Oper} {a : Act} {K : Act → World → Prop} {Q : Exit → Act → World → Prop} {E : Prop} (hgd : o.guard = none) (s x : Operand) (t : TypeId)
    (ho : o.op = .call { callee := .builtin .append, args := #[s, x], argTypes := #[t, t] })
    (e : TypeId) (i : TypeInfo) (z : Value) (size bytes : Nat) (ht : P.underlying t = some (.slice e)) (hi : P.info? e = some i) (hz : i.zero = some z)
    (hsize : i.size = size) (hby : i.bytes = bytes) (hzs : z.cells.size = size) (hsz : 0 < size)
    (v : Value) (n : Nat) (xs : List Value) (hs : a.eval s = v) (hown : w.ownsRow 0 e size v n xs)
    (ao : Option Addr) (m c : Nat) (news : List Value) (hx : a.eval x = .slice ao m c) (hl : news.length = m * size) (hnone : ao = none → m = 0 ∧ c = 0)
    (hnews : ∀ ad, ao = some ad → ∀ j u, news[j]? = some u → w.cell? (ad.add j) = some u) (h1 : ∀ u ∈ news, u.oneCell' = true)
    (h63 : n + m ≤ maxLen) (hbytes : (n + m) * bytes ≤ 140737488355328)
    (h : ∀ a' c' w', w'.ownsRow 0 e size (.slice a' (n + m) c') (n + m) (xs ++ news) → w.grownBy w' v.ownBlock → Moved w v (.slice a' (n + m) c') → K (a.put o.dst (.slice a' (n + m) c')) w') :
    if Region.wanted o (yielded ops a.tmps) = true then o.wp P a w K Q else E := by
  cases ao with
  | some ad => exact step_append_moved w hgd s x t ho e i z size bytes ht hi hz hsize hby hzs hsz v n xs hs hown ad m c news hx hl (hnews ad rfl) h1 h63 hbytes h
  | none =>
    obtain ⟨rfl, rfl⟩ := hnone rfl
    have hnn : news = [] := List.eq_nil_of_length_eq_zero (by simpa using hl)
    subst hnn
    have hw : Region.wanted o (yielded ops a.tmps) = true := by simp [Region.wanted, hgd]
    rw [if_pos hw]
    have hrun := run_append_owned_none (P := P) w 0 t o.type e i size ht hi v n xs hown
    obtain ⟨a', c', rfl⟩ := ownsRow_form hown
    unfold Oper.wp execOp
    simp only [ho, resolve, invoke, builtin, Sem.run_bind, Sem.run_pure, Result.andThen_ok, List.map_toArray, List.map_cons, List.map_nil, hs, hx, hrun]
    have := h a' c' w
    simp only [Nat.add_zero, List.append_nil] at this
    exact this hown ⟨rfl, rfl, rfl, Nat.le_refl _, fun _ _ _ => rfl⟩ (fun k hk => .inl hk)
theorem own_addr {w : World} {e : TypeId} {size n c m : Nat} {ao : Option Addr} {xs : List Value} (h : w.ownsRow 0 e size (.slice ao n c) m xs) : (ao = none ∧ n = 0 ∧ c = 0) ∨ ∃ g, ao = some ⟨g, 0, none⟩ := by
  rcases h.2 with ⟨q, _⟩ | ⟨g, _, _, q, _⟩
  · simp only [Value.slice.injEq] at q
    exact .inl q
  · simp only [Value.slice.injEq] at q
    exact .inr ⟨g, q.1⟩
theorem cells_later {W W' : World} (xs : List Value) (t : TypeId) (ho : Only (fun _ => False) (W.alloc (.cells xs.toArray t)) W') : ∀ j u, xs[j]? = some u → W'.cell? ((⟨W.heap.size, 0, none⟩ : Addr).add j) = some u := fun j u h => by
  have e : ((⟨W.heap.size, 0, none⟩ : Addr).add j) = ⟨W.heap.size, j, none⟩ := by unfold Addr.add; split <;> simp_all
  have h2 := cells_new W xs t (0, 0) j u h
  rw [e] at h2 ⊢
  exact (ho.cell (p := ⟨W.heap.size, j, none⟩) (by simp) (fun q => q)).trans h2
theorem row_cells3 {w W : World} {g n cap : Nat} {l m : List Item} {r : Nat} (h : w.ownsRow 0 29 3 (.slice (some ⟨g, 0, none⟩) n cap) n (l.flatMap itemC)) (ho : Only (fun _ => False) w W) (hm : ∀ i x, m[i]? = some x → l[r + i]? = some x) :
    ∀ j u, (m.flatMap itemC)[j]? = some u → W.cell? ((⟨g, r * 3, none⟩ : Addr).add j) = some u := fun j u hu => by
  have e : ((⟨g, r * 3, none⟩ : Addr).add j) = ⟨g, r * 3 + j, none⟩ := by
    unfold Addr.add; split <;> simp_all
  rw [e]
  have hl := (List.getElem?_eq_some_iff.1 hu).1
  have hml : (m.flatMap itemC).length = m.length * 3 := by rw [flatI_length]
  have hj : j / 3 < m.length := by omega
  obtain ⟨x, hx⟩ : ∃ x, m[j / 3]? = some x := ⟨_, List.getElem?_eq_getElem hj⟩
  obtain ⟨v, hv⟩ : ∃ v, (itemC x)[j % 3]? = some v := ⟨_, List.getElem?_eq_getElem (by show j % 3 < 3; omega)⟩
  have h1 := flat_get (enc := itemC) (k := 3) (fun _ => rfl) m (j / 3) (j % 3) x v hx hv
  have ej : j / 3 * 3 + j % 3 = j := by omega
  rw [ej, hu] at h1
  cases h1
  have h2 := flat_get (enc := itemC) (k := 3) (fun _ => rfl) l (r + j / 3) (j % 3) x u (hm _ _ hx) hv
  have e2 : r * 3 + j = (r + j / 3) * 3 + j % 3 := by omega
  rw [e2]
  have h3 := own_cell h _ _ h2
  exact (ho.cell (p := ⟨g, (r + j / 3) * 3 + j % 3, none⟩) (lt_of_cell h3) (fun q => q)).trans h3
theorem pages_make (b : Nat) : pagesV b = .iface 25 (.pointer (some ⟨b, 0, none⟩)) := rfl

set_option maxRecDepth 100000 in
set_option maxHeartbeats 40000000 in
theorem Made_is (w : World) (v : Value) (l : List Item) (h : RowAt itemC 3 w v l) (hv : ∀ j, rowBlock v = some j → j < w.heap.size) (hn : l.length ≤ 150) :
    Calls Tryz.prog 9 #[v] w (MadeEnds w l) := by
  obtain ⟨i0, hi, hz0, hz1, hz2⟩ := info_parts itemInfo
  have hform : ∃ a c, v = .slice a l.length c := by cases h with
    | none => exact ⟨_, _, rfl⟩
    | some g off cap => exact ⟨_, _, rfl⟩
  obtain ⟨a, c, rfl⟩ := hform
  have HV := Lib.hid h
  have HVL := Lib.hid hv
  have HF := Lib.hid (Fresh_is w)
  clear h hv
  go_enter Tryz.func9, Tryz.ntmps9
  go_wp2_with fail
  refine HF.out.mono ?_
  rintro e w1 ⟨rfl, hp1, o1, hpw1⟩
  have HP1 := Lib.hid hp1
  have HO1 := Lib.hid o1
  have HPW := Lib.hid hpw1
  have hrow1 := row_only HV.out o1 (fun _ _ => fun q => q)
  have hap1 : ∀ j, rowBlock (Value.slice a l.length c) = some j → ¬ pown w1 w.heap.size j := fun j hj q => by have := HVL.out j hj; have := hpw1 j q; omega
  have HR1 := Lib.hid (And.intro hrow1 hap1)
  clear hp1 o1 hpw1 hrow1 hap1 HF
  generalize hb : w.heap.size = b at *
  go_wp2_with fail
  go_loopg [6, 7] l.length (fun gh rt ix wr => ∃ (k : Nat) (S : PSt) (root : Int), gh + k = l.length ∧ ix = .int .i64 k ∧ rt = .int .i64 root ∧ PagesAt wr b S ∧ MadeTo S root l k ∧ S.given.length ≤ 33 * k ∧ PStep b w1 wr)
  case atStart => exact ⟨0, noPages, 0, by omega, rfl, rfl, HP1.out, made_none l noPages rfl rfl, by simp [noPages], PStep.refl b w1⟩
  case round =>
    obtain ⟨k, S, root, hgh, rfl, rfl, hp, hM, hgv, hst⟩ := hrel
    have HP := Lib.hid hp
    have HM := Lib.hid hM
    have HST := Lib.hid hst
    clear hp hM hst
    by_cases hk : k < l.length
    · have hk1 : (k : Int) < (l.length : Int) := by omega
      obtain ⟨x, hx⟩ : ∃ x, l[k]? = some x := ⟨_, List.getElem?_eq_getElem hk⟩
      have hrow := row_only HR1.out.1 HST.out.only (fun j hj => HR1.out.2 j hj)
      obtain ⟨g, off, rfl, i0, i1, i2⟩ := row_item hrow hx
      have hw1 : IntKind.i64.wrap ((k : Int) + 1) = (k : Int) + 1 := by exact IntWalk.i64_in _ (by omega)
      rcases made_next HM.out hx hn with ⟨hok, hpt, hM2⟩ | ⟨hok, r, p', hpt, hM2⟩
      · have HB := Lib.hid (tPut_bad wr b S root x HP.out hok)
        have HM2 := Lib.hid hM2
        clear hrow hx hpt hM2
        unfold pagesV itemV itemC at HB
        go_wp2_with fail
        refine HB.out.mono ?_
        rintro e w2 ⟨rfl, hp2, st2⟩
        have HX := Lib.hid (And.intro hp2 st2)
        clear hp2 st2
        go_wp2_with fail
        go_roundg (gk - 1)
        case measure => omega
        case rel => exact ⟨k + 1, S, root, by omega, by go_num, rfl, HX.out.1, HM2.out, by omega, HST.out.trans HX.out.2⟩
      · obtain ⟨ids, R⟩ := HM.out.rooted
        have hlen := madeL_length (l.take k)
        rw [List.length_take] at hlen
        have hfew := HM.out.few
        have hstop := HM.out.stop
        have hgv2 := putTree_given S root x
        rw [hpt] at hgv2
        simp only at hgv2
        have HB := Lib.hid (tPut_is wr b S p' root r _ ids x 8 HP.out hok R (by omega) (by omega) (by omega) (by omega) (by omega) hpt)
        have HM2 := Lib.hid hM2
        clear hrow hx hpt hM2 R
        unfold pagesV itemV itemC at HB
        go_wp2_with fail
        refine HB.out.mono ?_
        rintro e w2 ⟨rfl, hp2, st2⟩
        have HX := Lib.hid (And.intro hp2 st2)
        clear hp2 st2
        go_wp2_with fail
        go_roundg (gk - 1)
        case measure => omega
        case rel => exact ⟨k + 1, p', r, by omega, by go_num, rfl, HX.out.1, HM2.out, by omega, HST.out.trans HX.out.2⟩
    · obtain rfl : k = l.length := by omega
      have hk1 : ¬ (l.length : Int) < (l.length : Int) := by omega
      have hMS := HM.out
      go_wp2_with fail
      generalize wr = wo at *
      have hHV : ∀ W, Only (fun _ => False) wo W → RowAt itemC 3 W (.slice a l.length c) l := fun W hW => row_only (row_only HR1.out.1 HST.out.only (fun j hj => HR1.out.2 j hj)) hW (fun _ _ => fun q => q)
      have HHV := Lib.hid hHV
      clear hHV
      go_loopg [10, 11] l.length (fun gh ov ix wq => ∃ k : Nat, gh + k = l.length ∧ ix = .int .i64 k ∧ wq.ownsRow 0 29 3 ov (madeL (l.take k)).length ((madeL (l.take k)).flatMap itemC) ∧ Only (fun _ => False) wo wq ∧ ∀ j, ov.ownBlock = some j → wo.heap.size ≤ j)
      case atStart => exact ⟨0, by omega, rfl, ⟨rfl, .inl ⟨rfl, rfl⟩⟩, Only.refl _ _, (fun j hj => by simp [Value.ownBlock] at hj)⟩
      case round =>
        obtain ⟨k, hgh2, rfl, own, ho, hnw⟩ := hrel
        have HOW := Lib.hid own
        have HO := Lib.hid ho
        have HNW := Lib.hid hnw
        clear own ho hnw
        by_cases hk : k < l.length
        · have hk2 : (k : Int) < (l.length : Int) := by omega
          obtain ⟨x, hx⟩ : ∃ x, l[k]? = some x := ⟨_, List.getElem?_eq_getElem hk⟩
          have HX := Lib.hid hx
          obtain ⟨g, off, rfl, i0', i1', i2'⟩ := row_item (HHV.out wr HO.out) hx
          have hw1 : IntKind.i64.wrap ((k : Int) + 1) = (k : Int) + 1 := by exact IntWalk.i64_in _ (by omega)
          have hVI := VItem_is x wr
          have HNX := Lib.hid (madeL_next hx)
          clear hx
          cases hok : okItem x with
          | false =>
            rw [hok] at hVI HNX
            have HVI := Lib.hid hVI
            clear hVI
            unfold itemV itemC at HVI
            go_wp2_with fail
            refine HVI.out.mono ?_
            rintro e w2 ⟨rfl, o2⟩
            have HO2 := Lib.hid o2
            clear o2
            go_wp2_with fail
            go_roundg (gk - 1)
            case measure => omega
            case rel => exact ⟨k + 1, by omega, by go_num, by rw [HNX.out]; exact own_only HOW.out HO2.out (fun _ _ => id), HO.out.trans HO2.out (fun _ _ q => q), HNW.out⟩
          | true =>
            rw [hok] at hVI HNX
            simp only [if_true] at HNX
            have HVI := Lib.hid hVI
            clear hVI
            have hrt := madeL_right (l.take k)
            have hml := madeL_length (l.take k)
            rw [List.length_take] at hml
            generalize hout : madeL (l.take k) = out at *
            have hris := ((rightL_iff _).1 hrt).2
            have hol : out.length ≤ 150 := by omega
            obtain ⟨aO, cO, rfl⟩ := ownsRow_form HOW.out
            have hfl := findAt_le out x.key
            have HRS := Lib.hid hris
            clear hris hrt hml hout hok
            unfold itemV itemC at HVI
            go_wp2_with fail
            refine HVI.out.mono ?_
            rintro e w2 ⟨rfl, o2⟩
            have HO2 := Lib.hid (HO.out.trans o2 (fun _ _ q => q))
            have HOW2 := Lib.hid (own_only HOW.out o2 (fun _ _ => id))
            clear o2 HVI i0' i1' i2' HOW HO
            go_wp2_with fail
            generalize wr = wz at *
            go_loopg [12] (findAt out x.key) (fun gh kk wi => ∃ j : Nat, gh + j = findAt out x.key ∧ kk = .int .i64 j ∧ Only (fun _ => False) w2 wi)
            case atStart => exact ⟨0, by omega, rfl, Only.refl _ _⟩
            case round =>
              obtain ⟨j, hgj, rfl, hoi⟩ := hrel
              have HOI := Lib.hid hoi
              clear hoi
              have hrowx := row_item (HHV.out wr (HO2.out.trans HOI.out (fun _ _ q => q))) HX.out
              obtain ⟨g', off', he, x0, _, _⟩ := hrowx
              cases he
              have q9 : ∀ p : Grew wr, p.u.cell? ⟨g, off + k * 3, none⟩ = some (str x.key) := fun p => p.cell x0
              by_cases hjo : j < out.length
              · have hjo2 : (j : Int) < (out.length : Int) := by omega
                obtain ⟨y, hy⟩ : ∃ y, out[j]? = some y := ⟨_, List.getElem?_eq_getElem hjo⟩
                obtain ⟨gO, offO, rfl, y0, _, _⟩ := row_item (row_own (enc := itemC) (k := 3) (fun _ => rfl) (own_only HOW2.out HOI.out (fun _ _ => id))) hy
                have q8 : ∀ p : Grew wr, p.u.cell? ⟨gO, offO + j * 3, none⟩ = some (str y.key) := fun p => p.cell y0
                have hlt : j < findAt out x.key ↔ y.key < x.key := lt_findAt HRS.out x.key j y hy
                have hb : Op.bytesLess y.key x.key = decide (y.key < x.key) := bytesLess_eq y.key x.key
                have hw8 : IntKind.i64.wrap ((j : Int) + 1) = (j : Int) + 1 := by exact IntWalk.i64_in _ (by omega)
                by_cases hjf : j < findAt out x.key
                · rw [decide_eq_true (hlt.1 hjf)] at hb
                  clear x0 y0 hy hlt
                  go_wp2_with fail
                  refine wp_region_grew (by kernel_rfl) (by kernel_rfl) (fun _W h0 h1 => ?_)
                  repeat (refine h1 _ _ _ (fun K hK => ?_); go_simp; refine hK _ ?_; clear hK K)
                  refine h0 _ (fun p => ?_)
                  clear h0 h1
                  go_wp2_with fail
                  go_roundg (gk - 1)
                  case measure => omega
                  case rel => exact ⟨j + 1, by omega, by go_num, HOI.out.trans p.h (fun _ _ q => q)⟩
                · have HJ : Hid (j = findAt out x.key) := Lib.hid (by omega)
                  rw [decide_eq_false (fun q => hjf (hlt.2 q))] at hb
                  have HYY := Lib.hid (And.intro hy hlt)
                  clear x0 y0 hy hlt
                  go_wp2_with fail
                  refine wp_region_grew (by kernel_rfl) (by kernel_rfl) (fun _W h0 h1 => ?_)
                  repeat (refine h1 _ _ _ (fun K hK => ?_); go_simp; refine hK _ ?_; clear hK K)
                  refine h0 _ (fun p => ?_)
                  clear h0 h1
                  obtain ⟨w3, hw3⟩ : ∃ w3, p.u = w3 := ⟨_, rfl⟩
                  have HO3 := Lib.hid (HOI.out.trans p.h (fun _ _ q => q))
                  rw [hw3] at *
                  clear hw3 p HOI q8 q9
                  have hjeq := HJ.out
                  clear HJ
                  subst hjeq
                  have hcap : out.length ≤ cO ∧ offO = 0 := by
                    rcases HOW2.out.2 with ⟨q, _⟩ | ⟨_, _, _, q, _, _, h1, _⟩
                    · cases q
                    · cases q; exact ⟨h1, rfl⟩
                  obtain ⟨hcap, rfl⟩ := hcap
                  generalize hfd : findAt out x.key = p at *
                  have HFD := Lib.hid hfd
                  clear hfd
                  have hpc5 : (p : Int) ≤ (cO : Int) := by omega
                  have hpc : (p : Int) ≤ (out.length : Int) := by omega
                  have hpc2 : (out.length : Int) ≤ (cO : Int) := by omega
                  have hpc3 : p < cO := by omega
                  have hpc4 : (p : Int) < (cO : Int) := by omega
                  have hp0 : (0 : Int) ≤ (p : Int) := by omega
                  have hrowx3 := row_item (HHV.out w3 (HO2.out.trans HO3.out (fun _ _ q => q))) HX.out
                  obtain ⟨g'', off'', he, X0, X1, X2⟩ := hrowx3
                  cases he
                  have hOW3 := own_only HOW2.out HO3.out (fun _ _ => id)
                  have HOW3 := Lib.hid hOW3
                  obtain ⟨gO', offO', he, y0, _, _⟩ := row_item (row_own (enc := itemC) (k := 3) (fun _ => rfl) hOW3) HYY.out.1
                  cases he
                  simp only [Nat.zero_add] at y0
                  have q9 : ∀ p : Grew w3, p.u.cell? ⟨g, off + k * 3, none⟩ = some (str x.key) := fun p => p.cell X0
                  have q8 : ∀ q : Grew w3, q.u.cell? ⟨gO, p * 3, none⟩ = some (str y.key) := fun q => q.cell y0
                  clear hOW3 hb X0 X1 X2 y0
                  obtain ⟨beq, hbeq⟩ : ∃ beq, (y.key == x.key) = beq := ⟨_, rfl⟩
                  cases beq with
                  | false =>
                    go_wp2_with fail
                    refine wp_region_grew (by kernel_rfl) (by kernel_rfl) (fun _W h0 h1 => ?_)
                    repeat (refine h1 _ _ _ (fun K hK => ?_); go_simp; refine hK _ ?_; clear hK K)
                    refine h0 _ (fun p5 => ?_)
                    clear h0 h1 q8 q9
                    obtain ⟨w5, hw5⟩ : ∃ w5, p5.u = w5 := ⟨_, rfl⟩
                    have hO5 := p5.h
                    rw [hw5] at *
                    clear hw5 p5
                    have HO5 := Lib.hid (HO3.out.trans hO5 (fun _ _ q => q))
                    have HOW5 := Lib.hid (own_only HOW3.out hO5 (fun _ _ => id))
                    obtain ⟨g9, off9, he, X0, X1, X2⟩ := row_item (HHV.out w5 (HO2.out.trans HO5.out (fun _ _ q => q))) HX.out
                    cases he
                    clear hO5
                    have HPUT : Hid (putL out x = out.take p ++ x :: out.drop p) := Lib.hid (by
                      have hA : isAt out x.key = false := by
                        unfold isAt
                        rw [HFD.out, HYY.out.1]
                        exact hbeq
                      have := putL_insert hA
                      rwa [HFD.out] at this)
                    go_wp2_with fail
                    have HC1 : Hid (∀ W (hW : Only (fun _ => False) w5 W), ∀ ad, some (⟨gO, 0, none⟩ : Addr) = some ad → ∀ ji u, ((out.take p).flatMap itemC)[ji]? = some u → W.cell? (ad.add ji) = some u) := Lib.hid (fun W hW ad e => by cases e; simpa using row_cells3 (m := out.take p) (r := 0) HOW5.out hW (fun i z hz => by rw [List.getElem?_take] at hz; split at hz; rw [Nat.zero_add]; exact hz; cases hz))
                    have HC3 : Hid (∀ W (hW : Only (fun _ => False) w5 W), ∀ ad, some (⟨gO, p * 3, none⟩ : Addr) = some ad → ∀ ji u, ((out.drop (p)).flatMap itemC)[ji]? = some u → W.cell? (ad.add ji) = some u) := Lib.hid (fun W hW ad e => by cases e; exact row_cells3 (m := out.drop (p)) (r := p) HOW5.out hW (fun i z hz => by rw [List.getElem?_drop] at hz; exact hz))
                    have HN1 : Hid (some (⟨gO, 0, none⟩ : Addr) = none → p = 0 ∧ cO = 0) := Lib.hid (fun e => by cases e)
                    have HN3 : Hid (some (⟨gO, p * 3, none⟩ : Addr) = none → (out.length - (p)) = 0 ∧ (cO - p) = 0) := Lib.hid (fun e => by cases e)
                    have hl1 : ((out.take p).flatMap itemC).length = p * 3 := by rw [flatI_length, List.length_take, Nat.min_eq_left (by omega)]
                    have hl3 : ((out.drop (p)).flatMap itemC).length = (out.length - (p)) * 3 := by rw [flatI_length, List.length_drop]
                    have ho1 : ∀ u ∈ (out.take p).flatMap itemC, u.oneCell' = true := one_items _
                    have ho3 : ∀ u ∈ (out.drop (p)).flatMap itemC, u.oneCell' = true := one_items _
                    go_region_law (first
                      | (refine step_append_any _ rfl (.const (.slice none 0 0)) (.tmp 92) 22 rfl 29 i0 _ 3 40 Tryz.underlying22 hi hz0 hz1 hz2 rfl (by decide) (.slice none 0 0) 0 [] (by first | (simp [Act.eval]; done) | simp [Act.eval, Act.put]) ⟨rfl, .inl ⟨rfl, rfl⟩⟩ (some (⟨gO, 0, none⟩ : Addr)) p cO ((out.take p).flatMap itemC) (by first | (simp [Act.eval]; done) | simp [Act.eval, Act.put]) hl1 HN1.out (HC1.out _ (by first | exact (Only.refl _ w5).drew | exact (Only.refl _ w5).drew.alloc _)) ho1 (by unfold maxLen; omega) (by omega) ?_; intro a1 c1 wa1 own1 gr1 mv1; rw [Nat.zero_add, List.nil_append] at own1; rw [Nat.zero_add] at mv1; have hq1 := (Only.refl (fun _ => False) _).grown gr1 (fun k _ h => by cases h); have HW1 : Only (fun _ => False) w5 wa1 := (by first | exact ((Only.refl _ w5).drew).trans hq1 (fun _ _ q => q) | exact (((Only.refl _ w5).drew).alloc _).trans hq1 (fun _ _ q => q)); have Y0 := (HW1.cell (p := ⟨g, off + k * 3, none⟩) (lt_of_cell X0) (fun q => q)).trans X0; have Y1 := (HW1.cell (p := ⟨g, off + k * 3 + 1, none⟩) (lt_of_cell X1) (fun q => q)).trans X1; have Y2 := (HW1.cell (p := ⟨g, off + k * 3 + 2, none⟩) (lt_of_cell X2) (fun q => q)).trans X2; have hf1 : ∀ z, (Value.slice a1 p c1).ownBlock = some z → w5.heap.size ≤ z := fun z hz => by rcases mv1 z hz with e | e; cases e; simp at e; omega)
                      | (refine step_append_moved _ rfl (.tmp 93) (.tmp 98) 22 rfl 29 i0 _ 3 40 Tryz.underlying22 hi hz0 hz1 hz2 rfl (by decide) (.slice a1 p c1) p ((out.take p).flatMap itemC) (by first | (simp [Act.eval]; done) | simp [Act.eval, Act.put]) (own1.alloc _) ⟨wa1.heap.size, 0, none⟩ 1 1 [str x.key, str x.val, .int .i64 x.kind] (by first | (simp [Act.eval]; done) | simp [Act.eval, Act.put]) rfl (cells_new _ _ _ _) (by simp [Value.oneCell', str]) (by unfold maxLen; omega) (by omega) ?_; intro a2 c2 wa2 own2 gr2 mv2; have HW2 : Only (fun _ => False) w5 wa2 := (by first | exact HW1.grown gr2 (fun z hz e => by have := hf1 z e; omega) | exact (HW1.alloc _).grown gr2 (fun z hz e => by have := hf1 z e; omega)); have hf2 : ∀ z, (Value.slice a2 (p + 1) c2).ownBlock = some z → w5.heap.size ≤ z := fun z hz => by rcases mv2 z hz with e | e; exact hf1 z e; have := HW1.size; (try simp at e); omega)
                      | (refine step_append_moved _ rfl (.tmp 93) (.tmp 98) 22 rfl 29 i0 _ 3 40 Tryz.underlying22 hi hz0 hz1 hz2 rfl (by decide) (.slice a1 p c1) p ((out.take p).flatMap itemC) (by first | (simp [Act.eval]; done) | simp [Act.eval, Act.put]) own1 ⟨w5.heap.size, 0, none⟩ 1 1 [str x.key, str x.val, .int .i64 x.kind] (by first | (simp [Act.eval]; done) | simp [Act.eval, Act.put]) rfl (cells_later (W := w5.drew) _ _ hq1) (by simp [Value.oneCell', str]) (by unfold maxLen; omega) (by omega) ?_; intro a2 c2 wa2 own2 gr2 mv2; have HW2 : Only (fun _ => False) w5 wa2 := (by first | exact HW1.grown gr2 (fun z hz e => by have := hf1 z e; omega) | exact (HW1.alloc _).grown gr2 (fun z hz e => by have := hf1 z e; omega)); have hf2 : ∀ z, (Value.slice a2 (p + 1) c2).ownBlock = some z → w5.heap.size ≤ z := fun z hz => by rcases mv2 z hz with e | e; exact hf1 z e; have := HW1.size; (try simp at e); omega)
                      | (refine step_append_any _ rfl (.tmp 99) (.tmp 100) 22 rfl 29 i0 _ 3 40 Tryz.underlying22 hi hz0 hz1 hz2 rfl (by decide) (.slice a2 (p + 1) c2) (p + 1) _ (by first | (simp [Act.eval]; done) | simp [Act.eval, Act.put]) own2 (some (⟨gO, p * 3, none⟩ : Addr)) (out.length - (p)) (cO - p) ((out.drop (p)).flatMap itemC) (by first | (simp [Act.eval]; done) | simp [Act.eval, Act.put]) hl3 HN3.out (HC3.out _ HW2) ho3 (by unfold maxLen; omega) (by omega) ?_; intro a3 c3 wa3 own3 gr3 mv3; have HWS := Lib.hid HW2.size; have HFIN := Lib.hid (And.intro own3 (And.intro (HW2.grown gr3 (fun z hz e => by have := hf2 z e; omega)) (And.intro mv3 hf2))); clear own3 gr3 mv3))
                    all_goals
                      go_wp2_with fail
                      go_roundg (l.length - (k + 1))
                      case measure => omega
                      case rel =>
                        obtain ⟨own3, ow3, mv3, hf2⟩ := HFIN.out
                        have hput : putL out x = out.take p ++ x :: out.drop (p) := HPUT.out
                        have hplen : (putL out x).length = p + 1 + (out.length - (p)) := by rw [hput]; simp only [List.length_append, List.length_take, List.length_cons, List.length_drop]; omega
                        have hpcell : (putL out x).flatMap itemC = (out.take p).flatMap itemC ++ [str x.key, str x.val, .int .i64 x.kind] ++ (out.drop (p)).flatMap itemC := by rw [hput, List.flatMap_append, List.flatMap_cons, List.append_assoc]; rfl
                        refine ⟨k + 1, by omega, by go_num, by rw [HNX.out, hplen, hpcell]; exact own3, (HO2.out.trans HO5.out (fun _ _ q => q)).trans ow3 (fun _ _ q => q), fun z hz => ?_⟩
                        have hs5 := (HO2.out.trans HO5.out (fun _ _ q => q)).size
                        rcases mv3 z hz with e | e
                        · have := hf2 z e; omega
                        · have := HWS.out; omega
                  | true =>
                    have hbe : (x.key == x.key) = true := by simp
                    have hw18 : IntKind.i64.wrap ((p : Int) + 1) = (p : Int) + 1 := by exact IntWalk.i64_in _ (by omega)
                    have hyx : y.key = x.key := by simpa using hbeq
                    have HSET : Hid (putL out x = out.take p ++ x :: out.drop (p + 1)) := Lib.hid (by
                      have hA : isAt out x.key = true := by
                        unfold isAt
                        rw [HFD.out, HYY.out.1]
                        exact hbeq
                      have := (putL_set hA).2
                      rw [HFD.out] at this
                      rw [this, List.set_eq_take_append_cons_drop, if_pos (by omega)])
                    rw [hyx] at q8
                    go_wp2_with fail
                    refine wp_region_grew (by kernel_rfl) (by kernel_rfl) (fun _W h0 h1 => ?_)
                    repeat (refine h1 _ _ _ (fun K hK => ?_); go_simp; refine hK _ ?_; clear hK K)
                    refine h0 _ (fun p5 => ?_)
                    clear h0 h1 q8 q9
                    obtain ⟨w5, hw5⟩ : ∃ w5, p5.u = w5 := ⟨_, rfl⟩
                    have hO5 := p5.h
                    rw [hw5] at *
                    clear hw5 p5
                    have HO5 := Lib.hid (HO3.out.trans hO5 (fun _ _ q => q))
                    have HOW5 := Lib.hid (own_only HOW3.out hO5 (fun _ _ => id))
                    obtain ⟨g9, off9, he, X0, X1, X2⟩ := row_item (HHV.out w5 (HO2.out.trans HO5.out (fun _ _ q => q))) HX.out
                    cases he
                    clear hO5 hyx hbe hbeq
                    have HPUT := HSET
                    clear HSET
                    by_cases hcc : cO = p + 1
                    · have hpc6 : (p : Int) ≤ (p : Int) + 1 := by omega
                      subst hcc
                      go_wp2_with fail
                      have HC1 : Hid (∀ W (hW : Only (fun _ => False) w5 W), ∀ ad, some (⟨gO, 0, none⟩ : Addr) = some ad → ∀ ji u, ((out.take p).flatMap itemC)[ji]? = some u → W.cell? (ad.add ji) = some u) := Lib.hid (fun W hW ad e => by cases e; simpa using row_cells3 (m := out.take p) (r := 0) HOW5.out hW (fun i z hz => by rw [List.getElem?_take] at hz; split at hz; rw [Nat.zero_add]; exact hz; cases hz))
                      have HC3 : Hid (∀ W (hW : Only (fun _ => False) w5 W), ∀ ad, some (⟨gO, 0, none⟩ : Addr) = some ad → ∀ ji u, ((([] : List Item)).flatMap itemC)[ji]? = some u → W.cell? (ad.add ji) = some u) := Lib.hid (fun W hW ad e ji u hu => by cases hu)
                      have HN1 : Hid (some (⟨gO, 0, none⟩ : Addr) = none → p = 0 ∧ (p + 1) = 0) := Lib.hid (fun e => by cases e)
                      have HN3 : Hid (some (⟨gO, 0, none⟩ : Addr) = none → 0 = 0 ∧ 0 = 0) := Lib.hid (fun _ => ⟨rfl, rfl⟩)
                      have hl1 : ((out.take p).flatMap itemC).length = p * 3 := by rw [flatI_length, List.length_take, Nat.min_eq_left (by omega)]
                      have hl3 : ((([] : List Item)).flatMap itemC).length = 0 * 3 := rfl
                      have ho1 : ∀ u ∈ (out.take p).flatMap itemC, u.oneCell' = true := one_items _
                      have ho3 : ∀ u ∈ (([] : List Item)).flatMap itemC, u.oneCell' = true := one_items _
                      go_region_law (first
                        | (refine step_append_any _ rfl (.const (.slice none 0 0)) (.tmp 92) 22 rfl 29 i0 _ 3 40 Tryz.underlying22 hi hz0 hz1 hz2 rfl (by decide) (.slice none 0 0) 0 [] (by first | (simp [Act.eval]; done) | simp [Act.eval, Act.put]) ⟨rfl, .inl ⟨rfl, rfl⟩⟩ (some (⟨gO, 0, none⟩ : Addr)) p (p + 1) ((out.take p).flatMap itemC) (by first | (simp [Act.eval]; done) | simp [Act.eval, Act.put]) hl1 HN1.out (HC1.out _ (by first | exact (Only.refl _ w5).drew | exact (Only.refl _ w5).drew.alloc _)) ho1 (by unfold maxLen; omega) (by omega) ?_; intro a1 c1 wa1 own1 gr1 mv1; rw [Nat.zero_add, List.nil_append] at own1; rw [Nat.zero_add] at mv1; have hq1 := (Only.refl (fun _ => False) _).grown gr1 (fun k _ h => by cases h); have HW1 : Only (fun _ => False) w5 wa1 := (by first | exact ((Only.refl _ w5).drew).trans hq1 (fun _ _ q => q) | exact (((Only.refl _ w5).drew).alloc _).trans hq1 (fun _ _ q => q)); have Y0 := (HW1.cell (p := ⟨g, off + k * 3, none⟩) (lt_of_cell X0) (fun q => q)).trans X0; have Y1 := (HW1.cell (p := ⟨g, off + k * 3 + 1, none⟩) (lt_of_cell X1) (fun q => q)).trans X1; have Y2 := (HW1.cell (p := ⟨g, off + k * 3 + 2, none⟩) (lt_of_cell X2) (fun q => q)).trans X2; have hf1 : ∀ z, (Value.slice a1 p c1).ownBlock = some z → w5.heap.size ≤ z := fun z hz => by rcases mv1 z hz with e | e; cases e; simp at e; omega)
                        | (refine step_append_moved _ rfl (.tmp 93) (.tmp 98) 22 rfl 29 i0 _ 3 40 Tryz.underlying22 hi hz0 hz1 hz2 rfl (by decide) (.slice a1 p c1) p ((out.take p).flatMap itemC) (by first | (simp [Act.eval]; done) | simp [Act.eval, Act.put]) (own1.alloc _) ⟨wa1.heap.size, 0, none⟩ 1 1 [str x.key, str x.val, .int .i64 x.kind] (by first | (simp [Act.eval]; done) | simp [Act.eval, Act.put]) rfl (cells_new _ _ _ _) (by simp [Value.oneCell', str]) (by unfold maxLen; omega) (by omega) ?_; intro a2 c2 wa2 own2 gr2 mv2; have HW2 : Only (fun _ => False) w5 wa2 := (by first | exact HW1.grown gr2 (fun z hz e => by have := hf1 z e; omega) | exact (HW1.alloc _).grown gr2 (fun z hz e => by have := hf1 z e; omega)); have hf2 : ∀ z, (Value.slice a2 (p + 1) c2).ownBlock = some z → w5.heap.size ≤ z := fun z hz => by rcases mv2 z hz with e | e; exact hf1 z e; have := HW1.size; (try simp at e); omega)
                        | (refine step_append_moved _ rfl (.tmp 93) (.tmp 98) 22 rfl 29 i0 _ 3 40 Tryz.underlying22 hi hz0 hz1 hz2 rfl (by decide) (.slice a1 p c1) p ((out.take p).flatMap itemC) (by first | (simp [Act.eval]; done) | simp [Act.eval, Act.put]) own1 ⟨w5.heap.size, 0, none⟩ 1 1 [str x.key, str x.val, .int .i64 x.kind] (by first | (simp [Act.eval]; done) | simp [Act.eval, Act.put]) rfl (cells_later (W := w5.drew) _ _ hq1) (by simp [Value.oneCell', str]) (by unfold maxLen; omega) (by omega) ?_; intro a2 c2 wa2 own2 gr2 mv2; have HW2 : Only (fun _ => False) w5 wa2 := (by first | exact HW1.grown gr2 (fun z hz e => by have := hf1 z e; omega) | exact (HW1.alloc _).grown gr2 (fun z hz e => by have := hf1 z e; omega)); have hf2 : ∀ z, (Value.slice a2 (p + 1) c2).ownBlock = some z → w5.heap.size ≤ z := fun z hz => by rcases mv2 z hz with e | e; exact hf1 z e; have := HW1.size; (try simp at e); omega)
                        | (refine step_append_any _ rfl (.tmp 99) (.tmp 100) 22 rfl 29 i0 _ 3 40 Tryz.underlying22 hi hz0 hz1 hz2 rfl (by decide) (.slice a2 (p + 1) c2) (p + 1) _ (by first | (simp [Act.eval]; done) | simp [Act.eval, Act.put]) own2 (some (⟨gO, 0, none⟩ : Addr)) 0 0 ((([] : List Item)).flatMap itemC) (by first | (simp [Act.eval]; done) | simp [Act.eval, Act.put]) hl3 HN3.out (HC3.out _ HW2) ho3 (by unfold maxLen; omega) (by omega) ?_; intro a3 c3 wa3 own3 gr3 mv3; have HWS := Lib.hid HW2.size; have HFIN := Lib.hid (And.intro own3 (And.intro (HW2.grown gr3 (fun z hz e => by have := hf2 z e; omega)) (And.intro mv3 hf2))); clear own3 gr3 mv3))
                      all_goals
                        go_wp2_with fail
                        go_roundg (l.length - (k + 1))
                        case measure => omega
                        case rel =>
                          obtain ⟨own3, ow3, mv3, hf2⟩ := HFIN.out
                          have hput : putL out x = out.take p ++ x :: ([] : List Item) := by have := HPUT.out; rwa [List.drop_eq_nil_of_le (by have := (cap_own HOW5.out).1; omega)] at this
                          have hplen : (putL out x).length = p + 1 + 0 := by rw [hput]; simp only [List.length_append, List.length_take, List.length_cons, List.length_nil]; omega
                          have hpcell : (putL out x).flatMap itemC = (out.take p).flatMap itemC ++ [str x.key, str x.val, .int .i64 x.kind] ++ (([] : List Item)).flatMap itemC := by rw [hput, List.flatMap_append, List.flatMap_cons, List.append_assoc]; rfl
                          refine ⟨k + 1, by omega, by go_num, by rw [HNX.out, hplen, hpcell]; exact own3, (HO2.out.trans HO5.out (fun _ _ q => q)).trans ow3 (fun _ _ q => q), fun z hz => ?_⟩
                          have hs5 := (HO2.out.trans HO5.out (fun _ _ q => q)).size
                          rcases mv3 z hz with e | e
                          · have := hf2 z e; omega
                          · have := HWS.out; omega
                    · have hcc2 : (p : Int) + 1 < (cO : Int) := by omega
                      go_wp2_with fail
                      have HC1 : Hid (∀ W (hW : Only (fun _ => False) w5 W), ∀ ad, some (⟨gO, 0, none⟩ : Addr) = some ad → ∀ ji u, ((out.take p).flatMap itemC)[ji]? = some u → W.cell? (ad.add ji) = some u) := Lib.hid (fun W hW ad e => by cases e; simpa using row_cells3 (m := out.take p) (r := 0) HOW5.out hW (fun i z hz => by rw [List.getElem?_take] at hz; split at hz; rw [Nat.zero_add]; exact hz; cases hz))
                      have HC3 : Hid (∀ W (hW : Only (fun _ => False) w5 W), ∀ ad, some (⟨gO, (p + 1) * 3, none⟩ : Addr) = some ad → ∀ ji u, ((out.drop (p + 1)).flatMap itemC)[ji]? = some u → W.cell? (ad.add ji) = some u) := Lib.hid (fun W hW ad e => by cases e; exact row_cells3 (m := out.drop (p + 1)) (r := p + 1) HOW5.out hW (fun i z hz => by rw [List.getElem?_drop] at hz; exact hz))
                      have HN1 : Hid (some (⟨gO, 0, none⟩ : Addr) = none → p = 0 ∧ cO = 0) := Lib.hid (fun e => by cases e)
                      have HN3 : Hid (some (⟨gO, (p + 1) * 3, none⟩ : Addr) = none → (out.length - (p + 1)) = 0 ∧ (cO - (p + 1)) = 0) := Lib.hid (fun e => by cases e)
                      have hl1 : ((out.take p).flatMap itemC).length = p * 3 := by rw [flatI_length, List.length_take, Nat.min_eq_left (by omega)]
                      have hl3 : ((out.drop (p + 1)).flatMap itemC).length = (out.length - (p + 1)) * 3 := by rw [flatI_length, List.length_drop]
                      have ho1 : ∀ u ∈ (out.take p).flatMap itemC, u.oneCell' = true := one_items _
                      have ho3 : ∀ u ∈ (out.drop (p + 1)).flatMap itemC, u.oneCell' = true := one_items _
                      go_region_law (first
                        | (refine step_append_any _ rfl (.const (.slice none 0 0)) (.tmp 92) 22 rfl 29 i0 _ 3 40 Tryz.underlying22 hi hz0 hz1 hz2 rfl (by decide) (.slice none 0 0) 0 [] (by first | (simp [Act.eval]; done) | simp [Act.eval, Act.put]) ⟨rfl, .inl ⟨rfl, rfl⟩⟩ (some (⟨gO, 0, none⟩ : Addr)) p cO ((out.take p).flatMap itemC) (by first | (simp [Act.eval]; done) | simp [Act.eval, Act.put]) hl1 HN1.out (HC1.out _ (by first | exact (Only.refl _ w5).drew | exact (Only.refl _ w5).drew.alloc _)) ho1 (by unfold maxLen; omega) (by omega) ?_; intro a1 c1 wa1 own1 gr1 mv1; rw [Nat.zero_add, List.nil_append] at own1; rw [Nat.zero_add] at mv1; have hq1 := (Only.refl (fun _ => False) _).grown gr1 (fun k _ h => by cases h); have HW1 : Only (fun _ => False) w5 wa1 := (by first | exact ((Only.refl _ w5).drew).trans hq1 (fun _ _ q => q) | exact (((Only.refl _ w5).drew).alloc _).trans hq1 (fun _ _ q => q)); have Y0 := (HW1.cell (p := ⟨g, off + k * 3, none⟩) (lt_of_cell X0) (fun q => q)).trans X0; have Y1 := (HW1.cell (p := ⟨g, off + k * 3 + 1, none⟩) (lt_of_cell X1) (fun q => q)).trans X1; have Y2 := (HW1.cell (p := ⟨g, off + k * 3 + 2, none⟩) (lt_of_cell X2) (fun q => q)).trans X2; have hf1 : ∀ z, (Value.slice a1 p c1).ownBlock = some z → w5.heap.size ≤ z := fun z hz => by rcases mv1 z hz with e | e; cases e; simp at e; omega)
                        | (refine step_append_moved _ rfl (.tmp 93) (.tmp 98) 22 rfl 29 i0 _ 3 40 Tryz.underlying22 hi hz0 hz1 hz2 rfl (by decide) (.slice a1 p c1) p ((out.take p).flatMap itemC) (by first | (simp [Act.eval]; done) | simp [Act.eval, Act.put]) (own1.alloc _) ⟨wa1.heap.size, 0, none⟩ 1 1 [str x.key, str x.val, .int .i64 x.kind] (by first | (simp [Act.eval]; done) | simp [Act.eval, Act.put]) rfl (cells_new _ _ _ _) (by simp [Value.oneCell', str]) (by unfold maxLen; omega) (by omega) ?_; intro a2 c2 wa2 own2 gr2 mv2; have HW2 : Only (fun _ => False) w5 wa2 := (by first | exact HW1.grown gr2 (fun z hz e => by have := hf1 z e; omega) | exact (HW1.alloc _).grown gr2 (fun z hz e => by have := hf1 z e; omega)); have hf2 : ∀ z, (Value.slice a2 (p + 1) c2).ownBlock = some z → w5.heap.size ≤ z := fun z hz => by rcases mv2 z hz with e | e; exact hf1 z e; have := HW1.size; (try simp at e); omega)
                        | (refine step_append_moved _ rfl (.tmp 93) (.tmp 98) 22 rfl 29 i0 _ 3 40 Tryz.underlying22 hi hz0 hz1 hz2 rfl (by decide) (.slice a1 p c1) p ((out.take p).flatMap itemC) (by first | (simp [Act.eval]; done) | simp [Act.eval, Act.put]) own1 ⟨w5.heap.size, 0, none⟩ 1 1 [str x.key, str x.val, .int .i64 x.kind] (by first | (simp [Act.eval]; done) | simp [Act.eval, Act.put]) rfl (cells_later (W := w5.drew) _ _ hq1) (by simp [Value.oneCell', str]) (by unfold maxLen; omega) (by omega) ?_; intro a2 c2 wa2 own2 gr2 mv2; have HW2 : Only (fun _ => False) w5 wa2 := (by first | exact HW1.grown gr2 (fun z hz e => by have := hf1 z e; omega) | exact (HW1.alloc _).grown gr2 (fun z hz e => by have := hf1 z e; omega)); have hf2 : ∀ z, (Value.slice a2 (p + 1) c2).ownBlock = some z → w5.heap.size ≤ z := fun z hz => by rcases mv2 z hz with e | e; exact hf1 z e; have := HW1.size; (try simp at e); omega)
                        | (refine step_append_any _ rfl (.tmp 99) (.tmp 100) 22 rfl 29 i0 _ 3 40 Tryz.underlying22 hi hz0 hz1 hz2 rfl (by decide) (.slice a2 (p + 1) c2) (p + 1) _ (by first | (simp [Act.eval]; done) | simp [Act.eval, Act.put]) own2 (some (⟨gO, (p + 1) * 3, none⟩ : Addr)) (out.length - (p + 1)) (cO - (p + 1)) ((out.drop (p + 1)).flatMap itemC) (by first | (simp [Act.eval]; done) | simp [Act.eval, Act.put]) hl3 HN3.out (HC3.out _ HW2) ho3 (by unfold maxLen; omega) (by omega) ?_; intro a3 c3 wa3 own3 gr3 mv3; have HWS := Lib.hid HW2.size; have HFIN := Lib.hid (And.intro own3 (And.intro (HW2.grown gr3 (fun z hz e => by have := hf2 z e; omega)) (And.intro mv3 hf2))); clear own3 gr3 mv3))
                      all_goals
                        go_wp2_with fail
                        go_roundg (l.length - (k + 1))
                        case measure => omega
                        case rel =>
                          obtain ⟨own3, ow3, mv3, hf2⟩ := HFIN.out
                          have hput : putL out x = out.take p ++ x :: out.drop (p + 1) := HPUT.out
                          have hplen : (putL out x).length = p + 1 + (out.length - (p + 1)) := by rw [hput]; simp only [List.length_append, List.length_take, List.length_cons, List.length_drop]; omega
                          have hpcell : (putL out x).flatMap itemC = (out.take p).flatMap itemC ++ [str x.key, str x.val, .int .i64 x.kind] ++ (out.drop (p + 1)).flatMap itemC := by rw [hput, List.flatMap_append, List.flatMap_cons, List.append_assoc]; rfl
                          refine ⟨k + 1, by omega, by go_num, by rw [HNX.out, hplen, hpcell]; exact own3, (HO2.out.trans HO5.out (fun _ _ q => q)).trans ow3 (fun _ _ q => q), fun z hz => ?_⟩
                          have hs5 := (HO2.out.trans HO5.out (fun _ _ q => q)).size
                          rcases mv3 z hz with e | e
                          · have := hf2 z e; omega
                          · have := HWS.out; omega
              · have hjo2 : ¬ (j : Int) < (out.length : Int) := by omega
                have hjl : j = out.length := by omega
                have HPUT : Hid (putL out x = out.take j ++ x :: out.drop j) := Lib.hid (by
                  have hf : findAt out x.key = j := by omega
                  have hA : isAt out x.key = false := by
                    unfold isAt
                    rw [hf, List.getElem?_eq_none (by omega)]
                  have := putL_insert hA
                  rwa [hf] at this)
                have hcap : out.length ≤ cO := (cap_own HOW2.out).1
                have hpc5 : (j : Int) ≤ (cO : Int) := by omega
                have hpc : (j : Int) ≤ (out.length : Int) := by omega
                have hpc2 : (out.length : Int) ≤ (cO : Int) := by omega
                have hp0 : (0 : Int) ≤ (j : Int) := by omega
                have HJL := Lib.hid hjl
                clear hjl
                go_wp2_with fail
                refine wp_region_grew (by kernel_rfl) (by kernel_rfl) (fun _W h0 h1 => ?_)
                repeat (refine h1 _ _ _ (fun K hK => ?_); go_simp; refine hK _ ?_; clear hK K)
                refine h0 _ (fun p => ?_)
                clear h0 h1
                obtain ⟨w3, hw3⟩ : ∃ w3, p.u = w3 := ⟨_, rfl⟩
                have HO3 := Lib.hid (HOI.out.trans p.h (fun _ _ q => q))
                rw [hw3] at *
                clear hw3 p HOI q9
                by_cases hcc : cO = j
                · subst hcc
                  go_wp2_with fail
                  refine wp_region_grew (by kernel_rfl) (by kernel_rfl) (fun _W h0 h1 => ?_)
                  repeat (refine h1 _ _ _ (fun K hK => ?_); go_simp; refine hK _ ?_; clear hK K)
                  refine h0 _ (fun p5 => ?_)
                  clear h0 h1
                  obtain ⟨w5, hw5⟩ : ∃ w5, p5.u = w5 := ⟨_, rfl⟩
                  have hO5 := HO3.out.trans p5.h (fun _ _ q => q)
                  rw [hw5] at *
                  clear hw5 p5
                  have HO5 := Lib.hid hO5
                  have HOW5 := Lib.hid (own_only HOW2.out hO5 (fun _ _ => id))
                  obtain ⟨g9, off9, he, X0, X1, X2⟩ := row_item (HHV.out w5 (HO2.out.trans HO5.out (fun _ _ q => q))) HX.out
                  cases he
                  clear hO5
                  go_wp2_with fail
                  have HC1 : Hid (∀ W (hW : Only (fun _ => False) w5 W), ∀ ad, aO = some ad → ∀ ji u, ((out.take cO).flatMap itemC)[ji]? = some u → W.cell? (ad.add ji) = some u) := Lib.hid (fun W hW ad e => by rcases own_addr HOW5.out with ⟨rfl, _, _⟩ | ⟨g3, rfl⟩ <;> cases e; simpa using row_cells3 (m := out.take cO) (r := 0) HOW5.out hW (fun i z hz => by rw [List.getElem?_take] at hz; split at hz; rw [Nat.zero_add]; exact hz; cases hz))
                  have HC3 : Hid (∀ W (hW : Only (fun _ => False) w5 W), ∀ ad, aO = some ad → ∀ ji u, ((([] : List Item)).flatMap itemC)[ji]? = some u → W.cell? (ad.add ji) = some u) := Lib.hid (fun W hW ad e ji u hu => by cases hu)
                  have HN1 : Hid (aO = none → cO = 0 ∧ cO = 0) := Lib.hid (fun e => by rcases own_addr HOW5.out with ⟨_, _, h3⟩ | ⟨g3, rfl⟩; exact ⟨h3, h3⟩; cases e)
                  have HN3 : Hid (aO = none → 0 = 0 ∧ 0 = 0) := Lib.hid (fun _ => ⟨rfl, rfl⟩)
                  have hl1 : ((out.take cO).flatMap itemC).length = cO * 3 := by rw [flatI_length, List.length_take, Nat.min_eq_left (by omega)]
                  have hl3 : ((([] : List Item)).flatMap itemC).length = 0 * 3 := rfl
                  have ho1 : ∀ u ∈ (out.take cO).flatMap itemC, u.oneCell' = true := one_items _
                  have ho3 : ∀ u ∈ (([] : List Item)).flatMap itemC, u.oneCell' = true := one_items _
                  go_region_law (first
                    | (refine step_append_any _ rfl (.const (.slice none 0 0)) (.tmp 92) 22 rfl 29 i0 _ 3 40 Tryz.underlying22 hi hz0 hz1 hz2 rfl (by decide) (.slice none 0 0) 0 [] (by first | (simp [Act.eval]; done) | simp [Act.eval, Act.put]) ⟨rfl, .inl ⟨rfl, rfl⟩⟩ (aO) cO cO ((out.take cO).flatMap itemC) (by first | (simp [Act.eval]; done) | simp [Act.eval, Act.put]) hl1 HN1.out (HC1.out _ (by first | exact (Only.refl _ w5).drew | exact (Only.refl _ w5).drew.alloc _)) ho1 (by unfold maxLen; omega) (by omega) ?_; intro a1 c1 wa1 own1 gr1 mv1; rw [Nat.zero_add, List.nil_append] at own1; rw [Nat.zero_add] at mv1; have hq1 := (Only.refl (fun _ => False) _).grown gr1 (fun k _ h => by cases h); have HW1 : Only (fun _ => False) w5 wa1 := (by first | exact ((Only.refl _ w5).drew).trans hq1 (fun _ _ q => q) | exact (((Only.refl _ w5).drew).alloc _).trans hq1 (fun _ _ q => q)); have Y0 := (HW1.cell (p := ⟨g, off + k * 3, none⟩) (lt_of_cell X0) (fun q => q)).trans X0; have Y1 := (HW1.cell (p := ⟨g, off + k * 3 + 1, none⟩) (lt_of_cell X1) (fun q => q)).trans X1; have Y2 := (HW1.cell (p := ⟨g, off + k * 3 + 2, none⟩) (lt_of_cell X2) (fun q => q)).trans X2; have hf1 : ∀ z, (Value.slice a1 cO c1).ownBlock = some z → w5.heap.size ≤ z := fun z hz => by rcases mv1 z hz with e | e; cases e; simp at e; omega)
                    | (refine step_append_moved _ rfl (.tmp 93) (.tmp 98) 22 rfl 29 i0 _ 3 40 Tryz.underlying22 hi hz0 hz1 hz2 rfl (by decide) (.slice a1 cO c1) cO ((out.take cO).flatMap itemC) (by first | (simp [Act.eval]; done) | simp [Act.eval, Act.put]) (own1.alloc _) ⟨wa1.heap.size, 0, none⟩ 1 1 [str x.key, str x.val, .int .i64 x.kind] (by first | (simp [Act.eval]; done) | simp [Act.eval, Act.put]) rfl (cells_new _ _ _ _) (by simp [Value.oneCell', str]) (by unfold maxLen; omega) (by omega) ?_; intro a2 c2 wa2 own2 gr2 mv2; have HW2 : Only (fun _ => False) w5 wa2 := (by first | exact HW1.grown gr2 (fun z hz e => by have := hf1 z e; omega) | exact (HW1.alloc _).grown gr2 (fun z hz e => by have := hf1 z e; omega)); have hf2 : ∀ z, (Value.slice a2 (cO + 1) c2).ownBlock = some z → w5.heap.size ≤ z := fun z hz => by rcases mv2 z hz with e | e; exact hf1 z e; have := HW1.size; (try simp at e); omega)
                    | (refine step_append_moved _ rfl (.tmp 93) (.tmp 98) 22 rfl 29 i0 _ 3 40 Tryz.underlying22 hi hz0 hz1 hz2 rfl (by decide) (.slice a1 cO c1) cO ((out.take cO).flatMap itemC) (by first | (simp [Act.eval]; done) | simp [Act.eval, Act.put]) own1 ⟨w5.heap.size, 0, none⟩ 1 1 [str x.key, str x.val, .int .i64 x.kind] (by first | (simp [Act.eval]; done) | simp [Act.eval, Act.put]) rfl (cells_later (W := w5.drew) _ _ hq1) (by simp [Value.oneCell', str]) (by unfold maxLen; omega) (by omega) ?_; intro a2 c2 wa2 own2 gr2 mv2; have HW2 : Only (fun _ => False) w5 wa2 := (by first | exact HW1.grown gr2 (fun z hz e => by have := hf1 z e; omega) | exact (HW1.alloc _).grown gr2 (fun z hz e => by have := hf1 z e; omega)); have hf2 : ∀ z, (Value.slice a2 (cO + 1) c2).ownBlock = some z → w5.heap.size ≤ z := fun z hz => by rcases mv2 z hz with e | e; exact hf1 z e; have := HW1.size; (try simp at e); omega)
                    | (refine step_append_any _ rfl (.tmp 99) (.tmp 100) 22 rfl 29 i0 _ 3 40 Tryz.underlying22 hi hz0 hz1 hz2 rfl (by decide) (.slice a2 (cO + 1) c2) (cO + 1) _ (by first | (simp [Act.eval]; done) | simp [Act.eval, Act.put]) own2 (aO) 0 0 ((([] : List Item)).flatMap itemC) (by first | (simp [Act.eval]; done) | simp [Act.eval, Act.put]) hl3 HN3.out (HC3.out _ HW2) ho3 (by unfold maxLen; omega) (by omega) ?_; intro a3 c3 wa3 own3 gr3 mv3; have HWS := Lib.hid HW2.size; have HFIN := Lib.hid (And.intro own3 (And.intro (HW2.grown gr3 (fun z hz e => by have := hf2 z e; omega)) (And.intro mv3 hf2))); clear own3 gr3 mv3))
                  all_goals
                    go_wp2_with fail
                    go_roundg (l.length - (k + 1))
                    case measure => omega
                    case rel =>
                      obtain ⟨own3, ow3, mv3, hf2⟩ := HFIN.out
                      have hput : putL out x = out.take cO ++ x :: ([] : List Item) := by have := HPUT.out; rwa [List.drop_eq_nil_of_le (by have := HJL.out; omega)] at this
                      have hplen : (putL out x).length = cO + 1 + 0 := by rw [hput]; simp only [List.length_append, List.length_take, List.length_cons, List.length_nil]; omega
                      have hpcell : (putL out x).flatMap itemC = (out.take cO).flatMap itemC ++ [str x.key, str x.val, .int .i64 x.kind] ++ (([] : List Item)).flatMap itemC := by rw [hput, List.flatMap_append, List.flatMap_cons, List.append_assoc]; rfl
                      refine ⟨k + 1, by omega, by go_num, by rw [HNX.out, hplen, hpcell]; exact own3, (HO2.out.trans HO5.out (fun _ _ q => q)).trans ow3 (fun _ _ q => q), fun z hz => ?_⟩
                      have hs5 := (HO2.out.trans HO5.out (fun _ _ q => q)).size
                      rcases mv3 z hz with e | e
                      · have := hf2 z e; omega
                      · have := HWS.out; omega
                · have hcc2 : (j : Int) < (cO : Int) := by omega
                  obtain ⟨gO, rfl⟩ : ∃ gO, aO = some ⟨gO, 0, none⟩ := by
                    rcases own_addr HOW2.out with ⟨_, _, q⟩ | q
                    · have := HJL.out; omega
                    · exact q
                  go_wp2_with fail
                  refine wp_region_grew (by kernel_rfl) (by kernel_rfl) (fun _W h0 h1 => ?_)
                  repeat (refine h1 _ _ _ (fun K hK => ?_); go_simp; refine hK _ ?_; clear hK K)
                  refine h0 _ (fun p5 => ?_)
                  clear h0 h1
                  obtain ⟨w5, hw5⟩ : ∃ w5, p5.u = w5 := ⟨_, rfl⟩
                  have hO5 := HO3.out.trans p5.h (fun _ _ q => q)
                  rw [hw5] at *
                  clear hw5 p5
                  have HO5 := Lib.hid hO5
                  have HOW5 := Lib.hid (own_only HOW2.out hO5 (fun _ _ => id))
                  obtain ⟨g9, off9, he, X0, X1, X2⟩ := row_item (HHV.out w5 (HO2.out.trans HO5.out (fun _ _ q => q))) HX.out
                  cases he
                  clear hO5
                  go_wp2_with fail
                  have HC1 : Hid (∀ W (hW : Only (fun _ => False) w5 W), ∀ ad, some (⟨gO, 0, none⟩ : Addr) = some ad → ∀ ji u, ((out.take j).flatMap itemC)[ji]? = some u → W.cell? (ad.add ji) = some u) := Lib.hid (fun W hW ad e => by cases e; simpa using row_cells3 (m := out.take j) (r := 0) HOW5.out hW (fun i z hz => by rw [List.getElem?_take] at hz; split at hz; rw [Nat.zero_add]; exact hz; cases hz))
                  have HC3 : Hid (∀ W (hW : Only (fun _ => False) w5 W), ∀ ad, some (⟨gO, j * 3, none⟩ : Addr) = some ad → ∀ ji u, ((out.drop (j)).flatMap itemC)[ji]? = some u → W.cell? (ad.add ji) = some u) := Lib.hid (fun W hW ad e ji u hu => by rw [List.drop_eq_nil_of_le (by have := HJL.out; omega)] at hu; cases hu)
                  have HN1 : Hid (some (⟨gO, 0, none⟩ : Addr) = none → j = 0 ∧ cO = 0) := Lib.hid (fun e => by cases e)
                  have HN3 : Hid (some (⟨gO, j * 3, none⟩ : Addr) = none → (out.length - (j)) = 0 ∧ (cO - j) = 0) := Lib.hid (fun e => by cases e)
                  have hl1 : ((out.take j).flatMap itemC).length = j * 3 := by rw [flatI_length, List.length_take, Nat.min_eq_left (by omega)]
                  have hl3 : ((out.drop (j)).flatMap itemC).length = (out.length - (j)) * 3 := by rw [flatI_length, List.length_drop]
                  have ho1 : ∀ u ∈ (out.take j).flatMap itemC, u.oneCell' = true := one_items _
                  have ho3 : ∀ u ∈ (out.drop (j)).flatMap itemC, u.oneCell' = true := one_items _
                  go_region_law (first
                    | (refine step_append_any _ rfl (.const (.slice none 0 0)) (.tmp 92) 22 rfl 29 i0 _ 3 40 Tryz.underlying22 hi hz0 hz1 hz2 rfl (by decide) (.slice none 0 0) 0 [] (by first | (simp [Act.eval]; done) | simp [Act.eval, Act.put]) ⟨rfl, .inl ⟨rfl, rfl⟩⟩ (some (⟨gO, 0, none⟩ : Addr)) j cO ((out.take j).flatMap itemC) (by first | (simp [Act.eval]; done) | simp [Act.eval, Act.put]) hl1 HN1.out (HC1.out _ (by first | exact (Only.refl _ w5).drew | exact (Only.refl _ w5).drew.alloc _)) ho1 (by unfold maxLen; omega) (by omega) ?_; intro a1 c1 wa1 own1 gr1 mv1; rw [Nat.zero_add, List.nil_append] at own1; rw [Nat.zero_add] at mv1; have hq1 := (Only.refl (fun _ => False) _).grown gr1 (fun k _ h => by cases h); have HW1 : Only (fun _ => False) w5 wa1 := (by first | exact ((Only.refl _ w5).drew).trans hq1 (fun _ _ q => q) | exact (((Only.refl _ w5).drew).alloc _).trans hq1 (fun _ _ q => q)); have Y0 := (HW1.cell (p := ⟨g, off + k * 3, none⟩) (lt_of_cell X0) (fun q => q)).trans X0; have Y1 := (HW1.cell (p := ⟨g, off + k * 3 + 1, none⟩) (lt_of_cell X1) (fun q => q)).trans X1; have Y2 := (HW1.cell (p := ⟨g, off + k * 3 + 2, none⟩) (lt_of_cell X2) (fun q => q)).trans X2; have hf1 : ∀ z, (Value.slice a1 j c1).ownBlock = some z → w5.heap.size ≤ z := fun z hz => by rcases mv1 z hz with e | e; cases e; simp at e; omega)
                    | (refine step_append_moved _ rfl (.tmp 93) (.tmp 98) 22 rfl 29 i0 _ 3 40 Tryz.underlying22 hi hz0 hz1 hz2 rfl (by decide) (.slice a1 j c1) j ((out.take j).flatMap itemC) (by first | (simp [Act.eval]; done) | simp [Act.eval, Act.put]) (own1.alloc _) ⟨wa1.heap.size, 0, none⟩ 1 1 [str x.key, str x.val, .int .i64 x.kind] (by first | (simp [Act.eval]; done) | simp [Act.eval, Act.put]) rfl (cells_new _ _ _ _) (by simp [Value.oneCell', str]) (by unfold maxLen; omega) (by omega) ?_; intro a2 c2 wa2 own2 gr2 mv2; have HW2 : Only (fun _ => False) w5 wa2 := (by first | exact HW1.grown gr2 (fun z hz e => by have := hf1 z e; omega) | exact (HW1.alloc _).grown gr2 (fun z hz e => by have := hf1 z e; omega)); have hf2 : ∀ z, (Value.slice a2 (j + 1) c2).ownBlock = some z → w5.heap.size ≤ z := fun z hz => by rcases mv2 z hz with e | e; exact hf1 z e; have := HW1.size; (try simp at e); omega)
                    | (refine step_append_moved _ rfl (.tmp 93) (.tmp 98) 22 rfl 29 i0 _ 3 40 Tryz.underlying22 hi hz0 hz1 hz2 rfl (by decide) (.slice a1 j c1) j ((out.take j).flatMap itemC) (by first | (simp [Act.eval]; done) | simp [Act.eval, Act.put]) own1 ⟨w5.heap.size, 0, none⟩ 1 1 [str x.key, str x.val, .int .i64 x.kind] (by first | (simp [Act.eval]; done) | simp [Act.eval, Act.put]) rfl (cells_later (W := w5.drew) _ _ hq1) (by simp [Value.oneCell', str]) (by unfold maxLen; omega) (by omega) ?_; intro a2 c2 wa2 own2 gr2 mv2; have HW2 : Only (fun _ => False) w5 wa2 := (by first | exact HW1.grown gr2 (fun z hz e => by have := hf1 z e; omega) | exact (HW1.alloc _).grown gr2 (fun z hz e => by have := hf1 z e; omega)); have hf2 : ∀ z, (Value.slice a2 (j + 1) c2).ownBlock = some z → w5.heap.size ≤ z := fun z hz => by rcases mv2 z hz with e | e; exact hf1 z e; have := HW1.size; (try simp at e); omega)
                    | (refine step_append_any _ rfl (.tmp 99) (.tmp 100) 22 rfl 29 i0 _ 3 40 Tryz.underlying22 hi hz0 hz1 hz2 rfl (by decide) (.slice a2 (j + 1) c2) (j + 1) _ (by first | (simp [Act.eval]; done) | simp [Act.eval, Act.put]) own2 (some (⟨gO, j * 3, none⟩ : Addr)) (out.length - (j)) (cO - j) ((out.drop (j)).flatMap itemC) (by first | (simp [Act.eval]; done) | simp [Act.eval, Act.put]) hl3 HN3.out (HC3.out _ HW2) ho3 (by unfold maxLen; omega) (by omega) ?_; intro a3 c3 wa3 own3 gr3 mv3; have HWS := Lib.hid HW2.size; have HFIN := Lib.hid (And.intro own3 (And.intro (HW2.grown gr3 (fun z hz e => by have := hf2 z e; omega)) (And.intro mv3 hf2))); clear own3 gr3 mv3))
                  all_goals
                    go_wp2_with fail
                    go_roundg (l.length - (k + 1))
                    case measure => omega
                    case rel =>
                      obtain ⟨own3, ow3, mv3, hf2⟩ := HFIN.out
                      have hput : putL out x = out.take j ++ x :: out.drop (j) := HPUT.out
                      have hplen : (putL out x).length = j + 1 + (out.length - (j)) := by rw [hput]; simp only [List.length_append, List.length_take, List.length_cons, List.length_drop]; omega
                      have hpcell : (putL out x).flatMap itemC = (out.take j).flatMap itemC ++ [str x.key, str x.val, .int .i64 x.kind] ++ (out.drop (j)).flatMap itemC := by rw [hput, List.flatMap_append, List.flatMap_cons, List.append_assoc]; rfl
                      refine ⟨k + 1, by omega, by go_num, by rw [HNX.out, hplen, hpcell]; exact own3, (HO2.out.trans HO5.out (fun _ _ q => q)).trans ow3 (fun _ _ q => q), fun z hz => ?_⟩
                      have hs5 := (HO2.out.trans HO5.out (fun _ _ q => q)).size
                      rcases mv3 z hz with e | e
                      · have := hf2 z e; omega
                      · have := HWS.out; omega
        · obtain rfl : k = l.length := by omega
          go_wp2_with fail
          go_ret3
          have own := HOW.out
          rw [List.take_length] at own
          have hpa := HP.out.still HO.out
          have hpo : ∀ j, pown wr b j ↔ pown wo b j := fun j => pown_of_heap (HO.out.block b HP.out.lt (fun q => q)) j
          have hso := HST.out.only.size
          have hs1 := HO1.out.size
          have hlb : ∀ j, pown wr b j → b ≤ j := fun j q => by
            rcases HST.out.own j ((hpo j).1 q) with q | q
            · exact HPW.out j q
            · omega
          refine ⟨b, root, _, S, rfl, hpa, hMS, by omega, ⟨row_own (enc := itemC) (k := 3) (fun _ => rfl) own, cap_own own⟩, fun j hj => ?_, ?_, fun j q => hb ▸ hlb j q⟩
          · have hj : rowBlock u10 = some j := hj
            rw [rowBlock_own own] at hj
            have h1 := HNW.out j hj
            refine ⟨by omega, (own.lt j hj).2, fun q => ?_⟩
            have := pown_lt HP.out ((hpo j).1 q)
            omega
          · exact (HO1.out.trans HST.out.only (fun i hi q => by have := HPW.out i q; omega)).trans HO.out (fun _ _ q => q)
end Go.Proofs.YtklccpaphkpgfaaGreat
