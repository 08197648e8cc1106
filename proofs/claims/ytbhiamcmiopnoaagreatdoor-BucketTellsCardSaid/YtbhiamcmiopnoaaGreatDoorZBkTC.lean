/- The law's book, of texts: all lists are grown; has each list its marks?. Conditions: one goroutine; each list lies in memory of its own; they are few and short. (Printed by wip/gen/bk.py.) -/
import Derived.Test.YtbhiamcmiopnoaaGreatDoorZBkTB
namespace Go.Proofs.YtbhiamcmiopnoaaGreatDoor.bk
open Go.RowKit

theorem flat_snocT (l m y : List Bytes) : (l ++ m).flatMap txtC ++ y.flatMap txtC = (l ++ (m ++ y)).flatMap txtC := by simp

set_option maxRecDepth 100000 in
set_option maxHeartbeats 8000000 in
theorem growT_is (w : World) (k : Nat) (cs : Array Value) (vI : Value) (xs : List Value) (ls : List (List Bytes)) (B : Nat) (h : BookX txtC 1 9 37 0 w k cs vI xs ls B) (hl : ls.length < 250) (hn : ∀ l ∈ ls, l.length ≤ 1000) :
    Calls Tryz.prog 69 #[.pointer (some ⟨k, 0, none⟩)] w (GrowTold markT txtC 1 9 37 w xs ls) := by
  obtain ⟨i0, zz, hi, hz0, hz1, hz2, hz3⟩ := info_split infoT
  obtain ⟨j0, hj, hy0, hy1, hy2⟩ := info_parts rinfoT
  have hxl := h.len
  obtain ⟨n, hnx⟩ : ∃ n, ls.length = n := ⟨_, rfl⟩
  have hn250 : n < 250 := by omega
  obtain ⟨aI, cI, rfl⟩ := ownsRow_form h.rowI
  rw [show xs.length = n by omega] at h
  have HH := Lib.hid (And.intro h (And.intro hn (And.intro hnx (show xs.length = n by omega))))
  have hkT : ¬ ∃ v ∈ xs, OwnB v k := fun ⟨v, hv, e⟩ => (h.dk v hv k e).1 rfl
  have hIT : ∀ b, OwnB (.slice aI n cI) b → ¬ ∃ v ∈ xs, OwnB v b := fun b e ⟨v, hv, q⟩ => (h.dk v hv b q).2.1 e
  have HT := Lib.hid (And.intro hkT hIT)
  have c4 : w.cell? ⟨k, 0, none⟩ = some (.slice aI n cI) := h.cell
  have HC4 := Lib.hid c4
  clear h hn hnx hxl hl hkT hIT c4
  go_enter Tryz.func69, Tryz.ntmps69
  go_wp2_with fail
  go_loopg [3, 4] n (fun gh ov iv wr => ∃ (i : Nat) (gs : List Value), gh + i = n ∧ iv = .int .i64 i ∧ GrowTo markT txtC 1 9 37 w wr xs gs ls ov i)
  case atStart => exact ⟨0, [], by omega, rfl, GrowTo.start (enc := txtC) (kc := 1) (fun _ => rfl) HH.out.1⟩
  case round =>
    obtain ⟨i, gs, hgi, rfl, H⟩ := hrel
    have d4 := (H.only.cell (p := ⟨k, 0, none⟩) (lt_of_cell HC4.out) HT.out.1).trans HC4.out
    have HG := Lib.hid H
    obtain ⟨aO, cO, rfl⟩ := ownsRow_form H.own
    by_cases hi' : i < n
    · have hi2 : (i : Int) < (n : Int) := by omega
      have hi3 : (0 : Int) ≤ (i : Int) := by omega
      have hw1 : IntKind.i64.wrap ((i : Int) + 1) = (i : Int) + 1 := by exact IntWalk.i64_in _ (by omega)
      obtain ⟨x, hx⟩ : ∃ x, xs[i]? = some x := ⟨_, List.getElem?_eq_getElem (by have := HH.out.2.2.2; omega)⟩
      obtain ⟨l, hl⟩ : ∃ l, ls[i]? = some l := ⟨_, List.getElem?_eq_getElem (by have := HH.out.2.2.1; omega)⟩
      have rI := own_only HH.out.1.rowI H.only HT.out.2
      rw [HH.out.2.2.2] at rI
      obtain ⟨gI, rfl⟩ : ∃ g, aI = some ⟨g, 0, none⟩ := (own_addr rI).resolve_left (fun q => by have := q.2.1; omega)
      have ex := own_cell rI i x hx
      have rx := H.xown i x l (Nat.le_refl _) hx hl
      have hll := HH.out.2.1 l (List.mem_of_getElem? hl)
      obtain ⟨aX, cX, rfl⟩ := ownsRow_form rx
      have HL := Lib.hid (And.intro hx hl)
      have HRX := Lib.hid rx
      have hgl := H.len
      have HGL := Lib.hid hgl
      clear rI hx hl rx H hgl
      generalize wr = w1 at *
      go_wp2_with fail
      go_loopg [5, 6] 12 (fun gh lv qv wr2 => ∃ q : Nat, gh + q = 12 ∧ qv = .int .i64 q ∧ GrowAt txtC 1 9 w1 wr2 (.slice aX l.length cX) lv l (marks markT i l.length q))
      case atStart => exact ⟨0, by omega, rfl, GrowAt.start (enc := txtC) (kc := 1) (fun _ => rfl) HRX.out⟩
      case round =>
        obtain ⟨q, hgq, rfl, G⟩ := hrel
        obtain ⟨aL, cL, rfl⟩ := ownsRow_form G.own
        obtain ⟨N, hN⟩ : ∃ N, (l ++ marks markT i l.length q).length = N := ⟨_, rfl⟩
        have hN2 : N = l.length + q := by rw [← hN, List.length_append, marks_length]
        have hNm : N ≤ 1012 := by omega
        have HGA := Lib.hid G
        rw [hN]
        clear G
        generalize wr = wo at *
        by_cases hq : q < 12
        · have hq2 : (q : Int) < 12 := by omega
          have hwq : IntKind.i64.wrap ((q : Int) + 1) = (q : Int) + 1 := by exact IntWalk.i64_in _ (by omega)
          have HB : Hid (Calls Tryz.prog 129 #[.int .i64 (i : Int), .int .i64 (N : Int), .int .i64 1] wo (OwnTold txtC 1 9 wo (marks markT i N 1))) := Lib.hid (markT_is wo i N 1 (by omega) (by omega))
          have hmax : N + 1 ≤ maxLen := by unfold maxLen; omega
          have HN := Lib.hid (And.intro hN hN2)
          clear hN hN2
          unfold OwnTold at HB
          go_wp2_with fail
          (with_reducible refine HB.out.mono ?_)
          rintro e w5 ⟨vm, rfl, hm, o5, hmn⟩
          have hml : (marks markT i N 1).length = 1 := marks_length markT i N 1
          rw [hml] at hm
          obtain ⟨aM, cM, rfl⟩ := ownsRow_form hm
          obtain ⟨gM, rfl⟩ : ∃ g, aM = some ⟨g, 0, none⟩ := (own_addr hm).resolve_left (fun q => by have := q.2.1; omega)
          have HCE : Hid (∀ (j : Nat) (u : Value), ((marks markT i N 1).flatMap txtC)[j]? = some u → w5.cell? ((⟨gM, 0, none⟩ : Addr).add j) = some u) := Lib.hid (hm.cells (g := gM) rfl)
          have HFL : Hid (((marks markT i N 1).flatMap txtC).length = 1 * 1) := Lib.hid (by rw [lenT, hml])
          have HG5 := Lib.hid (HGA.out.still o5)
          have hown := HG5.out.own
          rw [HN.out.1] at hown
          have HOWN := Lib.hid hown
          clear hm o5 hmn hml hown HB
          go_wp2_with (at_builtin; refine wpList_append_kept _ rfl _ _ 37 rfl 9 i0 _ 1 16 Tryz.underlying37 hi hz0 hz1 hz2 hz3 (by decide) _ _ _ rfl HOWN.out ⟨gM, 0, none⟩ 1 cM ((marks markT i N 1).flatMap txtC) rfl HFL.out HCE.out (oneT _) hmax (by omega) ?_; intro a' c' wx h2 h3 h4; have HR := Lib.hid (And.intro h2 (And.intro h3 h4)); clear h2 h3 h4)
          all_goals
            go_roundg (12 - (q + 1))
            case measure => omega
            case rel =>
              obtain ⟨h2, h3, h4⟩ := HR.out
              obtain ⟨hN, hN2⟩ := HN.out
              rw [flat_snocT] at h2
              have e : (l ++ (marks markT i l.length q ++ marks markT i N 1)).length = N + 1 := by rw [← List.append_assoc, List.length_append, hN, marks_length]
              have h5 := HG5.out.more (enc := txtC) (kc := 1) (fun _ => rfl) (lv' := .slice a' (N + 1) c') (y := marks markT i N 1) HRX.out (by rw [e]; exact h2) (by have := h3; rw [← hN] at this ⊢; exact this) (by have := h4; rw [← hN] at this ⊢; exact this)
              rw [hN2, ← marks_more] at h5
              exact ⟨q + 1, by omega, by go_num, by rw [← hN2] at h5; exact h5⟩
        · obtain rfl : q = 12 := by omega
          have hq2 : ¬ ((12 : Nat) : Int) < 12 := by omega
          have hgl2 : gs.length + 1 ≤ maxLen := by have := HGL.out; unfold maxLen; omega
          have hgl3 : (gs.length + 1) * 24 ≤ 140737488355328 := by have := HGL.out; omega
          have HB : Hid (Calls Tryz.prog 129 #[.int .i64 (i : Int), .int .i64 (N : Int), .int .i64 60] wo (OwnTold txtC 1 9 wo (marks markT i N 60))) := Lib.hid (markT_is wo i N 60 (by omega) (by omega))
          have hmax : N + 60 ≤ maxLen := by unfold maxLen; omega
          have HN := Lib.hid (And.intro hN hN2)
          clear hN hN2 hgq
          unfold OwnTold at HB
          go_wp2_with fail
          (with_reducible refine HB.out.mono ?_)
          rintro e w5 ⟨vm, rfl, hm, o5, hmn⟩
          have hml : (marks markT i N 60).length = 60 := marks_length markT i N 60
          rw [hml] at hm
          obtain ⟨aM, cM, rfl⟩ := ownsRow_form hm
          obtain ⟨gM, rfl⟩ : ∃ g, aM = some ⟨g, 0, none⟩ := (own_addr hm).resolve_left (fun q => by have := q.2.1; omega)
          have HCE : Hid (∀ (j : Nat) (u : Value), ((marks markT i N 60).flatMap txtC)[j]? = some u → w5.cell? ((⟨gM, 0, none⟩ : Addr).add j) = some u) := Lib.hid (hm.cells (g := gM) rfl)
          have HFL : Hid (((marks markT i N 60).flatMap txtC).length = 60 * 1) := Lib.hid (by rw [lenT, hml])
          have HG5 := Lib.hid (HGA.out.still o5)
          have hown := HG5.out.own
          rw [HN.out.1] at hown
          have HOWN := Lib.hid hown
          have hov : ∀ b, OwnB (.slice aO gs.length cO) b → ¬ OwnB (.slice aX l.length cX) b ∧ ¬ OwnB (.slice aL N cL) b := fun b e => by
            have h1 := HG.out.newO b e
            have h2 := (HG.out.own.lt b e).2
            have h3 : ∀ c, OwnB (.slice aX l.length cX) c → c < w.heap.size := fun c q => by
              obtain ⟨_, r⟩ := HH.out.1.row_of (List.mem_of_getElem? HL.out.1)
              exact (r.lt c q).2
            refine ⟨fun q => by have := h3 b q; omega, fun q => ?_⟩
            rcases HGA.out.near b (by rw [HN.out.1]; exact q) with q | q
            · have := h3 b q; omega
            · omega
          have HOV := Lib.hid hov
          have HO5 := Lib.hid (own_only (own_only HG.out.own HGA.out.only (fun b e q => (hov b e).1 q)) o5 (fun _ _ q => q))
          clear hm o5 hmn hml hown HB hov
          go_wp2_with (first
            | (at_builtin; refine wpList_append_kept _ rfl _ _ 37 rfl 9 i0 _ 1 16 Tryz.underlying37 hi hz0 hz1 hz2 hz3 (by decide) _ _ _ rfl HOWN.out ⟨gM, 0, none⟩ 60 cM ((marks markT i N 60).flatMap txtC) rfl HFL.out HCE.out (oneT _) hmax (by omega) ?_; intro a' c' wx h2 h3 h4; have HR := Lib.hid (And.intro h2 (And.intro h3 h4)); have HO6 := Lib.hid ((own_only HO5.out h3 (fun b e q => (HOV.out b e).2 q.1)).alloc (.cells #[.slice a' (N + 60) c'] 37)); have HCE2 := Lib.hid (cells_new wx [Value.slice a' (N + 60) c'] 37 (0, 0)); clear h2 h3 h4)
            | (at_builtin; refine wpList_append_moved _ rfl _ _ 26 rfl 37 j0 _ 1 24 Tryz.underlying26 hj hy0 hy1 hy2 rfl (by decide) _ _ _ rfl HO6.out ⟨wx.heap.size, 0, none⟩ 1 1 [Value.slice a' (N + 60) c'] rfl rfl HCE2.out (fun u hu => by rw [List.mem_singleton.1 hu]; rfl) hgl2 hgl3 ?_; intro a3 c3 wy h2 h3 h4; have HR2 := Lib.hid (And.intro h2 (And.intro h3 h4)); clear h2 h3 h4))
          all_goals
            go_roundg (n - (i + 1))
            case measure => omega
            case rel =>
              obtain ⟨h2, h3, h4⟩ := HR.out
              obtain ⟨hN, hN2⟩ := HN.out
              rw [flat_snocT] at h2
              have e : (l ++ (marks markT i l.length 12 ++ marks markT i N 60)).length = N + 60 := by rw [← List.append_assoc, List.length_append, hN, marks_length]
              have h5 := HG5.out.more (enc := txtC) (kc := 1) (fun _ => rfl) (lv' := .slice a' (N + 60) c') (y := marks markT i N 60) HRX.out (by rw [e]; exact h2) (by have := h3; rw [← hN] at this ⊢; exact this) (by have := h4; rw [← hN] at this ⊢; exact this)
              have e2 : marks markT i l.length 12 ++ marks markT i N 60 = marks markT i l.length 72 := by rw [hN2, ← marks_more]
              rw [e2] at h5
              obtain ⟨k2, k3, k4⟩ := HR2.out
              exact ⟨i + 1, gs ++ [.slice a' (N + 60) c'], by omega, by go_num, HG.out.next (enc := txtC) (kc := 1) (fun _ => rfl) HH.out.1 HL.out.1 HL.out.2 h5 ((Only.refl (fun _ => False) wx).alloc _) k2 ((Only.refl _ _).grown k3 (fun _ _ e => e)) (fun b e => (k4 b e).imp (fun q => q) fun q => by rw [World.size_alloc] at q; omega)⟩
    · obtain rfl : i = n := by omega
      have hi2 : ¬ (i : Int) < (i : Int) := by omega
      have hgo := HG.out
      clear H
      go_wp2_with fail
      go_ret
      exact ⟨_, gs, rfl, by rw [HH.out.2.2.1]; exact hgo⟩
set_option maxRecDepth 100000 in
set_option maxHeartbeats 8000000 in
theorem markedT_is (w : World) (v : Value) (gs : List Value) (ls : List (List Bytes)) (own : w.ownsRow 0 37 1 v gs.length gs) (rows : ∀ (j : Nat) (g : Value) (l : List Bytes), gs[j]? = some g → ls[j]? = some l → RowAt txtC 1 w g l) (hlen : gs.length = ls.length)
    (hm : ∀ (j : Nat) (l : List Bytes), ls[j]? = some l → l = marks markT j 0 l.length) (hl : ls.length < 250) (hn : ∀ l ∈ ls, l.length ≤ 100000) :
    Calls Tryz.prog 78 #[v] w (StillTold w) := by
  obtain ⟨n, hnx⟩ : ∃ n, gs.length = n := ⟨_, rfl⟩
  have hn250 : n < 250 := by omega
  rw [hnx] at own
  obtain ⟨aG, cG, rfl⟩ := ownsRow_form own
  have HH := Lib.hid (And.intro rows (And.intro hm (And.intro hn (And.intro hnx (show ls.length = n by omega)))))
  have HOW := Lib.hid own
  clear rows hm hn hnx hlen hl own
  go_enter Tryz.func78, Tryz.ntmps78
  go_wp2_with fail
  go_loopg [3] n (fun gh iv wr => ∃ i : Nat, gh + i = n ∧ iv = .int .i64 i ∧ Only (fun _ => False) w wr)
  case atStart => exact ⟨0, by omega, rfl, Only.refl _ w⟩
  case round =>
    obtain ⟨i, hgi, rfl, ho⟩ := hrel
    have HO := Lib.hid ho
    clear ho
    by_cases hi : i < n
    · as_aux_lemma =>
      have hi2 : (i : Int) < (n : Int) := by omega
      have hi3 : (0 : Int) ≤ (i : Int) := by omega
      have hw1 : IntKind.i64.wrap ((i : Int) + 1) = (i : Int) + 1 := by exact IntWalk.i64_in _ (by omega)
      obtain ⟨rows, hm, hn, hnx, hln⟩ := HH.out
      obtain ⟨g, hg⟩ : ∃ g, gs[i]? = some g := ⟨_, List.getElem?_eq_getElem (by omega)⟩
      obtain ⟨l, hl⟩ : ∃ l, ls[i]? = some l := ⟨_, List.getElem?_eq_getElem (by omega)⟩
      obtain ⟨gG, rfl⟩ : ∃ g, aG = some ⟨g, 0, none⟩ := (own_addr HOW.out).resolve_left (fun q => by have := q.2.1; omega)
      have ex0 := own_cell HOW.out i g hg
      have rg := row_only (rows i g l hg hl) HO.out (fun _ _ q => q)
      obtain ⟨aX, cX, rfl⟩ := row_form rg
      have ex := (HO.out.cell (p := ⟨gG, i, none⟩) (lt_of_cell ex0) (fun q => q)).trans ex0
      have hll := hn l (List.mem_of_getElem? hl)
      have hml := hm i l hl
      have HM : Hid (∀ W, Calls Tryz.prog 129 #[.int .i64 (i : Int), .int .i64 0, .int .i64 (l.length : Int)] W (OwnTold txtC 1 9 W l)) := Lib.hid (fun W => by
        have := markT_is W i 0 l.length (by omega) (by omega)
        rw [← hml] at this
        exact this)
      have HRG := Lib.hid rg
      have hll2 := Lib.hid hll
      clear rows hm hn hnx hln hg hl ex0 rg hml hll HOW HH
      unfold OwnTold at HM
      go_wp2_with fail
      go_region_law (first
        | (rw [if_pos (by simp [Region.wanted])]; go_simp; (with_reducible refine (HM.out _).mono ?_); rintro e w4 ⟨vm, rfl, hvm, o4, hvn⟩; obtain ⟨aM, cM, rfl⟩ := ownsRow_form hvm; have o5 : Only (fun _ => False) wr w4 := (by first | exact o4 | exact ((Only.refl _ wr).drew).trans o4 (fun _ _ q => q)); have ex4 := (o5.cell (p := ⟨gG, i, none⟩) (lt_of_cell ex) (fun q => q)).trans ex; have HS := Lib.hid (SameT_is w4 _ _ l (row_only HRG.out o5 (fun _ _ q => q)) (row_own (enc := txtC) (k := 1) (fun _ => rfl) hvm) (by have := hll2.out; omega)); have HO4 := Lib.hid (HO.out.trans o5 (fun _ _ q => q)); clear hvm o4 hvn o5)
        | (rw [if_pos (by simp [Region.wanted])]; go_simp; (with_reducible refine HS.out.mono ?_); rintro e w6 ⟨rfl, o6⟩; have HF := Lib.hid (HO4.out.trans o6 (fun _ _ q => q)); clear o6))
      all_goals
        go_wp2_with fail
        go_roundg (gk - 1)
        case measure => omega
        case rel => exact ⟨i + 1, by omega, by go_num, HF.out⟩
    · obtain rfl : i = n := by omega
      have hi2 : ¬ (i : Int) < (i : Int) := by omega
      go_wp2_with fail
      go_ret
      exact ⟨rfl, HO.out⟩

end Go.Proofs.YtbhiamcmiopnoaaGreatDoor.bk
