/- The law's book, of items: all lists are grown. Conditions: one goroutine; each list lies in memory of its own; they are few and short. -/
import Derived.Test.YtklccpaphkpgfaaGreatZBookA
namespace Go.Proofs.YtklccpaphkpgfaaGreat
open Go.RowKit

/-- An append to a row of the call's own: where it moves nothing old is another. -/
theorem run_append_kept {P : Program} (w : World) (t ty e : TypeId) (i : TypeInfo) (z : Value) (size bytes : Nat) (ht : P.underlying t = some (.slice e)) (hi : P.info? e = some i) (hz : i.zero = some z)
    (hsize : i.size = size) (hby : i.bytes = bytes) (hzs : z.cells.size = size) (hsz : 0 < size)
    (v : Value) (n : Nat) (xs : List Value) (hown : w.ownsRow 0 e size v n xs)
    (a : Addr) (m c : Nat) (news : List Value) (hl : news.length = m * size) (hnews : ∀ j u, news[j]? = some u → w.cell? (a.add j) = some u) (h1 : ∀ u ∈ news, u.oneCell' = true)
    (h63 : n + m ≤ maxLen) (hbytes : (n + m) * bytes ≤ 140737488355328) :
    ∃ v' w', (Builtin.append_ #[t, t] ty #[v, .slice (some a) m c]).run P w = .ok v' w' ∧ w'.ownsRow 0 e size v' (n + m) (xs ++ news) ∧ Only (fun k => v.ownBlock = some k ∧ v'.ownBlock = some k) w w' ∧ Moved w v v' := by
  obtain ⟨v', w', hr, ho, hgr, hmv⟩ := run_append_moved (P := P) w 0 t ty e i z size bytes ht hi hz hsize hby hzs hsz v n xs hown a m c news hl hnews h1 h63 hbytes (Nat.zero_le _)
  refine ⟨v', w', hr, ho, ?_, hmv⟩
  rcases hown.2 with ⟨rfl, rfl⟩ | ⟨g, cap, cur, rfl, hbg, hg, hnc, hcm, hcs, htake⟩
  · exact (Only.refl _ w).grown hgr (fun k _ e => by cases e)
  · by_cases hroom : n + m ≤ cap
    · have hfit : n * i.size + news.length ≤ cur.size := by rw [hl, hcs, hsize, ← Nat.add_mul]; exact Nat.mul_le_mul_right _ hroom
      have hr' := run_append_room (P := P) w t ty e i ht hi g n cap cur hg a m c news (by rw [hsize]; exact hl) hnews h1 hroom hfit
      rw [hr'] at hr
      obtain ⟨rfl, rfl⟩ := (Result.ok.injEq ..).mp hr
      exact (Only.refl _ w).grown hgr (fun k _ e => ⟨e, e⟩)
    · have hr' := run_append_grow (P := P) w t ty e i z ht hi hz ⟨g, 0, none⟩ n cap xs (by rw [hsize]; exact hown.1) (hown.cells (g := g) rfl) a m c news (by rw [hsize]; exact hl) hnews (by omega) (by simp only [maxLen] at h63; omega) (growslice_fits (by omega) (by rw [hby]; exact hbytes))
      rw [hr'] at hr
      obtain ⟨rfl, rfl⟩ := (Result.ok.injEq ..).mp hr
      exact (Only.refl _ w).drew.alloc _
theorem wpList_append_kept {P : Program} (w : World) {ops : Array Oper} {rest : List Oper} {o : Oper} {a : Act} {Q : Exit → Act → World → Prop} (hgd : o.guard = none) (s x : Operand) (t : TypeId)
    (ho : o.op = .call { callee := .builtin .append, args := #[s, x], argTypes := #[t, t] })
    (e : TypeId) (i : TypeInfo) (z : Value) (size bytes : Nat) (ht : P.underlying t = some (.slice e)) (hi : P.info? e = some i) (hz : i.zero = some z)
    (hsize : i.size = size) (hby : i.bytes = bytes) (hzs : z.cells.size = size) (hsz : 0 < size)
    (v : Value) (n : Nat) (xs : List Value) (hs : a.eval s = v) (hown : w.ownsRow 0 e size v n xs)
    (ad : Addr) (m c : Nat) (news : List Value) (hx : a.eval x = .slice (some ad) m c) (hl : news.length = m * size) (hnews : ∀ j u, news[j]? = some u → w.cell? (ad.add j) = some u) (h1 : ∀ u ∈ news, u.oneCell' = true)
    (h63 : n + m ≤ maxLen) (hbytes : (n + m) * bytes ≤ 140737488355328)
    (h : ∀ a' c' w', w'.ownsRow 0 e size (.slice a' (n + m) c') (n + m) (xs ++ news) → Only (fun k => v.ownBlock = some k ∧ (Value.slice a' (n + m) c').ownBlock = some k) w w' → Moved w v (.slice a' (n + m) c') → wpList P ops Q rest (a.put o.dst (.slice a' (n + m) c')) w') :
    wpList P ops Q (o :: rest) a w := by
  refine wpList_plain hgd fun _ hK => ?_
  obtain ⟨v', w', hr, h2, h3, h4⟩ := run_append_kept (P := P) w t o.type e i z size bytes ht hi hz hsize hby hzs hsz v n xs hown ad m c news hl hnews h1 h63 hbytes
  unfold Oper.wp execOp
  simp only [ho, resolve, invoke, builtin, Sem.run_bind, Sem.run_pure, Result.andThen_ok, List.map_toArray, List.map_cons, List.map_nil, hs, hx, hr]
  obtain ⟨a', c', rfl⟩ := ownsRow_form h2
  exact hK _ _ (h a' c' w' h2 h3 h4)

/-- A list that grows; the one that it was stays to be read. -/
structure GrowAt (w0 wr : World) (x lv : Value) (l m : List Item) : Prop where
  own : wr.ownsRow 0 29 3 lv (l ++ m).length ((l ++ m).flatMap itemC)
  row : RowAt itemC 3 wr x l
  near : ∀ b, OwnB lv b → OwnB x b ∨ w0.heap.size ≤ b
  only : Only (fun b => OwnB x b) w0 wr
theorem GrowAt.start {w0 : World} {x : Value} {l : List Item} (h : w0.ownsRow 0 29 3 x l.length (l.flatMap itemC)) : GrowAt w0 w0 x x l [] :=
  ⟨by rw [List.append_nil]; exact h, row_own (fun _ => rfl) h, fun _ e => .inl e, Only.refl _ _⟩
theorem GrowAt.still {w0 wr w' : World} {x lv : Value} {l m : List Item} (h : GrowAt w0 wr x lv l m) (ho : Only (fun _ => False) wr w') : GrowAt w0 w' x lv l m :=
  ⟨own_only h.own ho (fun _ _ q => q), row_only h.row ho (fun _ _ q => q), h.near, h.only.trans ho (fun _ _ q => q.elim)⟩
theorem GrowAt.more {w0 wr w' : World} {x lv lv' : Value} {l m y : List Item} (h : GrowAt w0 wr x lv l m) (hx : w0.ownsRow 0 29 3 x l.length (l.flatMap itemC)) (hown : w'.ownsRow 0 29 3 lv' (l ++ (m ++ y)).length ((l ++ (m ++ y)).flatMap itemC)) (ho : Only (fun b => OwnB lv b ∧ OwnB lv' b) wr w') (hmv : ∀ b, OwnB lv' b → OwnB lv b ∨ wr.heap.size ≤ b) : GrowAt w0 w' x lv' l (m ++ y) := by
  have hsz := h.only.size
  refine ⟨hown, ?_, fun b e => ?_, h.only.trans ho fun b hb q => (h.near b q.1).resolve_right (by omega)⟩
  · rcases hx.2 with ⟨rfl, h0⟩ | ⟨g, cap, cur, rfl, _⟩
    · have e0 : l = [] := List.eq_nil_of_length_eq_zero h0
      subst e0
      exact .none
    · by_cases hg : OwnB lv g ∧ OwnB lv' g
      · refine RowAt.some g 0 cap l fun i it j u hi hj => ?_
        obtain ⟨g2, cap2, rfl⟩ : ∃ g2 cap2, lv' = .slice (some ⟨g2, 0, none⟩) (l ++ (m ++ y)).length cap2 := by
          rcases hown.2 with ⟨rfl, _⟩ | ⟨g2, cap2, _, rfl, _⟩
          · exact absurd hg.2 (by simp [OwnB, Value.ownBlock])
          · exact ⟨g2, cap2, rfl⟩
        obtain rfl : g2 = g := Option.some.inj hg.2
        have hr := row_own (enc := itemC) (k := 3) (fun _ => rfl) hown
        generalize hll : l ++ (m ++ y) = ll at hr
        have hi2 : ll[i]? = some it := by rw [← hll, List.getElem?_append_left (List.getElem?_eq_some_iff.1 hi).1]; exact hi
        generalize ll.length = nn at hr
        cases hr with
        | some _ _ _ _ hc => exact hc i it j u hi2 hj
      · refine row_only h.row ho fun b e q => ?_
        obtain rfl : g = b := Option.some.inj e
        exact hg q
  · rcases hmv b e with q | q
    · exact h.near b q
    · exact .inr (by omega)

/-- How the lists stand, the first so many of them grown. -/
structure GrowTo (w wr : World) (xs gs : List Value) (ls : List (List Item)) (ov : Value) (i : Nat) : Prop where
  own : wr.ownsRow 0 22 1 ov gs.length gs
  len : gs.length = i
  newO : ∀ b, OwnB ov b → w.heap.size ≤ b
  grown : ∀ (j : Nat) (g : Value) (l : List Item), gs[j]? = some g → ls[j]? = some l → RowAt itemC 3 wr g (l ++ marksI j l.length 72)
  gblk : ∀ (j : Nat) (g x : Value), gs[j]? = some g → xs[j]? = some x → ∀ b, rowBlock g = some b → (OwnB x b ∨ w.heap.size ≤ b) ∧ ¬ OwnB ov b ∧ b < wr.heap.size
  xrow : ∀ (j : Nat) (x : Value) (l : List Item), xs[j]? = some x → ls[j]? = some l → RowAt itemC 3 wr x l
  xown : ∀ (j : Nat) (x : Value) (l : List Item), i ≤ j → xs[j]? = some x → ls[j]? = some l → wr.ownsRow 0 29 3 x l.length (l.flatMap itemC)
  only : Only (fun b => ∃ v ∈ xs, OwnB v b) w wr
theorem GrowTo.start {w : World} {k : Nat} {vI : Value} {xs : List Value} {ls : List (List Item)} {B : Nat} (h : BookX w k vI xs ls B) : GrowTo w w xs [] ls (.slice none 0 0) 0 :=
  ⟨⟨rfl, .inl ⟨rfl, rfl⟩⟩, rfl, (fun b e => by simp [OwnB, Value.ownBlock] at e), (fun j g l a => by simp at a), (fun j g x a => by simp at a), fun j x l a b => row_own (fun _ => rfl) (h.rows j x l a b), fun j x l _ a b => h.rows j x l a b, Only.refl _ w⟩
/-- One more list has grown, and is told. -/
theorem GrowTo.next {w wr w5 W wx : World} {k : Nat} {vI x lv ov ov' : Value} {xs gs : List Value} {ls : List (List Item)} {l : List Item} {B i : Nat} (h : BookX w k vI xs ls B) (H : GrowTo w wr xs gs ls ov i) (hx : xs[i]? = some x) (hl : ls[i]? = some l) (G : GrowAt wr w5 x lv l (marksI i l.length 72)) (ho : Only (fun _ => False) w5 W)
    (hown : wx.ownsRow 0 22 1 ov' (gs.length + 1) (gs ++ [lv])) (hg : Only (fun b => OwnB ov b) W wx) (hmv : ∀ b, OwnB ov' b → OwnB ov b ∨ w5.heap.size ≤ b) : GrowTo w wx xs (gs ++ [lv]) ls ov' (i + 1) := by
  have hgi := H.len
  have hs1 := H.only.size
  have hs2 := G.only.size
  have hs3 := ho.size
  have hs4 := hg.size
  have hxm := List.mem_of_getElem? hx
  have xlt : ∀ j y, xs[j]? = some y → ∀ b, OwnB y b → b < w.heap.size := fun j y a b e => by
    obtain ⟨_, r⟩ := h.row_of (List.mem_of_getElem? a)
    exact (r.lt b e).2
  -- from the round's start to its end: what may be another
  have hO : Only (fun b => OwnB x b ∨ OwnB ov b) wr wx := ((G.only.mono (fun _ _ q => .inl q)).trans ho (fun _ _ q => q.elim)).trans hg (fun b _ q => .inr q)
  have hovlt : ∀ b, OwnB ov b → b < wr.heap.size := fun b e => (H.own.lt b e).2
  have hlv : ∀ b, OwnB lv b → ¬ OwnB ov b := fun b e q => by
    rcases G.near b e with r | r
    · have := xlt i x hx b r; have := H.newO b q; omega
    · have := hovlt b q; omega
  have hlv' : ∀ b, OwnB lv b → ¬ OwnB ov' b := fun b e q => by
    rcases hmv b q with r | r
    · exact hlv b e r
    · have := (G.own.lt b e).2; omega
  have hrl : RowAt itemC 3 wx lv (l ++ marksI i l.length 72) := row_only (row_only (row_own (fun _ => rfl) G.own) ho (fun _ _ q => q)) hg (fun b e q => hlv b (by rw [rowBlock_own G.own] at e; exact e) q)
  refine ⟨by rw [List.length_append, List.length_singleton]; exact hown, by rw [List.length_append, List.length_singleton, hgi], fun b e => ?_, fun j g m a b => ?_, fun j g y a b c e => ?_, fun j y m a b => ?_, fun j y m hij a b => ?_, H.only.trans hO fun b hb q => ?_⟩
  · rcases hmv b e with q | q
    · exact H.newO b q
    · omega
  · rcases snoc_at a with a | ⟨rfl, rfl⟩
    · have hj : j < i := by have := (List.getElem?_eq_some_iff.1 a).1; omega
      obtain ⟨y, hy⟩ : ∃ y, xs[j]? = some y := ⟨_, List.getElem?_eq_getElem (by have := (List.getElem?_eq_some_iff.1 hx).1; omega)⟩
      refine row_only (H.grown j g m a b) hO fun c e q => ?_
      obtain ⟨g1, g2, g3⟩ := H.gblk j g y a hy c e
      rcases q with q | q
      · rcases g1 with g1 | g1
        · exact h.dx j i y x c (by omega) hy hx g1 q
        · have := xlt i x hx c q; omega
      · exact g2 q
    · rw [hgi] at b
      rw [hl] at b
      cases b
      rw [hgi]
      exact hrl
  · rcases snoc_at a with a | ⟨rfl, rfl⟩
    · have hj : j < i := by have := (List.getElem?_eq_some_iff.1 a).1; omega
      obtain ⟨g1, g2, g3⟩ := H.gblk j g y a b c e
      refine ⟨g1, fun q => ?_, by omega⟩
      rcases hmv c q with q | q
      · exact g2 q
      · omega
    · rw [hgi, hx] at b
      cases b
      rw [rowBlock_own G.own] at e
      refine ⟨(G.near c e).imp id fun q => by omega, hlv' c e, by have := (G.own.lt c e).2; omega⟩
  · by_cases hij : j = i
    · subst hij
      rw [hx] at a; cases a
      rw [hl] at b; cases b
      refine row_only (row_only G.row ho (fun _ _ q => q)) hg fun b e q => ?_
      have hxr := H.xown j x l (Nat.le_refl _) hx hl
      rw [rowBlock_own hxr] at e
      have := xlt j x hx b e; have := H.newO b q; omega
    · refine row_only (H.xrow j y m a b) hO fun c e q => ?_
      have hyr := h.rows j y m a b
      rw [rowBlock_own hyr] at e
      rcases q with q | q
      · exact h.dx j i y x c hij a hx e q
      · have := xlt j y a c e; have := H.newO c q; omega
  · refine own_only (H.xown j y m (by omega) a b) hO fun c e q => ?_
    rcases q with q | q
    · exact h.dx j i y x c (by omega) a hx e q
    · have := xlt j y a c e; have := H.newO c q; omega
  · rcases q with q | q
    · exact ⟨x, hxm, q⟩
    · have := H.newO b q; omega
/-- How the growing ends. -/
def GrowTold (w : World) (xs : List Value) (ls : List (List Item)) : Ending → World → Prop := fun e w' => ∃ ov gs, e = .returned ov ∧ GrowTo w w' xs gs ls ov ls.length
end Go.Proofs.YtklccpaphkpgfaaGreat

namespace Go.Proofs.YtklccpaphkpgfaaGreat
open Go.RowKit

theorem flat_snoc (l m y : List Item) : (l ++ m).flatMap itemC ++ y.flatMap itemC = (l ++ (m ++ y)).flatMap itemC := by simp

set_option maxRecDepth 100000 in
set_option maxHeartbeats 8000000 in
theorem growItems_is (w : World) (k : Nat) (vI : Value) (xs : List Value) (ls : List (List Item)) (B : Nat) (h : BookX w k vI xs ls B) (hl : ls.length < 250) (hn : ∀ l ∈ ls, l.length ≤ 1000) :
    Calls Tryz.prog 56 #[.pointer (some ⟨k, 0, none⟩)] w (GrowTold w xs ls) := by
  obtain ⟨i0, hi, hz0, hz1, hz2⟩ := info_parts itemInfo
  obtain ⟨j0, hj, hy0, hy1, hy2⟩ := info_parts rowInfoI
  have hxl := h.len
  obtain ⟨n, hnx⟩ : ∃ n, ls.length = n := ⟨_, rfl⟩
  have hn250 : n < 250 := by omega
  obtain ⟨aI, cI, rfl⟩ := ownsRow_form h.rowI
  rw [show xs.length = n by omega] at h
  have HH := Lib.hid (And.intro h (And.intro hn (And.intro hnx (show xs.length = n by omega))))
  have hkT : ¬ ∃ v ∈ xs, OwnB v k := fun ⟨v, hv, e⟩ => (h.dk v hv k e).1 rfl
  have hIT : ∀ b, OwnB (.slice aI n cI) b → ¬ ∃ v ∈ xs, OwnB v b := fun b e ⟨v, hv, q⟩ => (h.dk v hv b q).2.1 e
  have HT := Lib.hid (And.intro hkT hIT)
  obtain ⟨vW, hheap⟩ := h.heap
  have c4 := heap_cell hheap 4
  simp only [List.getElem?_toArray, List.getElem?_cons_zero, List.getElem?_cons_succ] at c4
  have HC4 := Lib.hid c4
  clear h hn hnx hxl hl hkT hIT hheap c4
  go_enter Tryz.func56, Tryz.ntmps56
  go_wp2_with fail
  go_loopg [3, 4] n (fun gh ov iv wr => ∃ (i : Nat) (gs : List Value), gh + i = n ∧ iv = .int .i64 i ∧ GrowTo w wr xs gs ls ov i)
  case atStart => exact ⟨0, [], by omega, rfl, GrowTo.start HH.out.1⟩
  case round =>
    obtain ⟨i, gs, hgi, rfl, H⟩ := hrel
    have d4 := (H.only.cell (p := ⟨k, 4, none⟩) (lt_of_cell HC4.out) HT.out.1).trans HC4.out
    have HG := Lib.hid H
    obtain ⟨aO, cO, rfl⟩ := ownsRow_form H.own
    by_cases hi' : i < n
    · have hi2 : (i : Int) < (n : Int) := by omega
      have hi3 : (0 : Int) ≤ (i : Int) := by omega
      have hw1 : IntKind.i64.wrap ((i : Int) + 1) = (i : Int) + 1 := by exact IntWalk.i64_in _ (by omega)
      obtain ⟨x, hx⟩ : ∃ x, xs[i]? = some x := ⟨_, List.getElem?_eq_getElem (by have := HH.out.2.2.2; omega)⟩
      obtain ⟨l, hl⟩ : ∃ l, ls[i]? = some l := ⟨_, List.getElem?_eq_getElem (by have := HH.out.2.2.1; omega)⟩
      have rI := own_only HH.out.1.rowI H.only HT.out.2
      rw [HH.out.2.2.2] at rI
      obtain ⟨gI, rfl⟩ : ∃ g, aI = some ⟨g, 0, none⟩ := (own_addr rI).resolve_left (fun q => by have := q.2.1; omega)
      have ex := own_cell rI i x hx
      have rx := H.xown i x l (Nat.le_refl _) hx hl
      have hll := HH.out.2.1 l (List.mem_of_getElem? hl)
      obtain ⟨aX, cX, rfl⟩ := ownsRow_form rx
      have HL := Lib.hid (And.intro hx hl)
      have HRX := Lib.hid rx
      have hgl := H.len
      have HGL := Lib.hid hgl
      clear rI hx hl rx H hgl
      generalize wr = w1 at *
      go_wp2_with fail
      go_loopg [5, 6] 12 (fun gh lv qv wr2 => ∃ q : Nat, gh + q = 12 ∧ qv = .int .i64 q ∧ GrowAt w1 wr2 (.slice aX l.length cX) lv l (marksI i l.length q))
      case atStart => exact ⟨0, by omega, rfl, GrowAt.start HRX.out⟩
      case round =>
        obtain ⟨q, hgq, rfl, G⟩ := hrel
        obtain ⟨aL, cL, rfl⟩ := ownsRow_form G.own
        obtain ⟨N, hN⟩ : ∃ N, (l ++ marksI i l.length q).length = N := ⟨_, rfl⟩
        have hN2 : N = l.length + q := by rw [← hN, List.length_append, marksI_length]
        have hNm : N ≤ 1012 := by omega
        have HGA := Lib.hid G
        rw [hN]
        clear G
        generalize wr = wo at *
        by_cases hq : q < 12
        · have hq2 : (q : Int) < 12 := by omega
          have hwq : IntKind.i64.wrap ((q : Int) + 1) = (q : Int) + 1 := by exact IntWalk.i64_in _ (by omega)
          have HB : Hid (Calls Tryz.prog 100 #[.int .i64 (i : Int), .int .i64 (N : Int), .int .i64 1] wo (OwnTold wo (marksI i N 1))) := Lib.hid (markI_is wo i N 1 (by omega) (by omega))
          have hmax : N + 1 ≤ maxLen := by unfold maxLen; omega
          have HN := Lib.hid (And.intro hN hN2)
          clear hN hN2
          unfold OwnTold at HB
          go_wp2_with fail
          (with_reducible refine HB.out.mono ?_)
          rintro e w5 ⟨vm, rfl, hm, o5, hmn⟩
          have hml : (marksI i N 1).length = 1 := marksI_length i N 1
          rw [hml] at hm
          obtain ⟨aM, cM, rfl⟩ := ownsRow_form hm
          obtain ⟨gM, rfl⟩ : ∃ g, aM = some ⟨g, 0, none⟩ := (own_addr hm).resolve_left (fun q => by have := q.2.1; omega)
          have HCE : Hid (∀ (j : Nat) (u : Value), ((marksI i N 1).flatMap itemC)[j]? = some u → w5.cell? ((⟨gM, 0, none⟩ : Addr).add j) = some u) := Lib.hid (hm.cells (g := gM) rfl)
          have HFL : Hid (((marksI i N 1).flatMap itemC).length = 1 * 3) := Lib.hid (by rw [flatI_length, hml])
          have HG5 := Lib.hid (HGA.out.still o5)
          have hown := HG5.out.own
          rw [HN.out.1] at hown
          have HOWN := Lib.hid hown
          clear hm o5 hmn hml hown HB
          go_wp2_with (at_builtin; refine wpList_append_kept _ rfl _ _ 22 rfl 29 i0 _ 3 40 Tryz.underlying22 hi hz0 hz1 hz2 rfl (by decide) _ _ _ rfl HOWN.out ⟨gM, 0, none⟩ 1 cM ((marksI i N 1).flatMap itemC) rfl HFL.out HCE.out (one_items _) hmax (by omega) ?_; intro a' c' wx h2 h3 h4; have HR := Lib.hid (And.intro h2 (And.intro h3 h4)); clear h2 h3 h4)
          all_goals
            go_roundg (12 - (q + 1))
            case measure => omega
            case rel =>
              obtain ⟨h2, h3, h4⟩ := HR.out
              obtain ⟨hN, hN2⟩ := HN.out
              rw [flat_snoc] at h2
              have e : (l ++ (marksI i l.length q ++ marksI i N 1)).length = N + 1 := by rw [← List.append_assoc, List.length_append, hN, marksI_length]
              have h5 := HG5.out.more (lv' := .slice a' (N + 1) c') (y := marksI i N 1) HRX.out (by rw [e]; exact h2) (by have := h3; rw [← hN] at this ⊢; exact this) (by have := h4; rw [← hN] at this ⊢; exact this)
              rw [hN2, ← marksI_more] at h5
              exact ⟨q + 1, by omega, by go_num, by rw [← hN2] at h5; exact h5⟩
        · obtain rfl : q = 12 := by omega
          have hq2 : ¬ ((12 : Nat) : Int) < 12 := by omega
          have hgl2 : gs.length + 1 ≤ maxLen := by have := HGL.out; unfold maxLen; omega
          have hgl3 : (gs.length + 1) * 24 ≤ 140737488355328 := by have := HGL.out; omega
          have HB : Hid (Calls Tryz.prog 100 #[.int .i64 (i : Int), .int .i64 (N : Int), .int .i64 60] wo (OwnTold wo (marksI i N 60))) := Lib.hid (markI_is wo i N 60 (by omega) (by omega))
          have hmax : N + 60 ≤ maxLen := by unfold maxLen; omega
          have HN := Lib.hid (And.intro hN hN2)
          clear hN hN2 hgq
          unfold OwnTold at HB
          go_wp2_with fail
          (with_reducible refine HB.out.mono ?_)
          rintro e w5 ⟨vm, rfl, hm, o5, hmn⟩
          have hml : (marksI i N 60).length = 60 := marksI_length i N 60
          rw [hml] at hm
          obtain ⟨aM, cM, rfl⟩ := ownsRow_form hm
          obtain ⟨gM, rfl⟩ : ∃ g, aM = some ⟨g, 0, none⟩ := (own_addr hm).resolve_left (fun q => by have := q.2.1; omega)
          have HCE : Hid (∀ (j : Nat) (u : Value), ((marksI i N 60).flatMap itemC)[j]? = some u → w5.cell? ((⟨gM, 0, none⟩ : Addr).add j) = some u) := Lib.hid (hm.cells (g := gM) rfl)
          have HFL : Hid (((marksI i N 60).flatMap itemC).length = 60 * 3) := Lib.hid (by rw [flatI_length, hml])
          have HG5 := Lib.hid (HGA.out.still o5)
          have hown := HG5.out.own
          rw [HN.out.1] at hown
          have HOWN := Lib.hid hown
          have hov : ∀ b, OwnB (.slice aO gs.length cO) b → ¬ OwnB (.slice aX l.length cX) b ∧ ¬ OwnB (.slice aL N cL) b := fun b e => by
            have h1 := HG.out.newO b e
            have h2 := (HG.out.own.lt b e).2
            have h3 : ∀ c, OwnB (.slice aX l.length cX) c → c < w.heap.size := fun c q => by
              obtain ⟨_, r⟩ := HH.out.1.row_of (List.mem_of_getElem? HL.out.1)
              exact (r.lt c q).2
            refine ⟨fun q => by have := h3 b q; omega, fun q => ?_⟩
            rcases HGA.out.near b (by rw [HN.out.1]; exact q) with q | q
            · have := h3 b q; omega
            · omega
          have HOV := Lib.hid hov
          have HO5 := Lib.hid (own_only (own_only HG.out.own HGA.out.only (fun b e q => (hov b e).1 q)) o5 (fun _ _ q => q))
          clear hm o5 hmn hml hown HB hov
          go_wp2_with (first
            | (at_builtin; refine wpList_append_kept _ rfl _ _ 22 rfl 29 i0 _ 3 40 Tryz.underlying22 hi hz0 hz1 hz2 rfl (by decide) _ _ _ rfl HOWN.out ⟨gM, 0, none⟩ 60 cM ((marksI i N 60).flatMap itemC) rfl HFL.out HCE.out (one_items _) hmax (by omega) ?_; intro a' c' wx h2 h3 h4; have HR := Lib.hid (And.intro h2 (And.intro h3 h4)); have HO6 := Lib.hid ((own_only HO5.out h3 (fun b e q => (HOV.out b e).2 q.1)).alloc (.cells #[.slice a' (N + 60) c'] 22)); have HCE2 := Lib.hid (cells_new wx [Value.slice a' (N + 60) c'] 22 (0, 0)); clear h2 h3 h4)
            | (at_builtin; refine wpList_append_moved _ rfl _ _ 33 rfl 22 j0 _ 1 24 Tryz.underlying33 hj hy0 hy1 hy2 rfl (by decide) _ _ _ rfl HO6.out ⟨wx.heap.size, 0, none⟩ 1 1 [Value.slice a' (N + 60) c'] rfl rfl HCE2.out (fun u hu => by rw [List.mem_singleton.1 hu]; rfl) hgl2 hgl3 ?_; intro a3 c3 wy h2 h3 h4; have HR2 := Lib.hid (And.intro h2 (And.intro h3 h4)); clear h2 h3 h4))
          all_goals
            go_roundg (n - (i + 1))
            case measure => omega
            case rel =>
              obtain ⟨h2, h3, h4⟩ := HR.out
              obtain ⟨hN, hN2⟩ := HN.out
              rw [flat_snoc] at h2
              have e : (l ++ (marksI i l.length 12 ++ marksI i N 60)).length = N + 60 := by rw [← List.append_assoc, List.length_append, hN, marksI_length]
              have h5 := HG5.out.more (lv' := .slice a' (N + 60) c') (y := marksI i N 60) HRX.out (by rw [e]; exact h2) (by have := h3; rw [← hN] at this ⊢; exact this) (by have := h4; rw [← hN] at this ⊢; exact this)
              have e2 : marksI i l.length 12 ++ marksI i N 60 = marksI i l.length 72 := by rw [hN2, ← marksI_more]
              rw [e2] at h5
              obtain ⟨k2, k3, k4⟩ := HR2.out
              exact ⟨i + 1, gs ++ [.slice a' (N + 60) c'], by omega, by go_num, HG.out.next HH.out.1 HL.out.1 HL.out.2 h5 ((Only.refl (fun _ => False) wx).alloc _) k2 ((Only.refl _ _).grown k3 (fun _ _ e => e)) (fun b e => (k4 b e).imp (fun q => q) fun q => by rw [World.size_alloc] at q; omega)⟩
    · obtain rfl : i = n := by omega
      have hi2 : ¬ (i : Int) < (i : Int) := by omega
      have hgo := HG.out
      clear H
      go_wp2_with fail
      go_ret
      exact ⟨_, gs, rfl, by rw [HH.out.2.2.1]; exact hgo⟩
end Go.Proofs.YtklccpaphkpgfaaGreat
