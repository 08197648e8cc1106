/- OnceCounts: counts and pins by every calls, in every order. Conditions: none but those of the statement itself. -/
import Derived.Test.YtlcjhnbnjhgklaaLeast
import Derived.Test.YtlcjhnbnjhgklaaDrop
import Derived.Deep.DeepCutAuto
import Derived.Deep.CutBlock
import Derived.OpenShut
import Derived.ProofKit
import Derived.Deep.Slices
import Derived.Deep.Fields
import Derived.ChangeSame
namespace Go.Proofs.Ytlcjhnbnjhgklaa.onceCounts
open Go.RowKit Go.MuLone

def Num (w : World) (b : Nat) (x : Int) : Prop := w.cell? ⟨b, 0, none⟩ = some (.int .i64 x) ∧ w.frozen? ⟨b, 0, none⟩ = false
theorem Num.only {w w' : World} {b : Nat} {x : Int} {S : Nat → Prop} (h : Num w b x) (ho : Only S w w') (hb : ¬ S b) : Num w' b x :=
  ⟨(ho.cell (lt_of_cell h.1) hb).trans h.1, (ho.frozen (lt_of_cell h.1) hb).trans h.2⟩

def W64 (n : Int) : Prop := -9223372036854775808 ≤ n ∧ n ≤ 9223372036854775807

/-- What stands between two acts: the count's number, the pins, and the same pins in a row of the statement's own. -/
structure St (w0 wr : World) (C : Nat) (n : Int) (ids : Nat) (L : List (Int × Int)) (sv pv : Value) (m : Nat) : Prop where
  hn : W64 n
  hi : ids ≤ m
  hl : L.length ≤ m
  c : Num wr C n
  p : PinsIs wr (C + 1) sv ids L
  own : wr.ownsRow 0 68 2 pv L.length (flat L)
  s1 : ∀ k, sv.ownBlock = some k → C + 1 < k
  s2 : ∀ k, pv.ownBlock = some k → C + 1 < k ∧ sv.ownBlock ≠ some k
  C0 : w0.heap.size ≤ C
  below : Below w0.heap.size w0 wr

theorem St.grown {w0 wr wr' : World} {C : Nat} {n : Int} {ids : Nat} {L : List (Int × Int)} {sv pv : Value} {m : Nat} (h : St w0 wr C n ids L sv pv m) (o : Only (fun _ => False) wr wr') : St w0 wr' C n ids L sv pv m :=
  ⟨h.hn, h.hi, h.hl, h.c.only o id, h.p.only o id (fun _ _ => id), own_only h.own o (fun _ _ => id), h.s1, h.s2, h.C0, h.below.trans (o.below h.below.size fun _ _ => id)⟩
theorem St.more {w0 wr : World} {C : Nat} {n : Int} {ids : Nat} {L : List (Int × Int)} {sv pv : Value} {m m' : Nat} (h : St w0 wr C n ids L sv pv m) (hm : m ≤ m') : St w0 wr C n ids L sv pv m' :=
  ⟨h.hn, by have := h.hi; omega, by have := h.hl; omega, h.c, h.p, h.own, h.s1, h.s2, h.C0, h.below⟩
/-- The count's number is another one. -/
theorem St.count {w0 wr : World} {C : Nat} {n : Int} {ids : Nat} {L : List (Int × Int)} {sv pv : Value} {m : Nat} (h : St w0 wr C n ids L sv pv m) (n' : Int) (hn : W64 n') : St w0 (wr.setCell ⟨C, 0, none⟩ (.int .i64 n')) C n' ids L sv pv m := by
  have o : Only (fun k => k = C) wr (wr.setCell ⟨C, 0, none⟩ (.int .i64 n')) := (Only.refl (fun k => k = C) wr).put C 0 rfl _
  refine ⟨hn, h.hi, h.hl, ⟨same_cell h.c.1 _, by simpa using h.c.2⟩, h.p.only o (by omega) (fun k hk q => by have := h.s1 k hk; omega), own_only h.own o (fun k hk q => by have := (h.s2 k hk).1; omega), h.s1, h.s2, h.C0, h.below.trans (o.below h.below.size fun k hk q => by have := h.C0; omega)⟩

theorem W64.wrap (n : Int) : W64 (wrap64 n) := by unfold W64 wrap64; omega

/-- A further pin, in the pins and in the row. -/
theorem St.pin {w0 wr wa wb : World} {C : Nat} {n x : Int} {ids : Nat} {L : List (Int × Int)} {sv sv' pv : Value} {m : Nat} {a' : Option Addr} {c' : Nat} {T : Nat → Prop} (h : St w0 wr C n ids L sv pv m)
    (oa : Only T wr wa) (hT : ∀ k, k < wr.heap.size → T k → pv.ownBlock = some k) (hown : wa.ownsRow 0 68 2 (.slice a' (L.length + 1) c') (L.length + 1) (flat L ++ [.int .i64 ((ids : Int) + 1), .int .i64 x]))
    (hmv : ∀ k, Value.ownBlock (.slice a' (L.length + 1) c') = some k → pv.ownBlock = some k ∨ wr.heap.size ≤ k)
    (hp : PinsIs wb (C + 1) sv' ((ids : Int) + 1) (L ++ [((ids : Int) + 1, x)])) (hmp : Moved wa sv sv') (ob : Only (fun k => k = C + 1 ∨ sv.ownBlock = some k) wa wb) :
    St w0 wb C n (ids + 1) (L ++ [((ids : Int) + 1, x)]) sv' (.slice a' (L ++ [((ids : Int) + 1, x)]).length c') (m + 1) := by
  have lp := lt_of_cell h.p.p0
  have hC : C < wr.heap.size := by omega
  have nT : ∀ k, k < wr.heap.size → k ≤ C + 1 → ¬ T k := fun k hk hc q => by have := (h.s2 k (hT k hk q)).1; omega
  have e : flat (L ++ [((ids : Int) + 1, x)]) = flat L ++ [.int .i64 ((ids : Int) + 1), .int .i64 x] := by simp [flat]
  have z := oa.size
  have hc2 : Num wb C n := (h.c.only (oa.mono (T := fun k => T k ∨ wr.heap.size ≤ k) fun _ _ q => .inl q) (fun q => q.elim (nT C hC (by omega)) (fun q => by omega))).only ob (fun q => q.elim (fun q => by omega) (fun q => by have := h.s1 C q; omega))
  have hlt : ∀ k, sv.ownBlock = some k → k < wr.heap.size := fun k hk => (h.p.own.lt k hk).2
  have hlt2 : ∀ k, pv.ownBlock = some k → k < wr.heap.size := fun k hk => (h.own.lt k hk).2
  have nev : ∀ k, Value.ownBlock (.slice a' (L.length + 1) c') = some k → C + 1 < k ∧ sv.ownBlock ≠ some k := fun k hk => by
    rcases hmv k hk with q | q
    · exact h.s2 k q
    · exact ⟨by omega, fun q2 => by have := hlt k q2; omega⟩
  refine ⟨h.hn, by have := h.hi; omega, by rw [List.length_append]; have := h.hl; simp; omega, hc2, by exact_mod_cast hp, ?_, ?_, ?_, h.C0, ?_⟩
  · rw [e, List.length_append]
    exact own_only hown ob (fun k hk q => q.elim (fun q => by have := (nev k hk).1; omega) (fun q => (nev k hk).2 q))
  · intro k hk
    rcases hmp k hk with q | q
    · exact h.s1 k q
    · omega
  · intro k hk
    rw [List.length_append] at hk
    have q := nev k hk
    refine ⟨q.1, fun q2 => ?_⟩
    rcases hmp k q2 with q3 | q3
    · exact q.2 q3
    · have := (hown.lt k hk).2; omega
  · have b1 : Below w0.heap.size wr wa := oa.below h.below.size (fun k hk q => by
      have hk2 : k < wr.heap.size := by have := h.below.size; omega
      exact nT k hk2 (by have := h.C0; omega) q)
    have b2 : Below w0.heap.size wa wb := ob.below (by have := h.below.size; omega) (fun k hk q => q.elim (fun q => by have := h.C0; omega) (fun q => by have := h.s1 k q; have := h.C0; omega))
    exact h.below.trans (b1.trans b2)

/-- A drop, in the pins and in the row. -/
theorem St.drop {w0 wr wa wb : World} {C : Nat} {n d : Int} {ids : Nat} {L : List (Int × Int)} {sv sv' pv pv' : Value} {m : Nat} (h : St w0 wr C n ids L sv pv m)
    (oa : Only (fun _ => False) wr wa) (hown : wa.ownsRow 0 68 2 pv' (without d L).length (flat (without d L))) (hmv : ∀ k, pv'.ownBlock = some k → wr.heap.size ≤ k)
    (hp : PinsIs wb (C + 1) sv' ids (without d L)) (hs : sv'.ownBlock = sv.ownBlock) (ob : Only (fun k => k = C + 1 ∨ sv.ownBlock = some k) wa wb) :
    St w0 wb C n ids (without d L) sv' pv' m := by
  have lp := lt_of_cell h.p.p0
  have hlt : ∀ k, sv.ownBlock = some k → k < wr.heap.size := fun k hk => (h.p.own.lt k hk).2
  have hl : (without d L).length ≤ L.length := List.length_filter_le _ _
  refine ⟨h.hn, h.hi, by have := h.hl; omega, (h.c.only oa id).only ob (fun q => q.elim (fun q => by omega) (fun q => by have := h.s1 C q; omega)), hp, ?_, ?_, ?_, h.C0, ?_⟩
  · exact own_only hown ob (fun k hk q => q.elim (fun q => by have := hmv k hk; omega) (fun q => by have := hmv k hk; have := hlt k q; omega))
  · intro k hk; rw [hs] at hk; exact h.s1 k hk
  · intro k hk
    have q := hmv k hk
    exact ⟨by omega, fun q2 => by rw [hs] at q2; have := hlt k q2; omega⟩
  · have b1 : Below w0.heap.size wr wa := oa.below h.below.size (fun _ _ => id)
    have b2 : Below w0.heap.size wa wb := ob.below (by have := h.below.size; have := oa.size; omega) (fun k hk q => q.elim (fun q => by have := h.C0; omega) (fun q => by have := h.s1 k q; have := h.C0; omega))
    exact h.below.trans (b1.trans b2)

theorem take_eq (d : Int) (L : List (Int × Int)) (j : Nat) (h : j < L.length) (e : (L.getD j (0, 0)).1 = d) : without d (L.take (j + 1)) = without d (L.take j) := by
  rw [List.take_succ_eq_append_getElem h]
  exact without_eq _ _ _ (by simpa [List.getD, h] using e)
theorem take_ne (d : Int) (L : List (Int × Int)) (j : Nat) (h : j < L.length) (e : (L.getD j (0, 0)).1 ≠ d) : without d (L.take (j + 1)) = without d (L.take j) ++ [L.getD j (0, 0)] := by
  rw [List.take_succ_eq_append_getElem h]
  have q : L.getD j (0, 0) = L[j] := by simp [List.getD, h]
  rw [q] at e ⊢
  exact without_ne _ _ _ e
theorem flat_snoc (l : List (Int × Int)) (p : Int × Int) : flat (l ++ [p]) = flat l ++ [.int .i64 p.1, .int .i64 p.2] := by simp [flat]
theorem aa_some {w : World} {aa : Option Addr} {n c : Nat} {xs : List Value} (h : w.ownsRow 0 68 2 (.slice aa n c) n xs) (hn : 0 < n) : ∃ pb, aa = some ⟨pb, 0, none⟩ := by
  rcases h.2 with ⟨_, q⟩ | ⟨g, cap, cur, q, _⟩
  · omega
  · cases q; exact ⟨g, rfl⟩

/-- The least number of the first j pins; 0 of none. -/
def lst (L : List (Int × Int)) : Nat → Int
  | 0 => 0
  | j + 1 => (mn L j).2
theorem lst_lt (L : List (Int × Int)) (j : Nat) (h : (L.getD (j + 1) (0, 0)).2 < lst L (j + 1)) : lst L (j + 2) = (L.getD (j + 1) (0, 0)).2 := by
  change _ < (mn L j).2 at h
  show (mn L (j + 1)).2 = _
  have q : cmpOf (L.getD (j + 1) (0, 0)) (mn L j) < 0 := by unfold cmpOf; rw [if_pos h]; omega
  rw [mn, if_pos q]
theorem lst_ge (L : List (Int × Int)) (j : Nat) (h : ¬ (L.getD (j + 1) (0, 0)).2 < lst L (j + 1)) : lst L (j + 2) = lst L (j + 1) := by
  change ¬ _ < (mn L j).2 at h
  show (mn L (j + 1)).2 = _
  have q : ¬ cmpOf (L.getD (j + 1) (0, 0)) (mn L j) < 0 := by unfold cmpOf; rw [if_neg h]; split <;> omega
  rw [mn, if_neg q]
  rfl

theorem lawPinInfo : (Try.prog.info? 68).map (fun i => (i.zero, i.size, i.bytes)) = some (some (.agg #[.int .i64 0, .int .i64 0]), 2, 16) := by kernel_rfl

/-- The acts, as they lie in memory. -/
def ArgAt (w : World) (a : Option Addr) (l : List (Int × Int)) : Prop := ∀ i, i < l.length → ∃ b off, a = some ⟨b, off, none⟩ ∧ w.cell? ⟨b, off + i * 2, none⟩ = some (.int .i64 (l.getD i (0, 0)).1) ∧ w.cell? ⟨b, off + i * 2 + 1, none⟩ = some (.int .i64 (l.getD i (0, 0)).2) ∧ W64 (l.getD i (0, 0)).2

set_option maxRecDepth 100000 in
set_option maxHeartbeats 2000000 in
theorem walk_in (a : Option Addr) (len cap : Nat) (l : List (Int × Int)) (hl : l.length = len) (hlen : len ≤ 100) (w : World) (ha : ArgAt w a l) :
    Calls Try.prog 7 #[.slice a len cap] w fun e w' => e = .returned (.bool true) ∧ Below w.heap.size w w' := by
  have HA := Lib.hid ha
  have HL := Lib.hid hl
  clear ha hl
  go_enter Try.func7, Try.ntmps7
  go_wp2_with fail
  refine (alive_true _).mono ?_
  rintro e w1 ⟨rfl, hb⟩
  have n1 := hb.size
  have hst : St w ((w1.alloc (.cells #[.int .i64 0] 56)).alloc (.cells #[.int .i32 0, .int .u32 0, .int .i64 0, .slice none 0 0] 63)) w1.heap.size 0 0 [] (.slice none 0 0) (.slice none 0 0) 0 := by
    refine ⟨⟨by omega, by omega⟩, by omega, by simp, ⟨by go_simp, by go_simp⟩, ⟨by simp, by simp, by simp, World.ownsRow_nil _ _ _ _, by simp [Value.ownBlock], by simp, by simp, by simp⟩, World.ownsRow_nil _ _ _ _, (fun k h => by cases h), (fun k h => by cases h), n1, ?_⟩
    exact (hb.alloc n1 _).alloc (by simp; omega) _
  have HS := Lib.hid hst
  clear hst hb
  go_wp2_with fail
  go_loopg [5, 6, 7, 8] len (fun gh s5 s6 s7 s8 wr => ∃ (n : Int) (ids k : Nat) (L : List (Int × Int)) (sv pv : Value), gh + k = len ∧ s5 = .int .i64 n ∧ s6 = .int .i64 ids ∧ s7 = pv ∧ s8 = .int .i64 k ∧ St w wr w1.heap.size n ids L sv pv k)
  case atStart => exact ⟨0, 0, 0, [], _, _, by omega, rfl, rfl, rfl, rfl, HS.out⟩
  case round =>
    obtain ⟨n, ids, k, L, sv, pv, hgk, rfl, rfl, rfl, rfl, hst⟩ := hrel
    clear HS
    by_cases hlt : k < len
    · obtain ⟨b, off, rfl, hc0, hc1, hw⟩ := HA.out k (by rw [HL.out]; exact hlt)
      have e0 := (hst.below.cell (p := ⟨b, off + k * 2, none⟩) (lt_of_cell hc0)).trans hc0
      have e1 := (hst.below.cell (p := ⟨b, off + k * 2 + 1, none⟩) (lt_of_cell hc0)).trans hc1
      have w4 : (k : Int) < (len : Int) := by omega
      obtain ⟨aa, cc, rfl⟩ := ownsRow_form hst.own
      clear hc0 hc1
      generalize l.getD k (0, 0) = o at *
      go_upto_block 2 with (fail)
      have g1 := hst.grown ((Only.refl (fun _ => False) wr).alloc (.cells #[.int .i64 o.1, .int .i64 o.2] 66))
      have x0 : (wr.alloc (.cells #[.int .i64 o.1, .int .i64 o.2] 66)).cell? ⟨wr.heap.size, 0, none⟩ = some (.int .i64 o.1) := by simp
      have x1 : (wr.alloc (.cells #[.int .i64 o.1, .int .i64 o.2] 66)).cell? ⟨wr.heap.size, 1, none⟩ = some (.int .i64 o.2) := by simp
      have lC := lt_of_cell hst.p.p0
      have lpv := fun k hk => (hst.own.lt k hk).2
      have lsv := fun k hk => (hst.p.own.lt k hk).2
      clear hst e0 e1
      generalize (wr.alloc (.cells #[.int .i64 o.1, .int .i64 o.2] 66)) = W at *
      generalize wr.heap.size = ob at *
      have q0 := g1.c.1
      have q1 := g1.c.2
      have v1 := g1.hn.1
      have v2 := g1.hn.2
      have v3 := hw.1
      have v4 := hw.2
      go_cut [5, 6, 7] (fun s5 s6 s7 wx => ∃ (n' : Int) (ids' : Nat) (L' : List (Int × Int)) (sv' : Value) (aa' : Option Addr) (cc' : Nat), s5 = .int .i64 n' ∧ s6 = .int .i64 ids' ∧ s7 = .slice aa' L'.length cc' ∧ St w wx w1.heap.size n' ids' L' sv' (.slice aa' L'.length cc') (k + 1))
      case first =>
        have hk : o.1 = 1 ∨ o.1 = 2 ∨ o.1 = 3 ∨ o.1 = 4 ∨ (o.1 ≠ 1 ∧ o.1 ≠ 2 ∧ o.1 ≠ 3 ∧ o.1 ≠ 4) := by omega
        obtain ⟨o0, o1⟩ := o
        dsimp only at *
        rcases hk with rfl | rfl | rfl | rfl | ⟨k1, k2, k3, k4⟩
        · go_wp2_with fail
          (with_reducible refine (count_add _ n o1 _ q0 q1).mono ?_)
          rintro e w' ⟨rfl, rfl⟩
          go_wp2_with fail
          go_meet
          case rel => exact ⟨_, ids, L, sv, _, _, rfl, rfl, rfl, (g1.count _ (W64.wrap _)).more (by omega)⟩
        · by_cases hm : o1 ≤ n
          · go_wp2_with fail
            (with_reducible refine (count_most_no _ n o1 _ q0 hm).mono ?_)
            rintro e w' ⟨rfl, rfl⟩
            go_wp2_with fail
            go_meet
            case rel => exact ⟨_, ids, L, sv, _, _, rfl, rfl, rfl, g1.more (by omega)⟩
          · have hm' : n < o1 := by omega
            go_wp2_with fail
            (with_reducible refine (count_most_yes _ n o1 _ q0 q1 hm').mono ?_)
            rintro e w' ⟨rfl, rfl⟩
            go_wp2_with fail
            go_meet
            case rel => exact ⟨_, ids, L, sv, _, _, rfl, rfl, rfl, (g1.count _ hw).more (by omega)⟩
        · by_cases hm : n < o1
          · go_wp2_with fail
            (with_reducible refine (count_take_yes _ n o1 _ q0 q1 hm v1 v4).mono ?_)
            rintro e w' ⟨rfl, rfl⟩
            go_wp2_with fail
            go_meet
            case rel => exact ⟨_, ids, L, sv, _, _, rfl, rfl, rfl, (g1.count _ ⟨by omega, by omega⟩).more (by omega)⟩
          · have hm' : o1 ≤ n := by omega
            go_wp2_with fail
            (with_reducible refine (count_take_no _ n o1 _ q0 hm').mono ?_)
            rintro e w' ⟨rfl, rfl⟩
            go_wp2_with fail
            go_meet
            case rel => exact ⟨_, ids, L, sv, _, _, rfl, rfl, rfl, g1.more (by omega)⟩
        · obtain ⟨i1, hi, hz0, hz1, hz2⟩ := info_parts lawPinInfo
          have gi := g1.hi
          have gl := g1.hl
          have oA : Only (fun _ => False) W (W.alloc (.cells #[.int .i64 ((ids : Int) + 1), .int .i64 o1] 68)) := (Only.refl _ W).alloc _
          go_wp2_with (at_builtin; (refine wpList_append_moved _ rfl _ _ 64 rfl 68 i1 _ 2 16 Try.underlying64 hi hz0 hz1 hz2 rfl (by decide) _ _ _ rfl (g1.own.alloc _) ⟨W.heap.size, 0, none⟩ 1 1 [.int .i64 ((ids : Int) + 1), .int .i64 o1] rfl rfl (cells_new W [.int .i64 ((ids : Int) + 1), .int .i64 o1] 68 _) (by simp [Value.oneCell']) (by unfold maxLen; omega) (by omega) ?_); intro a' c' wa hown hgr hmv; have oB := (oA.mono (T := fun k => Value.ownBlock (.slice aa L.length cc) = some k) (fun _ _ h => h.elim)).grown hgr (fun k _ h => h); clear hgr; have y1 := (oB.cell (p := ⟨ob, 1, none⟩) (lt_of_cell x1) (fun q => Nat.lt_irrefl _ (lpv _ q))).trans x1)
          have hp1 := (g1.p.only oB (fun q => by have := (g1.s2 _ q).1; omega) (fun k hk q => (g1.s2 k q).2 hk))
          (with_reducible refine (pin_any _ sv ids o1 L _ hp1 (by omega) (by omega) (by omega)).mono ?_)
          rintro e wb ⟨rfl, sv', hp2, hm2, ob2⟩
          have hfin := g1.pin oB (fun k _ q => q) hown (fun k hk => (hmv k hk).imp id (fun h => by simp at h; omega)) hp2 hm2 ob2
          have HF := Lib.hid hfin
          clear hfin hp2 hm2 ob2 oB hown hmv hp1 oA
          go_wp2_with fail
          go_meet
          case rel => exact ⟨_, ids + 1, _, sv', a', c', rfl, by go_num, by rw [List.length_append]; rfl, HF.out⟩
        · have b1 : (o0 == 1) = false := beq_eq_false_iff_ne.2 k1
          have b2 : (o0 == 2) = false := beq_eq_false_iff_ne.2 k2
          have b3 : (o0 == 3) = false := beq_eq_false_iff_ne.2 k3
          have b4 : (o0 == 4) = false := beq_eq_false_iff_ne.2 k4
          obtain ⟨i1, hi, hz0, hz1, hz2⟩ := info_parts lawPinInfo
          have gl := g1.hl
          clear k1 k2 k3 k4 x0 q0 q1 v1 v2
          go_wp2_with fail
          go_loopg [11, 12] L.length (fun gh s11 s12 wx => ∃ (j : Nat) (al : Option Addr) (cl : Nat), gh + j = L.length ∧ s12 = .int .i64 j ∧ s11 = .slice al (without o1 (L.take j)).length cl ∧ wx.ownsRow 0 68 2 (.slice al (without o1 (L.take j)).length cl) (without o1 (L.take j)).length (flat (without o1 (L.take j))) ∧ (∀ k, Value.ownBlock (.slice al (without o1 (L.take j)).length cl) = some k → W.heap.size ≤ k) ∧ Only (fun _ => False) W wx)
          case atStart => exact ⟨0, none, 0, by omega, rfl, rfl, World.ownsRow_nil _ _ _ _, (fun k h => by cases h), Only.refl _ _⟩
          case round =>
            obtain ⟨j, al, cl, hgj, rfl, rfl, hown, hnew, ho⟩ := hrel
            by_cases hj : j < L.length
            · obtain ⟨pb, rfl⟩ := aa_some g1.own (by omega)
              have ow := own_only g1.own ho (fun _ _ => id)
              have c0 := own_cell ow _ _ (flat_get L j hj).1
              have c1 := own_cell ow _ _ (flat_get L j hj).2
              have z1 := (ho.cell (p := ⟨ob, 1, none⟩) (lt_of_cell x1) id).trans x1
              have wl : (without o1 (L.take j)).length ≤ 100 := by
                have q := List.length_filter_le (fun p : Int × Int => !(p.1 == o1)) (L.take j)
                rw [List.length_take] at q
                show (List.filter _ _).length ≤ 100
                omega
              have w5 : (j : Int) < (L.length : Int) := by omega
              have w6 : (0 : Int) ≤ (j : Int) := by omega
              have od : Only (fun _ => False) wr wr.drew := (Only.refl _ wr).drew
              by_cases hx : (L.getD j (0, 0)).1 = o1
              · have HT := Lib.hid (take_eq o1 L j hj hx)
                have hbx : ((L.getD j (0, 0)).1 != o1) = false := by rw [hx]; simp
                clear hx
                generalize L.getD j (0, 0) = x at *
                go_wp2_with fail
                go_region_held3 (fun w' => w'.cell? ⟨pb, j * 2, none⟩ = some (.int .i64 x.1) ∧ w'.cell? ⟨ob, 1, none⟩ = some (.int .i64 o1)) (exact ⟨c0, z1⟩) (fail)
                go_wp2_with fail
                go_roundg (gk - 1)
                case measure => omega
                case rel =>
                  refine ⟨j + 1, al, cl, by omega, by go_num, ?_, ?_, ?_, ho.drew⟩
                  · rw [HT.out]
                  · rw [HT.out]; exact hown
                  · rw [HT.out]; exact hnew
              · have HT := Lib.hid (take_ne o1 L j hj hx)
                have hbx : ((L.getD j (0, 0)).1 != o1) = true := by simpa using hx
                clear hx
                generalize L.getD j (0, 0) = x at *
                have oC : Only (fun _ => False) wr (wr.alloc (.cells #[.int .i64 x.1, .int .i64 x.2] 68)).drew := ((Only.refl _ wr).alloc _).drew
                go_wp2_with fail
                go_region_held3 (fun w' => w'.cell? ⟨pb, j * 2, none⟩ = some (.int .i64 x.1) ∧ w'.cell? ⟨ob, 1, none⟩ = some (.int .i64 o1)) (exact ⟨c0, z1⟩) (fail)
                go_wp2_with (at_builtin; refine wpList_append_moved _ rfl _ _ 64 rfl 68 i1 _ 2 16 Try.underlying64 hi hz0 hz1 hz2 rfl (by decide) _ _ _ rfl (hown.drew.alloc _) ⟨wr.heap.size, 0, none⟩ 1 1 [.int .i64 x.1, .int .i64 x.2] rfl rfl (cells_new wr.drew [.int .i64 x.1, .int .i64 x.2] 68 _) (by simp [Value.oneCell']) (by unfold maxLen; omega) (by omega) ?_; intro a' c' wa hown2 hgr hmv)
                go_roundg (gk - 1)
                case measure => omega
                case rel =>
                  have oD := (oC.mono (T := fun k => Value.ownBlock (.slice al (without o1 (L.take j)).length cl) = some k) (fun _ _ h => h.elim)).grown hgr (fun k _ h => h)
                  have lw := ho.size
                  refine ⟨j + 1, a', c', by omega, by go_num, ?_, ?_, ?_, ho.trans oD (fun k hk q => by have := hnew k q; omega)⟩
                  · rw [HT.out, List.length_append]; rfl
                  · rw [HT.out, flat_snoc, List.length_append]; exact hown2
                  · rw [HT.out, List.length_append]
                    intro k hk
                    rcases hmv k hk with q | q
                    · exact hnew k q
                    · simp at q; omega
            · obtain rfl : j = L.length := by omega
              rw [List.take_length] at hown hnew ⊢
              have z1 := (ho.cell (p := ⟨ob, 1, none⟩) (lt_of_cell x1) id).trans x1
              have hp := g1.p.only ho id (fun _ _ => id)
              go_wp2_with fail
              (with_reducible refine (drop_any _ sv ids o1 L _ hp).mono ?_)
              rintro e wb ⟨rfl, sv', hp2, hs2, ob2⟩
              have hfin := (g1.drop ho hown hnew hp2 hs2 ob2).more (m' := k + 1) (by omega)
              have HF := Lib.hid hfin
              clear hfin hp2 hs2 ob2 hown hnew hp
              go_wp2_with fail
              go_meet
              case rel => exact ⟨_, ids, _, sv', al, cl, rfl, rfl, rfl, HF.out⟩
      case rest =>
        obtain ⟨n', ids', L', sv', aa', cc', rfl, rfl, rfl, g2⟩ := hcut
        have gl := g2.hl
        clear g1 q0 q1 v1 v2 v3 v4 x0 x1 hw lpv lsv lC
        go_wp2_with fail
        go_loop [13, 15] (fun s13 s15 => ∃ j : Nat, j ≤ L'.length ∧ s15 = .int .i64 j ∧ s13 = .int .i64 (lst L' j)) (fun _ s15 => (L'.length - intOf s15).toNat)
        case atStart => exact ⟨0, by omega, rfl, rfl⟩
        case round =>
          obtain ⟨j, hj1, rfl, rfl⟩ := hrel
          by_cases hj : j < L'.length
          · obtain ⟨pb, rfl⟩ := aa_some g2.own (by omega)
            have c1 := own_cell g2.own _ _ (flat_get L' j hj).2
            have w5 : (j : Int) < (L'.length : Int) := by omega
            cases j with
            | zero =>
              have HV : Hid (lst L' 1 = (L'.getD 0 (0, 0)).2) := Lib.hid rfl
              generalize L'.getD 0 (0, 0) = x at *
              go_wp2_with fail
              go_round
              case rel => exact ⟨1, by omega, rfl, by rw [HV.out]⟩
              case measure => simp [intOf]; omega
            | succ j =>
              have b0 : (((j + 1 : Nat) : Int) == 0) = false := beq_eq_false_iff_ne.2 (by omega)
              by_cases hx : (L'.getD (j + 1) (0, 0)).2 < lst L' (j + 1)
              · have HV := Lib.hid (lst_lt L' j hx)
                generalize L'.getD (j + 1) (0, 0) = x at *
                generalize lst L' (j + 1) = y at *
                go_wp2_with fail
                go_round
                case rel => exact ⟨j + 1 + 1, by omega, by go_num, by rw [HV.out]⟩
                case measure => simp [intOf]; omega
              · have HV := Lib.hid (lst_ge L' j hx)
                generalize L'.getD (j + 1) (0, 0) = x at *
                go_wp2_with fail
                go_round
                case rel => exact ⟨j + 1 + 1, by omega, by go_num, by rw [HV.out]⟩
                case measure => simp [intOf]; omega
          · obtain rfl : j = L'.length := by omega
            have hleast : Calls Try.prog 26 #[.pointer (some ⟨w1.heap.size + 1, 0, none⟩)] wc fun e w' => e = .returned (.tuple #[.int .i64 (lst L' L'.length), .bool (decide (0 < L'.length))]) ∧ LeastPost wc (w1.heap.size + 1) sv' ids' L' w' := by
              cases hL : L' with
              | nil => subst hL; exact least_none _ sv' ids' wc g2.p
              | cons x xs =>
                rw [← hL]
                have hlen : L'.length = xs.length + 1 := by rw [hL]; rfl
                have q := least_some _ xs.length sv' ids' L' wc g2.p hlen
                have e1 : lst L' L'.length = (mn L' xs.length).2 := by rw [hlen]; rfl
                have e2 : decide (0 < L'.length) = true := by rw [hlen]; simp
                rw [e1, e2]
                exact q
            have HM := Lib.hid hleast
            clear hleast
            go_wp2_with fail
            (with_reducible refine HM.out.mono ?_)
            rintro e wd ⟨rfl, hp3, o3⟩
            have hc3 := g2.c.only o3 (by omega)
            have q0 := hc3.1
            have s1 := g2.s1
            go_wp2_with fail
            (with_reducible refine (count_now _ n' _ q0).mono ?_)
            rintro e w' ⟨rfl, rfl⟩
            go_wp2_with fail
            (with_reducible refine (len_any _ sv' ids' L' _ hp3).mono ?_)
            rintro e we ⟨rfl, hp4, o4⟩
            have o5 := o3.trans o4 fun _ _ h => h
            have hfin : St w we w1.heap.size n' ids' L' sv' (.slice aa' L'.length cc') (k + 1) :=
              ⟨g2.hn, g2.hi, g2.hl, hc3.only o4 (by omega), hp4, own_only g2.own o5 (fun k hk q => by have := (g2.s2 k hk).1; omega), g2.s1, g2.s2, g2.C0, g2.below.trans (o5.below g2.below.size fun k hk q => by have := g2.C0; omega)⟩
            have HF := Lib.hid hfin
            clear hfin hp4 o4 o5 hc3 hp3 o3 q0 s1 g2 HM
            go_wp2_with fail
            go_roundg (gk - 1)
            case measure => omega
            case rel => exact ⟨n', ids', k + 1, L', sv', _, by omega, rfl, rfl, rfl, by go_num, HF.out⟩
    · go_wp2_with fail
      go_ret
      exact ⟨rfl, hst.below⟩

set_option maxRecDepth 100000 in
theorem walk_out (a : Option Addr) (len cap : Nat) (hn : ¬ len ≤ 100) (w : World) :
    Calls Try.prog 7 #[.slice a len cap] w fun e w' => e = .returned (.bool true) ∧ Below w.heap.size w w' := by
  have h : (100 : Int) < (len : Int) := by omega
  go_enter Try.func7, Try.ntmps7
  go_wp2_with (go_at_call 9; refine (alive_true _).mono ?_; rintro e w' ⟨rfl, hb⟩)
  go_ret
  exact ⟨rfl, hb⟩
end Go.Proofs.Ytlcjhnbnjhgklaa.onceCounts
