/- The law's book: one entry that is lent with a mark behind it, and held against what it was. Conditions: one goroutine; its commands are few. -/
import Derived.Test.YtlkknekflgclgaaGreatDoorZBkCB
import Derived.Test.YtlkknekflgclgaaGreatDoorZCq9
namespace Go.Proofs.YtlkknekflgclgaaGreatDoor
open Go.RowKit Go.MuLone

theorem row_keep {α : Type} {enc : α → List Value} {k : Nat} {w w' : World} {v : Value} {l : List α} {S : Nat → Prop} (h : RowAt enc k w v l) (ho : Only S w w') (hs : ∀ b, b < w.heap.size → rowBlock v = some b → ¬ S b) : RowAt enc k w' v l := by
  cases h with
  | none => exact .none
  | some g off cap _ hc =>
    refine .some g off cap l fun i x j u hx hu => ?_
    have h1 := hc i x j u hx hu
    exact (ho.cell (p := ⟨g, off + (i * k + j), none⟩) (lt_of_cell h1) (hs g (lt_of_cell h1) rfl)).trans h1
theorem own_room {w : World} {e : TypeId} {size n c m : Nat} {ao : Option Addr} {xs : List Value} (h : w.ownsRow 0 e size (.slice ao n c) m xs) (hn : 0 < n) : ∃ g, ao = some ⟨g, 0, none⟩ ∧ n ≤ c ∧ 1 ≤ c ∧ (1 : Int) ≤ (c : Int) := by
  rcases h.2 with ⟨q, _⟩ | ⟨g, cap, _, q, _, _, hnc, _⟩
  · simp only [Value.slice.injEq] at q
    omega
  · simp only [Value.slice.injEq] at q
    obtain ⟨rfl, rfl, rfl⟩ := q
    exact ⟨g, rfl, hnc, by omega, by omega⟩
def entC (i t c s : Int) (v : Value) : List Value := [.int .i64 i, .int .i64 t, .int .i64 c, .int .i64 s, v]
theorem entInfo : (Tryz.prog.info? 57).map (fun i => (i.size, i.bytes, i.zero.map fun z => z.cells.size)) = some (5, 56, some 5) := by kernel_rfl
/-- What the copy of one entry tells. -/
def CopyETold (w : World) (i t c s : Int) (l : List Cq) : Ending → World → Prop := fun e w' => ∃ g' c' vC, e = .returned (.slice (some ⟨g', 0, none⟩) 1 c') ∧ w'.ownsRow 0 57 5 (.slice (some ⟨g', 0, none⟩) 1 c') 1 (entC i t c s vC) ∧ RowAt cmdC 5 w' vC l ∧ Only (fun _ => False) w w' ∧ w.heap.size ≤ g' ∧ (∀ b, b < w'.heap.size → rowBlock vC = some b → b ≠ g')
set_option maxRecDepth 100000 in
set_option maxHeartbeats 4000000 in
theorem copyE_is (w : World) (g cap : Nat) (i t c s : Int) (v : Value) (l : List Cq) (hl : l.length ≤ 1000000) (he : ∀ j u, (entC i t c s v)[j]? = some u → w.cell? ⟨g, j, none⟩ = some u) (hv : RowAt cmdC 5 w v l) (hone : v.oneCell' = true) :
    Calls Tryz.prog 109 #[.slice (some ⟨g, 0, none⟩) 1 cap] w (CopyETold w i t c s l) := by
  obtain ⟨i0, zz, hi, hz0, hz1, hz2, hz3⟩ := bk.info_split entInfo
  have hnews : ∀ ad, (some (⟨g, 0, none⟩ : Addr)) = some ad → ∀ j u, (entC i t c s v)[j]? = some u → w.cell? (ad.add j) = some u := fun ad ha j u hj => by
    cases ha
    have e : ((⟨g, 0, none⟩ : Addr).add j) = ⟨g, j, none⟩ := by unfold Addr.add; split <;> simp_all
    rw [e]
    exact he j u hj
  have h1 : ∀ u ∈ entC i t c s v, u.oneCell' = true := fun u hu => by
    simp only [entC, List.mem_cons, List.not_mem_nil, or_false] at hu
    rcases hu with rfl | rfl | rfl | rfl | rfl
    · rfl
    · rfl
    · rfl
    · rfl
    · exact hone
  have HV := Lib.hid hv
  clear hv he
  go_enter Tryz.func109, Tryz.ntmps109
  go_wp2_with (at_builtin; refine bk.wpList_append_any _ rfl _ _ 69 rfl 57 i0 _ 5 56 Tryz.underlying69 hi hz0 hz1 hz2 hz3 (by decide) (.slice none 0 0) 0 [] rfl ⟨rfl, .inl ⟨rfl, rfl⟩⟩ (some ⟨g, 0, none⟩) 1 cap (entC i t c s v) rfl rfl (fun q => by cases q) hnews h1 (by decide) (by decide) ?_; intro a' c' wx hown2 hgr hmv; have HG := Lib.hid (And.intro hown2 (And.intro hgr hmv)); clear hown2 hgr hmv)
  obtain ⟨h2, hgr, hmv⟩ := HG.out
  rw [Nat.zero_add] at h2 hmv
  obtain ⟨g', rfl⟩ : ∃ g, a' = some ⟨g, 0, none⟩ := (bk.own_addr h2).resolve_left (fun q => by have := q.2.1; omega)
  have ho : Only (fun _ => False) w wx := (Only.refl _ w).grown hgr (fun j _ e => by cases e)
  have hg' : w.heap.size ≤ g' := (hmv g' rfl).elim (fun e => by cases e) id
  have HS : Hid (wx.ownsRow 0 57 5 (.slice (some ⟨g', 0, none⟩) 1 c') 1 (entC i t c s v) ∧ RowAt cmdC 5 wx v l ∧ Only (fun _ => False) w wx ∧ ∀ b, b < w.heap.size → rowBlock v = some b → b ≠ g') := Lib.hid ⟨by simpa using h2, row_still HV.out ho, ho, fun b hb _ => by omega⟩
  have HG' := Lib.hid hg'
  clear h2 hgr hmv ho HG hg' hnews h1 hi hz0 hz1 hz2 hz3
  go_loopg [3] 1 (fun gh iv wr => ∃ (k : Nat) (u : Value), gh + k = 1 ∧ iv = .int .i64 k ∧ wr.ownsRow 0 57 5 (.slice (some ⟨g', 0, none⟩) 1 c') 1 (entC i t c s u) ∧ RowAt cmdC 5 wr u l ∧ Only (fun _ => False) w wr ∧ (k = 1 → ∀ b, b < wr.heap.size → rowBlock u = some b → b ≠ g'))
  case atStart => exact ⟨0, v, by omega, rfl, HS.out.1, HS.out.2.1, HS.out.2.2.1, fun q => by omega⟩
  case round =>
    obtain ⟨k, u, hk, rfl, hown, hrow, ho, hne⟩ := hrel
    by_cases hk0 : k = 0
    · subst hk0
      have c4 : wr.cell? ⟨g', 4, none⟩ = some u := own_cell hown 4 u rfl
      have f4 := own_frozen hown 4
      have hw1 : IntKind.i64.wrap (0 + 1) = 1 := by decide
      have HC : Hid (Calls Tryz.prog 116 #[u] wr (bk.OwnTold cmdC 5 119 wr l)) := Lib.hid (bk.copyC_is wr u l hrow hl)
      unfold bk.OwnTold at HC
      have HH := Lib.hid (And.intro hown ho)
      have hgl := lt_of_cell c4
      clear hown hrow ho hne
      go_wp2_with fail
      (with_reducible refine HC.out.mono ?_)
      rintro e w2 ⟨v2, rfl, hv2, o2, hn2⟩
      obtain ⟨aC, cC, rfl⟩ := ownsRow_form hv2
      have f42 := (o2.frozen (p := ⟨g', 4, none⟩) hgl id).trans f4
      have c42 := (o2.cell (p := ⟨g', 4, none⟩) hgl id).trans c4
      have H2 := Lib.hid (And.intro hv2 (And.intro o2 hn2))
      clear hv2 o2 hn2 HC f4 c4
      go_wp2_with fail
      go_roundg 0
      case measure => omega
      case rel =>
        obtain ⟨hv2, o2, hn2⟩ := H2.out
        have hown2 := own_set (own_only HH.out.1 o2 (fun _ _ => id)) 4 (.slice aC l.length cC)
        have oS : Only (fun q => q = g') w2 (w2.setCell ⟨g', 4, none⟩ (.slice aC l.length cC)) := (Only.refl (fun q => q = g') w2).put g' 4 rfl (.slice aC l.length cC)
        have hrb : ∀ b, rowBlock (.slice aC l.length cC) = some b → b ≠ g' := fun b hb => by
          rw [bk.rowBlock_own hv2] at hb
          have := hn2 b hb
          omega
        have hr2 := row_only (bk.row_own (enc := cmdC) (k := 5) (fun _ => rfl) hv2) oS (fun b hb q => hrb b hb q)
        refine ⟨1, .slice aC l.length cC, by omega, by go_num, hown2, hr2, ?_, fun _ b _ hb => hrb b hb⟩
        have := HG'.out
        exact (Only.trans ((HH.out.2.trans o2 (fun _ _ q => q)).mono (T := fun q => q = g') (fun _ _ (q : False) => q.elim)) oS (fun _ _ q => q)).mono (fun b hb q => by have q : b = g' := q; omega)
    · obtain rfl : k = 1 := by omega
      have HF := Lib.hid (And.intro hown (And.intro hrow (And.intro ho (hne rfl))))
      clear hown hrow ho hne
      go_wp2_with fail
      go_ret
      exact ⟨g', c', u, rfl, HF.out.1, HF.out.2.1, HF.out.2.2.1, HG'.out, HF.out.2.2.2⟩
/-- How one entry lies behind which there is a mark. -/
structure LentAt (w : World) (g c : Nat) (i t cl s : Int) (l : List Cq) (v : Value) : Prop where
  c0 : w.cell? ⟨g, 0, none⟩ = some (.int .i64 i)
  c1 : w.cell? ⟨g, 1, none⟩ = some (.int .i64 t)
  c2 : w.cell? ⟨g, 2, none⟩ = some (.int .i64 cl)
  c3 : w.cell? ⟨g, 3, none⟩ = some (.int .i64 s)
  c4 : w.cell? ⟨g, 4, none⟩ = some v
  c5 : w.cell? ⟨g, 5, none⟩ = some (.int .i64 (-77))
  row : RowAt cmdC 5 w v l
  cap : 2 ≤ c
theorem LentAt.still {w w' : World} {g c : Nat} {i t cl s : Int} {l : List Cq} {v : Value} (h : LentAt w g c i t cl s l v) (ho : Only (fun _ => False) w w') : LentAt w' g c i t cl s l v :=
  ⟨(ho.cell (p := ⟨g, 0, none⟩) (lt_of_cell h.c0) id).trans h.c0, (ho.cell (p := ⟨g, 1, none⟩) (lt_of_cell h.c0) id).trans h.c1, (ho.cell (p := ⟨g, 2, none⟩) (lt_of_cell h.c0) id).trans h.c2, (ho.cell (p := ⟨g, 3, none⟩) (lt_of_cell h.c0) id).trans h.c3, (ho.cell (p := ⟨g, 4, none⟩) (lt_of_cell h.c0) id).trans h.c4, (ho.cell (p := ⟨g, 5, none⟩) (lt_of_cell h.c0) id).trans h.c5, row_still h.row ho, h.cap⟩
def LentTold (w : World) (i t cl s : Int) (l : List Cq) : Ending → World → Prop := fun e w' => ∃ g c v, e = .returned (.slice (some ⟨g, 0, none⟩) 1 c) ∧ LentAt w' g c i t cl s l v ∧ Only (fun _ => False) w w'
set_option maxRecDepth 100000 in
set_option maxHeartbeats 4000000 in
theorem LentE_is (w : World) (g cap : Nat) (i t c s : Int) (v : Value) (l : List Cq) (hl : l.length ≤ 1000000) (he : ∀ j u, (entC i t c s v)[j]? = some u → w.cell? ⟨g, j, none⟩ = some u) (hv : RowAt cmdC 5 w v l) (hone : v.oneCell' = true) :
    Calls Tryz.prog 25 #[.slice (some ⟨g, 0, none⟩) 1 cap] w (LentTold w i t c s l) := by
  obtain ⟨i0, zz, hi, hz0, hz1, hz2, hz3⟩ := bk.info_split entInfo
  have HC := Lib.hid (copyE_is w g cap i t c s v l hl he hv hone)
  unfold CopyETold at HC
  clear he hv hone
  go_enter Tryz.func25, Tryz.ntmps25
  go_wp2_with fail
  (with_reducible refine HC.out.mono ?_)
  rintro e w2 ⟨g', c', vC, rfl, hown, hrow, ho, hg, hne⟩
  have HOWN := Lib.hid (hown.alloc (.cells (entC (-77) 0 0 0 (.slice none 0 0)).toArray 57))
  have HCE := Lib.hid (cells_new w2 (entC (-77) 0 0 0 (.slice none 0 0)) 57 (0, 0))
  have HH := Lib.hid (And.intro hrow (And.intro ho (And.intro hg hne)))
  have hlt := (hown.lt g' rfl).2
  have HLT := Lib.hid hlt
  clear hown hrow ho hg hne HC hlt
  go_wp2_with (at_builtin; refine wpList_append_moved _ rfl _ _ 69 rfl 57 i0 _ 5 56 Tryz.underlying69 hi hz0 hz1 hz2 hz3 (by decide) _ _ _ rfl HOWN.out ⟨w2.heap.size, 0, none⟩ 1 1 (entC (-77) 0 0 0 (.slice none 0 0)) rfl rfl HCE.out (fun u hu => by simp only [entC, List.mem_cons, List.not_mem_nil, or_false] at hu; rcases hu with rfl | rfl | rfl | rfl | rfl <;> rfl) (by decide) (by decide) ?_; intro a3 c3 wx hown2 hgr hmv; obtain ⟨g3, rfl, hc3, hc5, hc4⟩ := own_room hown2 (by omega); have HG := Lib.hid (And.intro hown2 (And.intro hgr hmv)); clear hown2 hgr hmv)
  go_ret
  obtain ⟨h2, hgr, hmv⟩ := HG.out
  obtain ⟨hrow, ho, hg, hne⟩ := HH.out
  have oA := (Only.refl (fun _ => False) w2).alloc (.cells (entC (-77) 0 0 0 (.slice none 0 0)).toArray 57)
  have oG : Only (fun q => q = g') w2 wx := (oA.mono (T := fun q => q = g') (fun _ _ q => q.elim)).grown hgr (fun b _ q => (Option.some.inj q).symm)
  have hrw := row_keep hrow oG (fun b hb e q => hne b hb e q)
  have cell := fun j u hu => own_cell h2 j u hu
  refine ⟨g3, c3, vC, rfl, ⟨cell 0 _ rfl, cell 1 _ rfl, cell 2 _ rfl, cell 3 _ rfl, cell 4 _ rfl, cell 5 _ rfl, hrw, hc3⟩, ?_⟩
  exact (Only.trans (ho.mono (T := fun q => q = g') (fun _ _ (q : False) => q.elim)) oG (fun _ _ q => q)).mono (fun b hb q => by have q : b = g' := q; omega)
set_option maxRecDepth 100000 in
set_option maxHeartbeats 4000000 in
theorem SameE_is (w : World) (g c g2 c2 : Nat) (i t cl s : Int) (v v2 : Value) (l : List Cq) (hl : l.length ≤ 1000000) (h : LentAt w g c i t cl s l v) (he : ∀ j u, (entC i t cl s v2)[j]? = some u → w.cell? ⟨g2, j, none⟩ = some u) (hv : RowAt cmdC 5 w v2 l) :
    Calls Tryz.prog 112 #[.slice (some ⟨g, 0, none⟩) 1 c, .slice (some ⟨g2, 0, none⟩) 1 c2] w fun e w' => e = .returned (.bool true) ∧ Only (fun _ => False) w w' := by
  obtain ⟨a1, b1, rfl⟩ := bk.row_form h.row
  obtain ⟨a2, b2, rfl⟩ := bk.row_form hv
  have HL := Lib.hid h
  have HE := Lib.hid he
  have HV := Lib.hid hv
  clear h he hv
  go_enter Tryz.func112, Tryz.ntmps112
  go_wp2_with fail
  go_loopg [5] 1 (fun gh iv wr => ∃ k : Nat, gh + k = 1 ∧ iv = .int .i64 k ∧ Only (fun _ => False) w wr)
  case atStart => exact ⟨0, by omega, rfl, Only.refl _ _⟩
  case round =>
    obtain ⟨k, hk, rfl, ho⟩ := hrel
    have HO := Lib.hid ho
    by_cases hk0 : k = 0
    · subst hk0
      have hw1 : IntKind.i64.wrap (0 + 1) = 1 := by decide
      have hm := HL.out.still ho
      have cell : ∀ (p : Grew wr) (b j : Nat) (u : Value), w.cell? ⟨b, j, none⟩ = some u → p.u.cell? ⟨b, j, none⟩ = some u := fun p b j u q => p.cell ((ho.cell (p := ⟨b, j, none⟩) (lt_of_cell q) id).trans q)
      have m0 := fun p => cell p g 0 _ HL.out.c0
      have m1 := fun p => cell p g 1 _ HL.out.c1
      have m2 := fun p => cell p g 2 _ HL.out.c2
      have m3 := fun p => cell p g 3 _ HL.out.c3
      have m4 := fun p => cell p g 4 _ HL.out.c4
      have n0 := fun p => cell p g2 0 _ (HE.out 0 _ rfl)
      have n1 := fun p => cell p g2 1 _ (HE.out 1 _ rfl)
      have n2 := fun p => cell p g2 2 _ (HE.out 2 _ rfl)
      have n3 := fun p => cell p g2 3 _ (HE.out 3 _ rfl)
      have n4 := fun p => cell p g2 4 _ (HE.out 4 _ rfl)
      have HV1 : Hid (∀ p : Grew wr, Calls Tryz.prog 138 #[.slice a1 l.length b1, .slice a2 l.length b2] p.u fun e w' => e = .returned (.bool true) ∧ Only (fun _ => False) p.u w') := Lib.hid (fun p => bk.SameC_is p.u _ _ l (row_still hm.row p.h) (row_still HV.out (HO.out.trans p.h (fun _ _ q => q))) hl)
      clear ho hm cell
      go_wp2_with fail
      refine wp_region_grew (by kernel_rfl) (by kernel_rfl) (fun _W h0 h1 => ?_)
      repeat (refine h1 _ _ _ (fun K hK => ?_); go_simp; first | (refine hK _ ?_; clear hK K) | (apply Exists.intro; refine ⟨fun _ => ?_, hK _ ?_⟩; (with_reducible refine Grew.calls _ (HV1.out _)); clear hK K))
      refine h0 _ (fun p => ?_)
      clear h0 h1 m0 m1 m2 m3 m4 n0 n1 n2 n3 n4 HV1
      go_wp2_with fail
      go_roundg 0
      case measure => omega
      case rel => exact ⟨1, by omega, by go_num, HO.out.trans p.h (fun _ _ q => q)⟩
    · obtain rfl : k = 1 := by omega
      clear ho
      go_wp2_with fail
      go_ret
      exact ⟨rfl, HO.out⟩
set_option maxRecDepth 100000 in
set_option maxHeartbeats 4000000 in
theorem StaysE_is (w : World) (g c g2 c2 : Nat) (i t cl s : Int) (v v2 : Value) (l : List Cq) (hl : l.length ≤ 1000000) (h : LentAt w g c i t cl s l v) (he : ∀ j u, (entC i t cl s v2)[j]? = some u → w.cell? ⟨g2, j, none⟩ = some u) (hv : RowAt cmdC 5 w v2 l) :
    Calls Tryz.prog 30 #[.slice (some ⟨g, 0, none⟩) 1 c, .slice (some ⟨g2, 0, none⟩) 1 c2] w fun e w' => e = .returned (.bool true) ∧ Only (fun _ => False) w w' := by
  have HS : Hid (Calls Tryz.prog 112 #[.slice (some ⟨g, 0, none⟩) 1 c, .slice (some ⟨g2, 0, none⟩) 1 c2] w fun e w' => e = .returned (.bool true) ∧ Only (fun _ => False) w w') := Lib.hid (SameE_is w g c g2 c2 i t cl s v v2 l hl h he hv)
  have hc := h.cap
  have hc1 : (2 : Int) ≤ (c : Int) := by omega
  have hw1 : IntKind.i64.wrap (1 + 1) = 2 := by decide
  have HL := Lib.hid h
  clear h he hv
  go_enter Tryz.func30, Tryz.ntmps30
  go_wp2_with fail
  (with_reducible refine HS.out.mono ?_)
  rintro e w2 ⟨rfl, o⟩
  have c5 := (o.cell (p := ⟨g, 5, none⟩) (lt_of_cell HL.out.c5) id).trans HL.out.c5
  have HO := Lib.hid o
  clear o
  go_wp2_with fail
  go_ret
  exact ⟨rfl, HO.out⟩
end Go.Proofs.YtlkknekflgclgaaGreatDoor
