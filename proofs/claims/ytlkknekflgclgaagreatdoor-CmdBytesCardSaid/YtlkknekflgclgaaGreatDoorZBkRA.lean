/- The law's book, of replies: marks, copies, one more list. Conditions: one goroutine; each list lies in memory of its own; they are few and short. (Printed by wip/gen/bk.py.) -/
import Derived.Test.YtlkknekflgclgaaGreatDoorZBk0
import Derived.Test.YtlkknekflgclgaaGreatDoorZCyR
import Derived.Deep.RegionHeld3
import Derived.Deep.RegionLaw
import Derived.BigRegion
namespace Go.Proofs.YtlkknekflgclgaaGreatDoor.bk
open Go.RowKit

theorem infoR : (Tryz.prog.info? 68).map (fun i => (i.size, i.bytes, i.zero.map fun z => z.cells.size)) = some (2, 24, some 2) := by kernel_rfl
theorem rinfoR : (Tryz.prog.info? 65).map (fun i => (i.zero, i.size, i.bytes)) = some (some (.slice none 0 0), 1, 24) := by kernel_rfl

theorem oneR (l : List Rp) : ∀ u ∈ l.flatMap rpC, u.oneCell' = true := flat_one (enc := rpC) (fun x u hu => by
  simp only [rpC, List.mem_cons, List.not_mem_nil, or_false] at hu
  rcases hu with rfl | rfl <;> rfl) l
theorem lenR (l : List Rp) : (l.flatMap rpC).length = l.length * 2 := flat_length (enc := rpC) (fun _ => rfl) l
def markR (i k : Nat) : Rp := ⟨-1000 * (i : Int) - k - 1, []⟩

set_option maxRecDepth 100000 in
set_option maxHeartbeats 4000000 in
theorem markR_is (w : World) (i from_ n : Nat) (hi1 : i ≤ 1000) (hn : from_ + n ≤ 1000000) :
    Calls Tryz.prog 147 #[.int .i64 (i : Int), .int .i64 (from_ : Int), .int .i64 (n : Int)] w (OwnTold rpC 2 68 w (marks markR i from_ n)) := by
  obtain ⟨i0, zz, hi, hz0, hz1, hz2, hz3⟩ := info_split infoR
  have hws : IntKind.i64.wrap ((from_ : Int) + (n : Int)) = (from_ : Int) + (n : Int) := by exact IntWalk.i64_in _ (by omega)
  have hwm : IntKind.i64.wrap (-1000 * (i : Int)) = -1000 * (i : Int) := by exact IntWalk.i64_in _ (by omega)
  go_enter Tryz.func147, Tryz.ntmps147
  go_wp2_with fail
  go_loopg [7, 8] n (fun gh ov kv wr => ∃ k : Nat, gh + k = n ∧ kv = .int .i64 ((from_ : Int) + (k : Int)) ∧ wr.ownsRow 0 68 2 ov k ((marks markR i from_ k).flatMap rpC) ∧ Only (fun _ => False) w wr ∧ ∀ j, ov.ownBlock = some j → w.heap.size ≤ j)
  case atStart => exact ⟨0, by omega, by simp, ⟨rfl, .inl ⟨rfl, rfl⟩⟩, Only.refl _ w, fun j hj => by simp [Value.ownBlock] at hj⟩
  case round =>
    obtain ⟨k, hgk, rfl, hown, ho, hnew⟩ := hrel
    obtain ⟨aO, cO, rfl⟩ := ownsRow_form hown
    have HH := Lib.hid (And.intro hown (And.intro ho hnew))
    clear hown ho hnew
    by_cases hk : k < n
    · have hk1 : (from_ : Int) + (k : Int) < (from_ : Int) + (n : Int) := by omega
      have hk2 : (k : Int) < (n : Int) := by omega
      have hw1 : IntKind.i64.wrap ((from_ : Int) + (k : Int) + 1) = (from_ : Int) + ((k + 1 : Nat) : Int) := by rw [IntWalk.i64_in _ (by omega)]; omega
      have hw2 : IntKind.i64.wrap (-1000 * (i : Int) - ((from_ : Int) + (k : Int))) = -1000 * (i : Int) - ((from_ + k : Nat) : Int) := by rw [IntWalk.i64_in _ (by omega)]; omega
      have hw3 : IntKind.i64.wrap (-1000 * (i : Int) - ((from_ + k : Nat) : Int) - 1) = (markR i (from_ + k)).err := by rw [IntWalk.i64_in _ (by omega)]; rfl
      have HOWN := Lib.hid (HH.out.1.alloc (.cells #[.int .i64 (markR i (from_ + k)).err, str []] 68))
      have HCE := Lib.hid (cells_new wr (rpC (markR i (from_ + k))) 68 (0, 0))
      have HNX := Lib.hid (marks_next markR i from_ k)
      have hmax : k + 1 ≤ maxLen := by unfold maxLen; omega
      have hgk2 := hgk
      clear hgk
      go_wp2_with (at_builtin; refine wpList_append_moved _ rfl _ _ 65 rfl 68 i0 _ 2 24 Tryz.underlying65 hi hz0 hz1 hz2 hz3 (by decide) _ _ _ rfl HOWN.out ⟨wr.heap.size, 0, none⟩ 1 1 (rpC (markR i (from_ + k))) rfl rfl HCE.out (fun u hu => oneR [markR i (from_ + k)] u (by simpa using hu)) hmax (by omega) ?_; intro a' c' wx hown2 hgr hmv; have HG := Lib.hid (And.intro hown2 (And.intro hgr hmv)); clear hown2 hgr hmv)
      all_goals
        go_roundg (n - (k + 1))
        case measure => omega
        case rel =>
          obtain ⟨h2, hgr, hmv⟩ := HG.out
          refine ⟨k + 1, by omega, by go_num, ?_, (HH.out.2.1.alloc _).grown hgr (fun j hj e => ?_), fun j hj => ?_⟩
          · rw [HNX.out, List.flatMap_append]
            simpa using h2
          · have e2 : (Value.slice aO k cO).ownBlock = some j := e
            have := HH.out.2.2 j e2; omega
          · have h5 := HH.out.2.1.size
            rcases hmv j hj with e | e
            · exact HH.out.2.2 j e
            · rw [World.size_alloc] at e; omega
    · obtain rfl : k = n := by omega
      have hk1 : ¬ (from_ : Int) + (k : Int) < (from_ : Int) + (k : Int) := by omega
      have HM := Lib.hid (marks_length markR i from_ k)
      go_wp2_with fail
      go_ret
      exact ⟨_, rfl, by rw [HM.out]; exact HH.out.1, HH.out.2⟩
set_option maxRecDepth 100000 in
set_option maxHeartbeats 4000000 in
theorem copyR_is (w : World) (v : Value) (l : List Rp) (h : RowAt rpC 2 w v l) (hn : l.length ≤ 1000000) : Calls Tryz.prog 117 #[v] w (OwnTold rpC 2 68 w l) := by
  obtain ⟨i0, zz, hi, hz0, hz1, hz2, hz3⟩ := info_split infoR
  obtain ⟨a, c, rfl⟩ := row_form h
  have hnil := row_nil h
  have HRD := Lib.hid (row_read (enc := rpC) (k := 2) (fun _ => rfl) h)
  have HFL := Lib.hid (lenR l)
  have hmax : 0 + l.length ≤ maxLen := by unfold maxLen; omega
  clear h
  go_enter Tryz.func117, Tryz.ntmps117
  go_wp2_with (at_builtin; refine wpList_append_any _ rfl _ _ 65 rfl 68 i0 _ 2 24 Tryz.underlying65 hi hz0 hz1 hz2 hz3 (by decide) (.slice none 0 0) 0 [] rfl ⟨rfl, .inl ⟨rfl, rfl⟩⟩ a l.length c (l.flatMap rpC) rfl HFL.out hnil (HRD.out _ (Only.refl _ w)) (oneR l) hmax (by omega) ?_; intro a' c' wx hown2 hgr hmv; have HG := Lib.hid (And.intro hown2 (And.intro hgr hmv)); clear hown2 hgr hmv)
  go_ret
  obtain ⟨h2, hgr, hmv⟩ := HG.out
  rw [Nat.zero_add] at h2 hmv
  exact ⟨_, rfl, by simpa using h2, (Only.refl _ w).grown hgr (fun j _ e => by cases e), fun j hj => (hmv j hj).elim (fun e => by cases e) id⟩

set_option maxRecDepth 100000 in
set_option maxHeartbeats 8000000 in
theorem BR_is (w : World) (k : Nat) (cs : Array Value) (vI vW : Value) (xs ys : List Value) (ls : List (List Rp)) (B : Nat) (v : Value) (l : List Rp) (h : BookAt rpC 2 68 65 10 w k cs vI vW xs ys ls ls B) (hl : ls.length < 200) (hv : w.ownsRow 0 68 2 v l.length (l.flatMap rpC)) (hn : l.length ≤ 1000000) (hB : ∀ b, OwnB v b → B ≤ b ∧ b ≠ k ∧ ¬ bown vI vW xs ys b) :
    Calls Tryz.prog 36 #[.pointer (some ⟨k, 0, none⟩), v] w (BookTold rpC 2 68 65 10 w k cs vI vW xs ys ls B v l) := by
  obtain ⟨i0, hi, hz0, hz1, hz2⟩ := info_parts rinfoR
  have hlt : (xs.length : Int) < 250 := by have := h.x.len; omega
  have hlt2 : xs.length < 250 := by have := h.x.len; omega
  have hlt3 : ys.length < 250 := by have := h.len; omega
  have hrowI := h.x.rowI
  have hrowW := h.rowW
  obtain ⟨aV, cV, rfl⟩ := ownsRow_form hv
  obtain ⟨aI, cI, rfl⟩ := ownsRow_form hrowI
  obtain ⟨aW, cW, rfl⟩ := ownsRow_form hrowW
  have c4 : w.cell? ⟨k, 10, none⟩ = some (.slice aI xs.length cI) := h.x.cell
  have z4 := blk_frozen h.x.heap 10
  have HH := Lib.hid h
  have HV := Lib.hid (And.intro hv hB)
  have HOA := Lib.hid ((Only.refl (fun _ => False) w).alloc (.cells #[.slice aV l.length cV] 65))
  have HOWN := Lib.hid (hrowI.alloc (.cells #[.slice aV l.length cV] 65))
  have HCE := Lib.hid (cells_new w [Value.slice aV l.length cV] 65 (0, 0))
  have hmax : xs.length + 1 ≤ maxLen := by unfold maxLen; omega
  have hnb : (Value.slice aI xs.length cI).ownBlock ≠ some k := fun e => (h.x.dI k e).1 rfl
  clear h hv hB hrowW hrowI
  go_enter Tryz.func36, Tryz.ntmps36
  go_wp2_with (at_builtin; refine wpList_append_moved _ rfl _ _ 31 rfl 65 i0 _ 1 24 Tryz.underlying31 hi hz0 hz1 hz2 rfl (by decide) _ _ _ rfl HOWN.out ⟨w.heap.size, 0, none⟩ 1 1 [Value.slice aV l.length cV] rfl rfl HCE.out (fun u hu => by rw [List.mem_singleton.1 hu]; rfl) hmax (by omega) ?_; intro a' c' wx hown2 hgr hmv; have hq : Only (fun b => OwnB (Value.slice aI xs.length cI) b) w wx := (HOA.out.mono (fun _ _ q => q.elim)).grown hgr (fun _ _ e => e); have e4 := (hq.cell (p := ⟨k, 10, none⟩) HH.out.x.lt hnb).trans c4; have y4 := (hq.frozen (p := ⟨k, 10, none⟩) HH.out.x.lt hnb).trans z4; have HG := Lib.hid (And.intro hown2 (And.intro hgr hmv)); clear hown2 hgr hmv hq)
  all_goals
    obtain ⟨hM, hO1⟩ := HH.out.growI HV.out.1 HV.out.2 HOA.out HG.out.1 HG.out.2.1 (fun b e => (HG.out.2.2 b e).imp id fun q => by rw [World.size_alloc] at q; omega)
    obtain ⟨W1, hW1⟩ : ∃ W1, wx.setCell ⟨k, 10, none⟩ (.slice a' (xs.length + 1) c') = W1 := ⟨_, rfl⟩
    rw [hW1] at hM hO1 ⊢
    have HMV : Hid (∀ b, OwnB (.slice a' (xs.length + 1) c') b → OwnB (.slice aI xs.length cI) b ∨ w.heap.size ≤ b) := Lib.hid fun b e => (HG.out.2.2 b e).imp id fun q => by rw [World.size_alloc] at q; omega
    generalize hvI : (Value.slice a' (xs.length + 1) c') = vI2 at *
    have HM := Lib.hid hM
    have HO1 := Lib.hid hO1
    have c5 : W1.cell? ⟨k, 11, none⟩ = some (.slice aW ys.length cW) := hM.cell
    have z5 := blk_frozen hM.x.heap 11
    have HCP : Hid (∀ W, Only (fun _ => False) W1 W → Calls Tryz.prog 117 #[.slice aV l.length cV] W (OwnTold rpC 2 68 W l)) := Lib.hid fun W hW => copyR_is W _ l (row_only (row_own (enc := rpC) (k := 2) (fun _ => rfl) (own_only HV.out.1 HO1.out (fun b e q => q.elim (fun q => (HV.out.2 b e).2.1 q) fun q => (HV.out.2 b e).2.2 (.inl q)))) hW (fun _ _ => id)) hn
    have hmax2 : ys.length + 1 ≤ maxLen := by unfold maxLen; omega
    have hnw : (Value.slice aW ys.length cW).ownBlock ≠ some k := fun e => (hM.dW k e).1 rfl
    unfold OwnTold at HCP
    clear hM hO1 HOA HOWN HCE HG e4 y4 c4 z4 hvI hW1 hnb
    go_region_law (first
      | (refine step_append_moved _ rfl _ _ 31 rfl 65 i0 _ 1 24 Tryz.underlying31 hi hz0 hz1 hz2 rfl (by decide) _ _ _ rfl ((own_only HM.out.rowW o5 (fun _ _ q => q)).alloc _) ⟨_, 0, none⟩ 1 1 [.slice aY l.length cY] rfl rfl (cells_new _ [.slice aY l.length cY] 65 (0, 0)) (fun u hu => by rw [List.mem_singleton.1 hu]; rfl) hmax2 (by omega) ?_; intro a3 c3 w3 hown3 hgr3 hmv3; have hq3 : Only (fun b => OwnB (Value.slice aW ys.length cW) b) W1 w3 := ((o5.mono (fun _ _ q => q.elim)).alloc _).grown hgr3 (fun _ _ e => e); have z6 := (hq3.frozen (p := ⟨k, 11, none⟩) (lt_of_cell c5) hnw).trans z5; have c6 := (hq3.cell (p := ⟨k, 11, none⟩) (lt_of_cell c5) hnw).trans c5)
      | (rw [if_pos (by simp [Region.wanted])]; go_simp; (with_reducible refine (HCP.out _ (by first | exact Only.refl _ _ | exact (Only.refl _ _).drew)).mono ?_); rintro e w4 ⟨y, rfl, hy, o4, hyn⟩; obtain ⟨aY, cY, rfl⟩ := ownsRow_form hy; have o5 : Only (fun _ => False) W1 w4 := (by first | exact o4 | exact ((Only.refl _ W1).drew).trans o4 (fun _ _ q => q)); have c7 := (o5.cell (p := ⟨k, 11, none⟩) (lt_of_cell c5) (fun q => q)).trans c5; have c8 := (((Only.refl (fun _ => False) w4).alloc (.cells #[.slice aY l.length cY] 65)).cell (p := ⟨k, 11, none⟩) (lt_of_cell c7) (fun q => q)).trans c7))
    all_goals
      go_end0
      have hM4 := HM.out.still o5
      have h45 := o5.size
      obtain ⟨hB9, hO9⟩ := hM4.growW hy (fun b e => ⟨by have := hyn b e; have h3 : W1.heap.size ≤ b := this; have := HM.out.x.lt; have := HM.out.x.new; omega, by have h3 : W1.heap.size ≤ b := hyn b e; have := HM.out.x.lt; omega, fun q => by have := (HM.out.bown_lt q).1; have h3 : W1.heap.size ≤ b := hyn b e; omega⟩) ((Only.refl (fun _ => False) w4).alloc _) hown3 hgr3 (fun b e => (hmv3 b e).imp id fun q => by rw [World.size_alloc] at q; omega)
      have hsz := HO1.out.size
      have hO1 : Only (fun b => b = k ∨ OwnB (Value.slice aI xs.length cI) b ∨ OwnB (Value.slice aW ys.length cW) b) w W1 := HO1.out.mono fun b _ q => q.imp id .inl
      have hO5 := hO1.trans o5 (fun _ _ q => q.elim)
      refine ⟨rfl, hO5.trans hO9 (fun b hb q => q.imp id .inr), vI2, _, _, hB9, HMV.out, fun b e => ?_, fun b e => ?_⟩
      · rcases hmv3 b e with q | q
        · exact .inl q
        · rw [World.size_alloc] at q; exact .inr (by omega)
      · have h3 : W1.heap.size ≤ b := hyn b e
        omega

end Go.Proofs.YtlkknekflgclgaaGreatDoor.bk
