/- The law's book, of texts: marks, copies, one more list. Conditions: one goroutine; each list lies in memory of its own; they are few and short. (Printed by wip/gen/bk.py.) -/
import Derived.Test.YtbhiamcmiopnoaaGreatDoorZBk0
import Derived.Test.YtbhiamcmiopnoaaGreatDoorZBkNm
import Derived.Deep.RegionHeld3
import Derived.Deep.RegionLaw
import Derived.BigRegion
namespace Go.Proofs.YtbhiamcmiopnoaaGreatDoor.bk
open Go.RowKit

def txtC (s : Bytes) : List Value := [str s]
theorem infoT : (Tryz.prog.info? 9).map (fun i => (i.size, i.bytes, i.zero.map fun z => z.cells.size)) = some (1, 16, some 1) := by kernel_rfl
theorem rinfoT : (Tryz.prog.info? 37).map (fun i => (i.zero, i.size, i.bytes)) = some (some (.slice none 0 0), 1, 24) := by kernel_rfl

theorem oneT (l : List Bytes) : ∀ u ∈ l.flatMap txtC, u.oneCell' = true := flat_one (enc := txtC) (fun x u hu => by
  simp only [txtC, List.mem_cons, List.not_mem_nil, or_false] at hu
  subst hu; rfl) l
theorem lenT (l : List Bytes) : (l.flatMap txtC).length = l.length * 1 := flat_length (enc := txtC) (fun _ => rfl) l
def markT (i k : Nat) : Bytes := nameB i k

set_option maxRecDepth 100000 in
set_option maxHeartbeats 4000000 in
theorem markT_is (w : World) (i from_ n : Nat) (hi1 : i ≤ 1000) (hn : from_ + n ≤ 1000000) :
    Calls Tryz.prog 129 #[.int .i64 (i : Int), .int .i64 (from_ : Int), .int .i64 (n : Int)] w (OwnTold txtC 1 9 w (marks markT i from_ n)) := by
  obtain ⟨i0, zz, hi, hz0, hz1, hz2, hz3⟩ := info_split infoT
  have hws : IntKind.i64.wrap ((from_ : Int) + (n : Int)) = (from_ : Int) + (n : Int) := by exact IntWalk.i64_in _ (by omega)
  go_enter Tryz.func129, Tryz.ntmps129
  go_wp2_with fail
  go_loopg [7, 8] n (fun gh ov kv wr => ∃ k : Nat, gh + k = n ∧ kv = .int .i64 ((from_ : Int) + (k : Int)) ∧ wr.ownsRow 0 9 1 ov k ((marks markT i from_ k).flatMap txtC) ∧ Only (fun _ => False) w wr ∧ ∀ j, ov.ownBlock = some j → w.heap.size ≤ j)
  case atStart => exact ⟨0, by omega, by simp, ⟨rfl, .inl ⟨rfl, rfl⟩⟩, Only.refl _ w, fun j hj => by simp [Value.ownBlock] at hj⟩
  case round =>
    obtain ⟨k, hgk, rfl, hown, ho, hnew⟩ := hrel
    obtain ⟨aO, cO, rfl⟩ := ownsRow_form hown
    have HH := Lib.hid (And.intro hown (And.intro ho hnew))
    clear hown ho hnew
    by_cases hk : k < n
    · have hk1 : (from_ : Int) + (k : Int) < (from_ : Int) + (n : Int) := by omega
      have hk2 : (k : Int) < (n : Int) := by omega
      have hw1 : IntKind.i64.wrap ((from_ : Int) + (k : Int) + 1) = (from_ : Int) + ((k + 1 : Nat) : Int) := by rw [IntWalk.i64_in _ (by omega)]; omega
      have HNM : Hid (Calls Tryz.prog 157 #[.int .i64 (i : Int), .int .i64 ((from_ : Int) + (k : Int))] wr fun e w' => e = .returned (str (nameB i (from_ + k))) ∧ Only (fun _ => False) wr w') := Lib.hid (nameB_is wr i (from_ + k) hi1 (by omega))
      have HNX := Lib.hid (marks_next markT i from_ k)
      have hmax : k + 1 ≤ maxLen := by unfold maxLen; omega
      have hgk2 := hgk
      clear hgk
      go_wp2_with fail
      (with_reducible refine HNM.out.mono ?_)
      rintro e w5 ⟨rfl, o5⟩
      have HOWN := Lib.hid ((own_only HH.out.1 o5 (fun _ _ => id)).alloc (.cells #[str (markT i (from_ + k))] 9))
      have HCE := Lib.hid (cells_new w5 (txtC (markT i (from_ + k))) 9 (0, 0))
      have HO5 := Lib.hid o5
      clear o5 HNM
      go_wp2_with (at_builtin; refine wpList_append_moved _ rfl _ _ 37 rfl 9 i0 _ 1 16 Tryz.underlying37 hi hz0 hz1 hz2 hz3 (by decide) _ _ _ rfl HOWN.out ⟨w5.heap.size, 0, none⟩ 1 1 (txtC (markT i (from_ + k))) rfl rfl HCE.out (fun u hu => oneT [markT i (from_ + k)] u (by simpa using hu)) hmax (by omega) ?_; intro a' c' wx hown2 hgr hmv; have HG := Lib.hid (And.intro hown2 (And.intro hgr hmv)); clear hown2 hgr hmv)
      all_goals
        go_roundg (n - (k + 1))
        case measure => omega
        case rel =>
          obtain ⟨h2, hgr, hmv⟩ := HG.out
          have ho5 := HH.out.2.1.trans HO5.out (fun _ _ q => q)
          refine ⟨k + 1, by omega, by go_num, ?_, (ho5.alloc _).grown hgr (fun j hj e => ?_), fun j hj => ?_⟩
          · rw [HNX.out, List.flatMap_append]
            simpa using h2
          · have e2 : (Value.slice aO k cO).ownBlock = some j := e
            have := HH.out.2.2 j e2; omega
          · have h5 := ho5.size
            rcases hmv j hj with e | e
            · exact HH.out.2.2 j e
            · rw [World.size_alloc] at e; omega
    · obtain rfl : k = n := by omega
      have hk1 : ¬ (from_ : Int) + (k : Int) < (from_ : Int) + (k : Int) := by omega
      have HM := Lib.hid (marks_length markT i from_ k)
      go_wp2_with fail
      go_ret
      exact ⟨_, rfl, by rw [HM.out]; exact HH.out.1, HH.out.2⟩
set_option maxRecDepth 100000 in
set_option maxHeartbeats 4000000 in
theorem copyT_is (w : World) (v : Value) (l : List Bytes) (h : RowAt txtC 1 w v l) (hn : l.length ≤ 1000000) : Calls Tryz.prog 44 #[v] w (OwnTold txtC 1 9 w l) := by
  obtain ⟨i0, zz, hi, hz0, hz1, hz2, hz3⟩ := info_split infoT
  obtain ⟨a, c, rfl⟩ := row_form h
  have hnil := row_nil h
  have HRD := Lib.hid (row_read (enc := txtC) (k := 1) (fun _ => rfl) h)
  have HFL := Lib.hid (lenT l)
  have hmax : 0 + l.length ≤ maxLen := by unfold maxLen; omega
  clear h
  go_enter Tryz.func44, Tryz.ntmps44
  go_wp2_with (at_builtin; refine wpList_append_any _ rfl _ _ 37 rfl 9 i0 _ 1 16 Tryz.underlying37 hi hz0 hz1 hz2 hz3 (by decide) (.slice none 0 0) 0 [] rfl ⟨rfl, .inl ⟨rfl, rfl⟩⟩ a l.length c (l.flatMap txtC) rfl HFL.out hnil (HRD.out _ (Only.refl _ w)) (oneT l) hmax (by omega) ?_; intro a' c' wx hown2 hgr hmv; have HG := Lib.hid (And.intro hown2 (And.intro hgr hmv)); clear hown2 hgr hmv)
  go_ret
  obtain ⟨h2, hgr, hmv⟩ := HG.out
  rw [Nat.zero_add] at h2 hmv
  exact ⟨_, rfl, by simpa using h2, (Only.refl _ w).grown hgr (fun j _ e => by cases e), fun j hj => (hmv j hj).elim (fun e => by cases e) id⟩

set_option maxRecDepth 100000 in
set_option maxHeartbeats 8000000 in
theorem BT_is (w : World) (k : Nat) (cs : Array Value) (vI vW : Value) (xs ys : List Value) (ls : List (List Bytes)) (B : Nat) (v : Value) (l : List Bytes) (h : BookAt txtC 1 9 37 0 w k cs vI vW xs ys ls ls B) (hl : ls.length < 200) (hv : w.ownsRow 0 9 1 v l.length (l.flatMap txtC)) (hn : l.length ≤ 1000000) (hB : ∀ b, OwnB v b → B ≤ b ∧ b ≠ k ∧ ¬ bown vI vW xs ys b) :
    Calls Tryz.prog 11 #[.pointer (some ⟨k, 0, none⟩), v] w (BookTold txtC 1 9 37 0 w k cs vI vW xs ys ls B v l) := by
  obtain ⟨i0, hi, hz0, hz1, hz2⟩ := info_parts rinfoT
  have hlt : (xs.length : Int) < 250 := by have := h.x.len; omega
  have hlt2 : xs.length < 250 := by have := h.x.len; omega
  have hlt3 : ys.length < 250 := by have := h.len; omega
  have hrowI := h.x.rowI
  have hrowW := h.rowW
  obtain ⟨aV, cV, rfl⟩ := ownsRow_form hv
  obtain ⟨aI, cI, rfl⟩ := ownsRow_form hrowI
  obtain ⟨aW, cW, rfl⟩ := ownsRow_form hrowW
  have c4 : w.cell? ⟨k, 0, none⟩ = some (.slice aI xs.length cI) := h.x.cell
  have z4 := blk_frozen h.x.heap 0
  have HH := Lib.hid h
  have HV := Lib.hid (And.intro hv hB)
  have HOA := Lib.hid ((Only.refl (fun _ => False) w).alloc (.cells #[.slice aV l.length cV] 37))
  have HOWN := Lib.hid (hrowI.alloc (.cells #[.slice aV l.length cV] 37))
  have HCE := Lib.hid (cells_new w [Value.slice aV l.length cV] 37 (0, 0))
  have hmax : xs.length + 1 ≤ maxLen := by unfold maxLen; omega
  have hnb : (Value.slice aI xs.length cI).ownBlock ≠ some k := fun e => (h.x.dI k e).1 rfl
  clear h hv hB hrowW hrowI
  go_enter Tryz.func11, Tryz.ntmps11
  go_wp2_with (at_builtin; refine wpList_append_moved _ rfl _ _ 26 rfl 37 i0 _ 1 24 Tryz.underlying26 hi hz0 hz1 hz2 rfl (by decide) _ _ _ rfl HOWN.out ⟨w.heap.size, 0, none⟩ 1 1 [Value.slice aV l.length cV] rfl rfl HCE.out (fun u hu => by rw [List.mem_singleton.1 hu]; rfl) hmax (by omega) ?_; intro a' c' wx hown2 hgr hmv; have hq : Only (fun b => OwnB (Value.slice aI xs.length cI) b) w wx := (HOA.out.mono (fun _ _ q => q.elim)).grown hgr (fun _ _ e => e); have e4 := (hq.cell (p := ⟨k, 0, none⟩) HH.out.x.lt hnb).trans c4; have y4 := (hq.frozen (p := ⟨k, 0, none⟩) HH.out.x.lt hnb).trans z4; have HG := Lib.hid (And.intro hown2 (And.intro hgr hmv)); clear hown2 hgr hmv hq)
  all_goals
    obtain ⟨hM, hO1⟩ := HH.out.growI HV.out.1 HV.out.2 HOA.out HG.out.1 HG.out.2.1 (fun b e => (HG.out.2.2 b e).imp id fun q => by rw [World.size_alloc] at q; omega)
    obtain ⟨W1, hW1⟩ : ∃ W1, wx.setCell ⟨k, 0, none⟩ (.slice a' (xs.length + 1) c') = W1 := ⟨_, rfl⟩
    rw [hW1] at hM hO1 ⊢
    have HMV : Hid (∀ b, OwnB (.slice a' (xs.length + 1) c') b → OwnB (.slice aI xs.length cI) b ∨ w.heap.size ≤ b) := Lib.hid fun b e => (HG.out.2.2 b e).imp id fun q => by rw [World.size_alloc] at q; omega
    generalize hvI : (Value.slice a' (xs.length + 1) c') = vI2 at *
    have HM := Lib.hid hM
    have HO1 := Lib.hid hO1
    have c5 : W1.cell? ⟨k, 1, none⟩ = some (.slice aW ys.length cW) := hM.cell
    have z5 := blk_frozen hM.x.heap 1
    have HCP : Hid (∀ W, Only (fun _ => False) W1 W → Calls Tryz.prog 44 #[.slice aV l.length cV] W (OwnTold txtC 1 9 W l)) := Lib.hid fun W hW => copyT_is W _ l (row_only (row_own (enc := txtC) (k := 1) (fun _ => rfl) (own_only HV.out.1 HO1.out (fun b e q => q.elim (fun q => (HV.out.2 b e).2.1 q) fun q => (HV.out.2 b e).2.2 (.inl q)))) hW (fun _ _ => id)) hn
    have hmax2 : ys.length + 1 ≤ maxLen := by unfold maxLen; omega
    have hnw : (Value.slice aW ys.length cW).ownBlock ≠ some k := fun e => (hM.dW k e).1 rfl
    unfold OwnTold at HCP
    clear hM hO1 HOA HOWN HCE HG e4 y4 c4 z4 hvI hW1 hnb
    go_region_law (first
      | (refine step_append_moved _ rfl _ _ 26 rfl 37 i0 _ 1 24 Tryz.underlying26 hi hz0 hz1 hz2 rfl (by decide) _ _ _ rfl ((own_only HM.out.rowW o5 (fun _ _ q => q)).alloc _) ⟨_, 0, none⟩ 1 1 [.slice aY l.length cY] rfl rfl (cells_new _ [.slice aY l.length cY] 37 (0, 0)) (fun u hu => by rw [List.mem_singleton.1 hu]; rfl) hmax2 (by omega) ?_; intro a3 c3 w3 hown3 hgr3 hmv3; have hq3 : Only (fun b => OwnB (Value.slice aW ys.length cW) b) W1 w3 := ((o5.mono (fun _ _ q => q.elim)).alloc _).grown hgr3 (fun _ _ e => e); have z6 := (hq3.frozen (p := ⟨k, 1, none⟩) (lt_of_cell c5) hnw).trans z5; have c6 := (hq3.cell (p := ⟨k, 1, none⟩) (lt_of_cell c5) hnw).trans c5)
      | (rw [if_pos (by simp [Region.wanted])]; go_simp; (with_reducible refine (HCP.out _ (by first | exact Only.refl _ _ | exact (Only.refl _ _).drew)).mono ?_); rintro e w4 ⟨y, rfl, hy, o4, hyn⟩; obtain ⟨aY, cY, rfl⟩ := ownsRow_form hy; have o5 : Only (fun _ => False) W1 w4 := (by first | exact o4 | exact ((Only.refl _ W1).drew).trans o4 (fun _ _ q => q)); have c7 := (o5.cell (p := ⟨k, 1, none⟩) (lt_of_cell c5) (fun q => q)).trans c5; have c8 := (((Only.refl (fun _ => False) w4).alloc (.cells #[.slice aY l.length cY] 37)).cell (p := ⟨k, 1, none⟩) (lt_of_cell c7) (fun q => q)).trans c7))
    all_goals
      go_end0
      have hM4 := HM.out.still o5
      have h45 := o5.size
      obtain ⟨hB9, hO9⟩ := hM4.growW hy (fun b e => ⟨by have := hyn b e; have h3 : W1.heap.size ≤ b := this; have := HM.out.x.lt; have := HM.out.x.new; omega, by have h3 : W1.heap.size ≤ b := hyn b e; have := HM.out.x.lt; omega, fun q => by have := (HM.out.bown_lt q).1; have h3 : W1.heap.size ≤ b := hyn b e; omega⟩) ((Only.refl (fun _ => False) w4).alloc _) hown3 hgr3 (fun b e => (hmv3 b e).imp id fun q => by rw [World.size_alloc] at q; omega)
      have hsz := HO1.out.size
      have hO1 : Only (fun b => b = k ∨ OwnB (Value.slice aI xs.length cI) b ∨ OwnB (Value.slice aW ys.length cW) b) w W1 := HO1.out.mono fun b _ q => q.imp id .inl
      have hO5 := hO1.trans o5 (fun _ _ q => q.elim)
      refine ⟨rfl, hO5.trans hO9 (fun b hb q => q.imp id .inr), vI2, _, _, hB9, HMV.out, fun b e => ?_, fun b e => ?_⟩
      · rcases hmv3 b e with q | q
        · exact .inl q
        · rw [World.size_alloc] at q; exact .inr (by omega)
      · have h3 : W1.heap.size ≤ b := hyn b e
        omega

end Go.Proofs.YtbhiamcmiopnoaaGreatDoor.bk
