/- Package cmd: State.Do with buckets one below the root: made, counted, dropped. Conditions: one goroutine; the names hold no slash. -/
import Derived.Test.YtlkknekflgclgaaDoorZNx4
import Derived.Test.YtlkknekflgclgaaDoorZCmd12
namespace Go.Proofs.YtlkknekflgclgaaDoor
open Go.RowKit Go.MuLone

set_option maxRecDepth 100000 in
set_option maxHeartbeats 4000000 in
/-- State.Do over what do does: one block of the state's is another. -/
theorem SDoG (w : World) (st r x : Nat) (kd : Int) (p k v o : Bytes) (E : Int) (V : Bytes) (Q : Nat → World → Prop) (hst : StAt w st r) (hx : x < w.heap.size) (hQ : ∀ N n u u', w.heap.size ≤ n → n < N → Q N u → Only (fun j => j = n) u u' → Q N u')
    (hD : ∀ W, Only (fun _ => False) w W → Calls Tryd.prog 12 #[groundV r, .agg #[.int .i64 kd, str p, str k, str v, str o]] W fun e w' => e = .returned (replyV E V) ∧ (∃ N, W.heap.size ≤ N ∧ Q N w') ∧ Only (fun j => j = x) W w') :
    Calls Tryd.prog 7 #[.pointer (some ⟨st, 0, none⟩), .agg #[.int .i64 kd, str p, str k, str v, str o]] w fun e w' => e = .returned (replyV E V) ∧ (∃ N, w.heap.size ≤ N ∧ Q N w') ∧ Only (fun j => j = x) w w' := by
  obtain ⟨oL, cL, rL⟩ := cmd_laid w kd p k v o
  have s0 : (laidW w kd p k v o).cell? ⟨st, 0, none⟩ = some (.pointer (some ⟨r, 0, none⟩)) := blk_cell ((oL.block st (blk_lt hst) id).trans hst) 0
  have HD : Hid (∀ W, Only (fun _ => False) (laidW w kd p k v o) W → Calls Tryd.prog 12 #[groundV r, .agg #[.int .i64 kd, str p, str k, str v, str o]] W fun e w' => e = .returned (replyV E V) ∧ (∃ N, W.heap.size ≤ N ∧ Q N w') ∧ Only (fun j => j = x) W w') := Lib.hid (fun W hW => hD W (oL.trans hW (fun _ _ q => q)))
  have HRP : Hid (∀ W, Only (fun j => j = x) (laidW w kd p k v o) W → W.heap[w.heap.size + 1]? = some (.cells #[.int .i64 0, .string ⟨#[]⟩] 28 (0, 0))) := Lib.hid (fun W hW => (hW.block _ (blk_lt rL) (by omega)).trans rL)
  have HU2 : Hid (∀ W, Only (fun j => j = x) (laidW w kd p k v o) W → Only (fun j => j = x) w W) := Lib.hid (fun W hW => Only.trans (oL.mono (fun _ _ (q : False) => q.elim)) hW (fun _ _ q => q))
  have HQQ := Lib.hid hQ
  obtain ⟨c0, c1, c2, c3, c4⟩ := cL
  unfold laidW at c0 c1 c2 c3 c4 s0
  have hsz : (laidW w kd p k v o).heap.size = w.heap.size + 2 := by unfold laidW; rw [size_alloc, size_alloc]
  have HZ := Lib.hid hsz
  clear oL rL hD hst hQ hsz
  unfold groundV at *
  have hrep : replyV E V = .agg #[.int .i64 E, str V] := rfl
  rw [hrep] at HD
  clear hrep
  have HL : Hid (Only (fun _ => False) (laidW w kd p k v o) (laidW w kd p k v o).drew) := Lib.hid (Only.refl _ _).drew
  go_enter Tryd.func7, Tryd.ntmps7
  go_wp2_with fail
  go_region_with (first | ((with_reducible refine (HD.out _ HL.out).mono ?_); rintro _ w3 ⟨rfl, ⟨N, hN, b3⟩, o3⟩; have Q3 := Lib.hid ((HL.out.mono (T := fun j => j = x) (fun _ _ (q : False) => q.elim)).trans o3 (fun _ _ q => q)); have HRB := Lib.hid (HRP.out w3 Q3.out); have HB3 := Lib.hid b3; clear b3 o3; have r0 : w3.cell? ⟨w.heap.size + 1, 0, none⟩ = some (.int .i64 0) := blk_cell HRB.out 0; have r1 : w3.cell? ⟨w.heap.size + 1, 1, none⟩ = some (.string ⟨#[]⟩) := blk_cell HRB.out 1; have f0 := blk_frozen HRB.out 0; have f1 := blk_frozen HRB.out 1))
  all_goals (
    go_wp2_with fail
    obtain ⟨g0, g1, o6⟩ := reply_set w3 _ HRB.out E (str V)
    refine bodyPost_ret (v := replyV E V) (by simp [results, Tryd.results7, go_sem, g0, g1, replyV]) rfl ⟨rfl, ?_⟩
    have hN3 : w.heap.size + 2 ≤ N := by
      have h1 := HZ.out
      have h2 : (laidW w kd p k v o).heap.size ≤ N := hN
      omega
    exact ⟨⟨N, by omega, HQQ.out N _ _ _ (Nat.le_succ _) (by omega) HB3.out o6⟩, (HU2.out _ Q3.out).trans o6 (fun j hj q => by have q : j = w.heap.size + 1 := q; omega)⟩)
/-- A bucket of its own, between two blocks. -/
def SubAt (W : World) (lo hi r : Nat) (n : Int) : Prop := ∃ a b, BoxAt W r { newBox a b with seq := n } ∧ lo ≤ r ∧ r < hi ∧ lo ≤ a ∧ a < hi ∧ lo ≤ b ∧ b < hi
theorem SubAt.only {W W' : World} {lo hi r : Nat} {n : Int} {F : Nat → Prop} (h : SubAt W lo hi r n) (ho : Only F W W') (hF : ∀ j, lo ≤ j → j < hi → ¬ F j) : SubAt W' lo hi r n := by
  obtain ⟨a, b, hb, h1, h2, h3, h4, h5, h6⟩ := h
  exact ⟨a, b, hb.only ho (hF _ h1 h2) (hF _ h3 h4) (hF _ h5 h6), h1, h2, h3, h4, h5, h6⟩
/-- The root, its blocks below 'top'. -/
structure RootAt (w W : World) (nt st r a b top : Nat) (I : Bytes → Option (Option Nat)) (ni : Nat) : Prop where
  sta : StAt W st r
  box : BoxAt W r { newBox a b with I := I, ni := ni }
  tab : Tab nt W
  mx : MaxAt W
  only : Only (fun _ => False) w W
  l0 : nt ≤ w.heap.size
  l1 : w.heap.size ≤ st ∧ w.heap.size ≤ r ∧ w.heap.size ≤ a ∧ w.heap.size ≤ b
  l2 : st < top ∧ r < top ∧ a < top ∧ b < top
  l3 : st ≠ a ∧ st ≠ b ∧ st ≠ r
  l4 : 0 < w.heap.size
theorem RootAt.still {w W W' : World} {nt st r a b top : Nat} {I : Bytes → Option (Option Nat)} {ni : Nat} (h : RootAt w W nt st r a b top I ni) (ho : Only (fun _ => False) W W') : RootAt w W' nt st r a b top I ni :=
  ⟨blk_still h.sta ho id, h.box.still ho, h.tab.still ho, h.mx.still ho, h.only.trans ho (fun _ _ q => q.elim), h.l0, h.l1, h.l2, h.l3, h.l4⟩
theorem RootAt.off {w W W' : World} {nt st r a b top x : Nat} {I : Bytes → Option (Option Nat)} {ni : Nat} (h : RootAt w W nt st r a b top I ni) (ho : Only (fun j => j = x) W W') (hx : top ≤ x) (hw : w.heap.size ≤ x) : RootAt w W' nt st r a b top I ni := by
  obtain ⟨m1, m2, m3, m4⟩ := h.l2
  have h0 := h.l0
  have h4 := h.l4
  refine ⟨blk_still h.sta ho (by omega), h.box.only ho (by omega) (by show ¬ a = x; omega) (by show ¬ b = x; omega), h.tab.only ho (fun j hj => by omega), h.mx.only ho (by omega), ?_, h.l0, h.l1, h.l2, h.l3, h.l4⟩
  exact (Only.trans (h.only.mono (T := fun j => j = x) (fun _ _ (q : False) => q.elim)) ho (fun _ _ q => q)).mono (fun j hj q => by have q : j = x := q; omega)
theorem RootAt.root {w W W' : World} {nt st r a b top : Nat} {I I' : Bytes → Option (Option Nat)} {ni ni' : Nat} (h : RootAt w W nt st r a b top I ni) (hb : BoxAt W' r { newBox a b with I := I', ni := ni' }) (ho : Only (fun j => j = b) W W') : RootAt w W' nt st r a b top I' ni' := by
  obtain ⟨m1, m2, m3, m4⟩ := h.l1
  have h0 := h.l0
  have h4 := h.l4
  refine ⟨blk_still h.sta ho h.l3.2.1, hb, h.tab.only ho (fun j hj => by omega), h.mx.only ho (by omega), ?_, h.l0, h.l1, h.l2, h.l3, h.l4⟩
  exact (Only.trans (h.only.mono (T := fun j => j = b) (fun _ _ (q : False) => q.elim)) ho (fun _ _ q => q)).mono (fun j hj q => by have q : j = b := q; omega)
section
variable {w W : World} {nt st r a b top : Nat} {I : Bytes → Option (Option Nat)} {ni : Nat} (h : RootAt w W nt st r a b top I ni)
include h
/-- Making a bucket that is not there. -/
theorem RootAt.make {p : Bytes} (hp : Named p) (hI : I p = none) (hn : ni < maxLen) : Calls Tryd.prog 7 #[.pointer (some ⟨st, 0, none⟩), .agg #[.int .i64 5, .string ⟨#[]⟩, str p, .string ⟨#[]⟩, .string ⟨#[]⟩]] W fun e w' => e = .returned (.agg #[.int .i64 0, .string ⟨#[]⟩]) ∧ ∃ r1, RootAt w w' nt st r a b top (upM I p (some r1)) (ni + 1) ∧ SubAt w' W.heap.size w'.heap.size r1 0 ∧ Only (fun j => j = b) W w' := by
  have lr := h.box.lt
  have la : a < W.heap.size := h.box.vals.lt
  have lb : b < W.heap.size := h.box.ins.lt
  have hd2 : r ≠ b := h.box.d2
  have hd3 : a ≠ b := h.box.d3
  have hQ : ∀ (N n : Nat) (u u' : World), W.heap.size ≤ n → n < N → (∃ r1 a1 b1, BoxAt u r { newBox a b with I := upM I p (some r1), ni := ni + 1 } ∧ BoxAt u r1 (newBox a1 b1) ∧ N ≤ r1 ∧ N ≤ a1 ∧ N ≤ b1) → Only (fun j => j = n) u u' → ∃ r1 a1 b1, BoxAt u' r { newBox a b with I := upM I p (some r1), ni := ni + 1 } ∧ BoxAt u' r1 (newBox a1 b1) ∧ N ≤ r1 ∧ N ≤ a1 ∧ N ≤ b1 := by
    rintro N n u u' h1 h2 ⟨r1, a1, b1, hb, hb1, n1, n2, n3⟩ ho
    exact ⟨r1, a1, b1, hb.only ho (by omega) (by show ¬ a = n; omega) (by show ¬ b = n; omega), hb1.only ho (by omega) (by show ¬ a1 = n; omega) (by show ¬ b1 = n; omega), n1, n2, n3⟩
  refine (SDoG W st r b 5 [] p [] [] 0 [] (fun N u => ∃ r1 a1 b1, BoxAt u r { newBox a b with I := upM I p (some r1), ni := ni + 1 } ∧ BoxAt u r1 (newBox a1 b1) ∧ N ≤ r1 ∧ N ≤ a1 ∧ N ≤ b1) h.sta lb hQ ?_).mono ?_
  · intro U hU
    have hs := hU.size
    refine do_make U r b p 0 _ _ (h.box.still hU) hp (by omega) (fun N n u u' g1 g2 => hQ N n u u' (by omega) g2) (fun X hX => ?_)
    refine (Make_is X r p _ ((h.box.still hU).still hX) hp rfl hI hn).mono ?_
    rintro e w' ⟨r1, a1, b1, he, hb, hb1, ho, n1, n2, n3⟩
    exact ⟨he, ⟨r1, a1, b1, hb, hb1, n1, n2, n3⟩, ho⟩
  · rintro e w' ⟨rfl, ⟨N, hN, r1, a1, b1, hb, hb1, n1, n2, n3⟩, ho⟩
    exact ⟨rfl, r1, h.root hb ho, ⟨a1, b1, hb1, by omega, hb1.lt, by omega, hb1.vals.lt, by omega, hb1.ins.lt⟩, ho⟩
/-- Making one that is there. -/
theorem RootAt.dup {p : Bytes} (hp : Named p) (hI : (I p).isSome = true) : Calls Tryd.prog 7 #[.pointer (some ⟨st, 0, none⟩), .agg #[.int .i64 5, .string ⟨#[]⟩, str p, .string ⟨#[]⟩, .string ⟨#[]⟩]] W fun e w' => e = .returned (.agg #[.int .i64 9, .string ⟨#[]⟩]) ∧ RootAt w w' nt st r a b top I ni ∧ Only (fun j => j = b) W w' := by
  have lb : b < W.heap.size := h.box.ins.lt
  have la : a < W.heap.size := h.box.vals.lt
  have lr := h.box.lt
  have hQ : ∀ (N n : Nat) (u u' : World), W.heap.size ≤ n → n < N → BoxAt u r { newBox a b with I := I, ni := ni } → Only (fun j => j = n) u u' → BoxAt u' r { newBox a b with I := I, ni := ni } :=
    fun N n u u' h1 h2 hb ho => hb.only ho (by omega) (by show ¬ a = n; omega) (by show ¬ b = n; omega)
  refine (SDoG W st r b 5 [] p [] [] 9 [] (fun _ u => BoxAt u r { newBox a b with I := I, ni := ni }) h.sta lb hQ ?_).mono ?_
  · intro U hU
    have hs := hU.size
    refine do_make U r b p 9 _ _ (h.box.still hU) hp (by omega) (fun N n u u' g1 g2 => hQ N n u u' (by omega) g2) (fun X hX => ?_)
    refine (Make_dup X r p _ ((h.box.still hU).still hX) hp hI).mono ?_
    rintro e w' ⟨he, ho⟩
    exact ⟨he, ((h.box.still hU).still hX).still ho, ho.mono (fun _ _ (q : False) => q.elim)⟩
  · rintro e w' ⟨rfl, ⟨N, hN, hb⟩, ho⟩
    exact ⟨rfl, h.root hb ho, ho⟩
/-- Dropping one. -/
theorem RootAt.drop {p : Bytes} (hp : Named p) (hI : (I p).isSome = true) : Calls Tryd.prog 7 #[.pointer (some ⟨st, 0, none⟩), .agg #[.int .i64 6, .string ⟨#[]⟩, str p, .string ⟨#[]⟩, .string ⟨#[]⟩]] W fun e w' => e = .returned (.agg #[.int .i64 0, .string ⟨#[]⟩]) ∧ RootAt w w' nt st r a b top (offM I p) ni ∧ Only (fun j => j = b) W w' := by
  have lb : b < W.heap.size := h.box.ins.lt
  have la : a < W.heap.size := h.box.vals.lt
  have lr := h.box.lt
  have hQ : ∀ (N n : Nat) (u u' : World), W.heap.size ≤ n → n < N → BoxAt u r { newBox a b with I := offM I p, ni := ni } → Only (fun j => j = n) u u' → BoxAt u' r { newBox a b with I := offM I p, ni := ni } :=
    fun N n u u' h1 h2 hb ho => hb.only ho (by omega) (by show ¬ a = n; omega) (by show ¬ b = n; omega)
  refine (SDoG W st r b 6 [] p [] [] 0 [] (fun _ u => BoxAt u r { newBox a b with I := offM I p, ni := ni }) h.sta lb hQ ?_).mono ?_
  · intro U hU
    have hs := hU.size
    refine do_drop U r b p 0 _ _ (h.box.still hU) hp (by omega) (fun N n u u' g1 g2 => hQ N n u u' (by omega) g2) (fun X hX => ?_)
    exact Drop_is X r p _ ((h.box.still hU).still hX) hp rfl hI
  · rintro e w' ⟨rfl, ⟨N, hN, hb⟩, ho⟩
    exact ⟨rfl, h.root hb ho, ho⟩
/-- One more of a bucket's number. -/
theorem RootAt.next {p : Bytes} {lo hi r1 : Nat} {n : Int} (hp : Named p) (hI : I p = some (some r1)) (hs : SubAt W lo hi r1 n) (hlo : top ≤ lo) (hw : w.heap.size ≤ lo) (hn : 0 ≤ n ∧ n ≤ 1000000) : Calls Tryd.prog 7 #[.pointer (some ⟨st, 0, none⟩), .agg #[.int .i64 7, str p, .string ⟨#[]⟩, .string ⟨#[]⟩, .string ⟨#[]⟩]] W fun e w' => e = .returned (.agg #[.int .i64 0, str (Lib.itoa (n + 1))]) ∧ RootAt w w' nt st r a b top I ni ∧ SubAt w' lo hi r1 (n + 1) ∧ Only (fun j => j = r1) W w' := by
  obtain ⟨a1, b1, hb, m1, m2, m3, m4, m5, m6⟩ := hs
  have l1 := hb.lt
  have l2 : a1 < W.heap.size := hb.vals.lt
  have l3 : b1 < W.heap.size := hb.ins.lt
  have h0 := h.l0
  have hQ : ∀ (N n0 : Nat) (u u' : World), W.heap.size ≤ n0 → n0 < N → BoxAt u r1 { newBox a1 b1 with seq := n + 1 } → Only (fun j => j = n0) u u' → BoxAt u' r1 { newBox a1 b1 with seq := n + 1 } :=
    fun N n0 u u' g1 g2 hb ho => hb.only ho (by omega) (by show ¬ a1 = n0; omega) (by show ¬ b1 = n0; omega)
  refine (SDoG W st r r1 7 p [] [] [] 0 (Lib.itoa (n + 1)) (fun _ u => BoxAt u r1 { newBox a1 b1 with seq := n + 1 }) h.sta l1 hQ ?_).mono ?_
  · intro U hU
    have hsz := hU.size
    refine (do_next U r r1 nt p _ (finds_one (h.box.still hU) hp (h.mx.still hU) rfl hI) hp (h.mx.still hU) (hb.still hU) (h.tab.still hU) (by omega) hn).mono ?_
    rintro e w' ⟨he, w2, hb2, o2, o3⟩
    have hsz2 := o2.size
    exact ⟨he, ⟨_, Nat.le_refl _, hb2.only o3 (by omega) (by show ¬ a1 = _; omega) (by show ¬ b1 = _; omega)⟩, o2.trans o3 (fun j hj q => by have q : j = U.heap.size + 1 := q; omega)⟩
  · rintro e w' ⟨rfl, ⟨N, hN, hb2⟩, ho⟩
    exact ⟨rfl, h.off ho (by omega) (by omega), ⟨a1, b1, hb2, m1, m2, m3, m4, m5, m6⟩, ho⟩
/-- A number where there is no bucket. -/
theorem RootAt.nextNone {p : Bytes} (hp : Named p) (hI : I p = none) : Calls Tryd.prog 7 #[.pointer (some ⟨st, 0, none⟩), .agg #[.int .i64 7, str p, .string ⟨#[]⟩, .string ⟨#[]⟩, .string ⟨#[]⟩]] W fun e w' => e = .returned (.agg #[.int .i64 8, .string ⟨#[]⟩]) ∧ RootAt w w' nt st r a b top I ni ∧ Only (fun j => j = b) W w' := by
  have lb : b < W.heap.size := h.box.ins.lt
  have la : a < W.heap.size := h.box.vals.lt
  have lr := h.box.lt
  have hQ : ∀ (N n : Nat) (u u' : World), W.heap.size ≤ n → n < N → BoxAt u r { newBox a b with I := I, ni := ni } → Only (fun j => j = n) u u' → BoxAt u' r { newBox a b with I := I, ni := ni } :=
    fun N n u u' h1 h2 hb ho => hb.only ho (by omega) (by show ¬ a = n; omega) (by show ¬ b = n; omega)
  refine (SDoG W st r b 7 p [] [] [] 8 [] (fun _ u => BoxAt u r { newBox a b with I := I, ni := ni }) h.sta lb hQ ?_).mono ?_
  · intro U hU
    refine (do_next_none U r p _ (h.box.still hU) hp (h.mx.still hU) rfl hI).mono ?_
    rintro e w' ⟨he, ho⟩
    exact ⟨he, ⟨_, Nat.le_refl _, (h.box.still hU).still ho⟩, ho.mono (fun _ _ (q : False) => q.elim)⟩
  · rintro e w' ⟨rfl, ⟨N, hN, hb⟩, ho⟩
    exact ⟨rfl, h.root hb ho, ho⟩
/-- The root has no number to count. -/
theorem RootAt.nextRoot : Calls Tryd.prog 7 #[.pointer (some ⟨st, 0, none⟩), .agg #[.int .i64 7, .string ⟨#[]⟩, .string ⟨#[]⟩, .string ⟨#[]⟩, .string ⟨#[]⟩]] W fun e w' => e = .returned (.agg #[.int .i64 1, .string ⟨#[]⟩]) ∧ RootAt w w' nt st r a b top I ni ∧ Only (fun j => j = b) W w' := by
  have lb : b < W.heap.size := h.box.ins.lt
  have la : a < W.heap.size := h.box.vals.lt
  have lr := h.box.lt
  have hQ : ∀ (N n : Nat) (u u' : World), W.heap.size ≤ n → n < N → BoxAt u r { newBox a b with I := I, ni := ni } → Only (fun j => j = n) u u' → BoxAt u' r { newBox a b with I := I, ni := ni } :=
    fun N n u u' h1 h2 hb ho => hb.only ho (by omega) (by show ¬ a = n; omega) (by show ¬ b = n; omega)
  refine (SDoG W st r b 7 [] [] [] [] 1 [] (fun _ u => BoxAt u r { newBox a b with I := I, ni := ni }) h.sta lb hQ ?_).mono ?_
  · intro U hU
    refine (do_next_root U r).mono ?_
    rintro e w' ⟨he, ho⟩
    exact ⟨he, ⟨_, Nat.le_refl _, (h.box.still hU).still ho⟩, ho.mono (fun _ _ (q : False) => q.elim)⟩
  · rintro e w' ⟨rfl, ⟨N, hN, hb⟩, ho⟩
    exact ⟨rfl, h.root hb ho, ho⟩
end
end Go.Proofs.YtlkknekflgclgaaDoor
