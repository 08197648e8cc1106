/- Rows of children: Go's slices.Clone. Conditions: fewer than 2^30 children. -/
import Derived.Test.YtbhiamcmiopnoaaGreatDoorZTwigA
import Derived.Test.YtbhiamcmiopnoaaGreatDoorZRow
namespace Go.Proofs.YtbhiamcmiopnoaaGreatDoor
section
open Go.RowKit
theorem kidC_one (x : Kid) : ∀ u ∈ kidC x, u.oneCell' = true := by simp [kidC, Value.oneCell']
theorem flatK_one (l : List Kid) : ∀ u ∈ l.flatMap kidC, u.oneCell' = true := fun u hu => by
  obtain ⟨x, _, hu⟩ := List.mem_flatMap.1 hu
  exact kidC_one x u hu
theorem flatK_length (l : List Kid) : (l.flatMap kidC).length = l.length * 2 := by
  induction l with
  | nil => rfl
  | cons a l ih => rw [List.flatMap_cons, List.length_append, ih, List.length_cons]; simp only [kidC, List.length_cons, List.length_nil]; omega
theorem row_cellsK {w : World} {g off n c : Nat} {l : List Kid} (h : RowAt kidC 2 w (.slice (some ⟨g, off, none⟩) n c) l) : ∀ j u, (l.flatMap kidC)[j]? = some u → w.cell? ((⟨g, off, none⟩ : Addr).add j) = some u := by
  intro j u hu
  rw [addr_add]
  cases h with
  | some _ _ _ _ hc =>
    have hj : j < l.length * 2 := by
      obtain ⟨hj, _⟩ := List.getElem?_eq_some_iff.1 hu
      rwa [flatK_length] at hj
    have hi : j / 2 < l.length := by omega
    have hx : l[j / 2]? = some l[j / 2] := List.getElem?_eq_getElem hi
    have hu2 : (kidC l[j / 2])[j % 2]? = some ((kidC l[j / 2])[j % 2]'(by simp only [kidC, List.length_cons, List.length_nil]; omega)) := List.getElem?_eq_getElem _
    have := hc _ _ _ _ hx hu2
    have e := flat_get (enc := kidC) (k := 2) (fun _ => rfl) l (j / 2) (j % 2) _ _ hx hu2
    rw [show j / 2 * 2 + j % 2 = j by omega] at e this
    rw [hu] at e
    rw [this, Option.some.inj e]
set_option maxRecDepth 100000 in
set_option maxHeartbeats 1000000 in
theorem CloneK_is (v : Value) (l : List Kid) (w : World) (h : RowAt kidC 2 w v l) (hn : l.length ≤ 1073741824) :
    Calls Tryz.prog 218 #[v] w fun e w' => ∃ v', e = .returned v' ∧ w'.ownsRow 0 185 2 v' l.length (l.flatMap kidC) ∧ Only (fun _ => False) w w' ∧ ∀ b, v'.ownBlock = some b → w.heap.size ≤ b := by
  obtain ⟨i0, hi, hz0, hz1, hz2⟩ := info_parts kidInfo
  have hb0 : ∀ w, (binOp .eql 163 (.slice none 0 0) (.slice none 0 0)).run Tryz.prog w = .ok (.bool true) w := fun _ => rfl
  have hb1 : ∀ p n c w, (binOp .eql 163 (.slice (some p) n c) (.slice none 0 0)).run Tryz.prog w = .ok (.bool false) w := fun _ _ _ _ => rfl
  cases h with
  | none =>
    go_enter Tryz.func218, Tryz.ntmps218
    go_wp2_with fail
    go_ret
    exact ⟨.slice none 0 0, rfl, ⟨rfl, .inl ⟨rfl, rfl⟩⟩, Only.refl _ _, fun b hb => by simp [Value.ownBlock] at hb⟩
  | some g off cap _ hc =>
    have HC := Lib.hid (row_cellsK (.some g off cap l hc))
    have hown : (w.alloc (.cells #[] 185)).ownsRow 0 185 2 (.slice (some ⟨w.heap.size, 0, none⟩) 0 0) 0 [] :=
      own_of_heap (cur := #[]) (heap_alloc_new _ _) (Nat.le_refl _) (by unfold maxLen; omega) rfl rfl
    have HOWN := Lib.hid hown
    have oW := (Only.refl (fun _ => False) w).alloc (.cells #[] 185)
    have hcells : ∀ j u, (l.flatMap kidC)[j]? = some u → (w.alloc (.cells #[] 185)).cell? ((⟨g, off, none⟩ : Addr).add j) = some u := fun j u hu => by
      have q := HC.out j u hu
      rw [addr_add] at q ⊢
      exact (oW.cell (p := ⟨g, off + j, none⟩) (lt_of_cell q) id).trans q
    have HCE := Lib.hid hcells
    have HW := Lib.hid oW
    clear hown hcells oW
    have hmax : 0 + l.length ≤ maxLen := by unfold maxLen; omega
    go_enter Tryz.func218, Tryz.ntmps218
    go_wp2_with (at_builtin; refine wpList_append_moved _ rfl _ _ 163 rfl 185 i0 _ 2 24 Tryz.underlying163 hi hz0 hz1 hz2 rfl (by decide) _ _ _ rfl HOWN.out ⟨g, off, none⟩ l.length cap (l.flatMap kidC) rfl (flatK_length l) HCE.out (flatK_one l) hmax (by omega) ?_; intro a' c' wx hown2 hgr hmv; have HX := Lib.hid (And.intro hown2 (And.intro hgr hmv)); clear hown2 hgr hmv)
    go_ret
    obtain ⟨hown2, hgr, hmv⟩ := HX.out
    refine ⟨.slice a' l.length c', by simp, by rw [Nat.zero_add] at hown2; exact hown2, HW.out.grown hgr fun k hk e => ?_, fun b hb => ?_⟩
    · have := Option.some.inj (show some w.heap.size = some k from e); omega
    · rcases hmv b (by rw [Nat.zero_add]; exact hb) with e | e
      · have := Option.some.inj (show some w.heap.size = some b from e); omega
      · simp at e; omega
set_option maxRecDepth 100000 in
theorem overlapsK (w : World) (g vb o m c lb cb : Nat) (hne : vb ≠ g) {cur arr : Array Value} {t1 t2 : TypeId} (hg : w.heap[g]? = some (.cells cur t1 (0, 0))) (hv : w.heap[vb]? = some (.cells arr t2 (0, 0))) (hsz : cur.size ≠ 0) :
    (callFunc 231 #[.slice (some ⟨vb, 0, none⟩) m c, .slice (some ⟨g, o, none⟩) lb cb]).run Tryz.prog w = .ok (.value (.bool false)) w := by
  have hz : ∀ w, (Go.sizeOf 185).run Tryz.prog w = .ok 2 w := fun _ => rfl
  rw [run_callFunc_extern Tryz.func231 (by kernel_rfl) (by kernel_rfl) (by kernel_rfl) (e := Extern.SlicesOverlaps.overlaps #[163, 163] #[4]) (by kernel_rfl),
    Lib.run_overlaps_apart w 163 4 185 Tryz.underlying163 2 hz ⟨vb, 0, none⟩ ⟨g, o, none⟩ m c lb cb hne t2 t1 arr.size cur.size (by simp [World.shape?, hv]) (by simp [World.shape?, hg]) hsz (by simp [World.frozen?, hv]) (by simp [World.frozen?, hv])]
  rfl
theorem flatK_take (l : List Kid) (i : Nat) : (l.flatMap kidC).take (i * 2) = (l.take i).flatMap kidC := by
  induction l generalizing i with
  | nil => simp
  | cons a l ih =>
    cases i with
    | zero => simp
    | succ i =>
      rw [List.take_succ_cons, List.flatMap_cons, List.flatMap_cons, ← ih i, show (i + 1) * 2 = (kidC a).length + i * 2 by simp only [kidC, List.length_cons, List.length_nil]; omega, List.take_length_add_append]
theorem flatK_drop (l : List Kid) (i : Nat) : (l.flatMap kidC).drop (i * 2) = (l.drop i).flatMap kidC := by
  induction l generalizing i with
  | nil => simp
  | cons a l ih =>
    cases i with
    | zero => simp
    | succ i =>
      rw [List.drop_succ_cons, List.flatMap_cons, ← ih i, show (i + 1) * 2 = (kidC a).length + i * 2 by simp only [kidC, List.length_cons, List.length_nil]; omega, List.drop_length_add_append]
end
section
open Go.RowKit
theorem rep_room (cur xs vs : List Value) (a M e N : Nat) (h : cur.take N = xs) (hN : N - e + M ≤ cur.length) (hN2 : N ≤ cur.length) (ha : a + e ≤ N) (hv : vs.length = M) :
    ((cur.take (a + M) ++ xs.drop (a + e) ++ cur.drop (a + M + (N - (a + e)))).take a ++ vs ++ (cur.take (a + M) ++ xs.drop (a + e) ++ cur.drop (a + M + (N - (a + e)))).drop (a + M)).take (N - e + M) = xs.take a ++ vs ++ xs.drop (a + e) := by
  have hx : xs.length = N := by rw [← h, List.length_take]; omega
  have e1 : (cur.take (a + M) ++ xs.drop (a + e) ++ cur.drop (a + M + (N - (a + e)))).take a = xs.take a := by
    rw [List.append_assoc, List.take_append_of_le_length (by rw [List.length_take]; omega), List.take_take, ← h, List.take_take]
    congr 1
    omega
  have e2 : (cur.take (a + M) ++ xs.drop (a + e) ++ cur.drop (a + M + (N - (a + e)))).drop (a + M) = xs.drop (a + e) ++ cur.drop (a + M + (N - (a + e))) := by
    have hl : (cur.take (a + M)).length = a + M := by rw [List.length_take]; omega
    rw [List.append_assoc]
    have := List.drop_left (l₁ := cur.take (a + M)) (l₂ := xs.drop (a + e) ++ cur.drop (a + M + (N - (a + e))))
    rwa [hl] at this
  rw [e1, e2, ← List.append_assoc]
  have hl : (xs.take a ++ vs ++ xs.drop (a + e)).length = N - e + M := by simp only [List.length_append, List.length_take, List.length_drop]; omega
  have := List.take_left (l₁ := xs.take a ++ vs ++ xs.drop (a + e)) (l₂ := cur.drop (a + M + (N - (a + e))))
  rwa [hl] at this
theorem rep_grow (r xs vs : List Value) (a M e N : Nat) (h : r.take a = xs.take a) (hN : N - e + M ≤ r.length) (hx : xs.length = N) (ha : a + e ≤ N) (hv : vs.length = M) :
    ((r.take a ++ vs ++ r.drop (a + M)).take (a + M) ++ xs.drop (a + e) ++ (r.take a ++ vs ++ r.drop (a + M)).drop (a + M + (N - (a + e)))).take (N - e + M) = xs.take a ++ vs ++ xs.drop (a + e) := by
  have hl : (r.take a ++ vs).length = a + M := by simp only [List.length_append, List.length_take]; omega
  have e1 : (r.take a ++ vs ++ r.drop (a + M)).take (a + M) = xs.take a ++ vs := by
    have := List.take_left (l₁ := r.take a ++ vs) (l₂ := r.drop (a + M))
    rw [hl, h] at this
    rw [h]
    exact this
  rw [e1]
  have hl2 : (xs.take a ++ vs ++ xs.drop (a + e)).length = N - e + M := by simp only [List.length_append, List.length_take, List.length_drop]; omega
  have := List.take_left (l₁ := xs.take a ++ vs ++ xs.drop (a + e)) (l₂ := (r.take a ++ vs ++ r.drop (a + M)).drop (a + M + (N - (a + e))))
  rwa [hl2] at this
set_option maxRecDepth 100000 in
set_option maxHeartbeats 2000000 in
theorem Rep_end (g cap : Nat) (l ws : List Kid) (i vb vc : Nat) (w : World) (hi : i + 1 = l.length) (hm : 1 ≤ ws.length)
    (hown : w.ownsRow 0 185 2 (.slice (some ⟨g, 0, none⟩) l.length cap) l.length (l.flatMap kidC)) (hv : w.ownsRow 0 185 2 (.slice (some ⟨vb, 0, none⟩) ws.length vc) ws.length (ws.flatMap kidC)) (hn : l.length ≤ 1000000) (hwn : ws.length ≤ 1000000) :
    Calls Tryz.prog 219 #[.slice (some ⟨g, 0, none⟩) l.length cap, .int .i64 i, .int .i64 ((i : Int) + 1), .slice (some ⟨vb, 0, none⟩) ws.length vc] w fun e w' => ∃ v', e = .returned v' ∧ w'.ownsRow 0 185 2 v' (i + ws.length) ((l.take i ++ ws).flatMap kidC) ∧ Only (fun k => k = g) w w' ∧ Moved w (.slice (some ⟨g, 0, none⟩) l.length cap) v' := by
  obtain ⟨i0, hi0, hz0, hz1, hz2⟩ := info_parts kidInfo
  obtain ⟨cur, hg, h1, h2, h3, h4⟩ := heap_of_own hown
  have hcut := own_cut hown i (by omega)
  rw [flatK_take] at hcut
  have HOWN := Lib.hid hcut
  have HCE : Hid (∀ j u, (ws.flatMap kidC)[j]? = some u → w.cell? ((⟨vb, 0, none⟩ : Addr).add j) = some u) := Lib.hid (fun j u hu => by rw [addr_add, Nat.zero_add]; exact own_cell hv j u hu)
  have hc63 : cap ≤ 9223372036854775807 := by unfold maxLen at h2; omega
  have hci : (i : Int) + 1 ≤ (cap : Int) := by omega
  have hci0 : (i : Int) ≤ (cap : Int) := by omega
  have hi1 : (i : Int) ≤ (i : Int) + 1 := by omega
  have hi2 : ¬ ((i : Int) = (i : Int) + 1) := by omega
  have hi3 : ((i : Int) + 1 = (l.length : Int)) := by omega
  have hi0' : (0 : Int) ≤ (i : Int) := by omega
  have htn : ((i : Int) + 1).toNat = i + 1 := by omega
  have hle : ¬ ((i : Int) + (ws.length : Int) < (l.length : Int)) := by omega
  clear hown hv hcut hg h3 h4
  go_enter Tryz.func219, Tryz.ntmps219
  go_wp2_with (at_builtin; refine wpList_append_moved _ rfl _ _ 163 rfl 185 i0 _ 2 24 Tryz.underlying163 hi0 hz0 hz1 hz2 rfl (by decide) _ _ _ rfl HOWN.out ⟨vb, 0, none⟩ ws.length vc (ws.flatMap kidC) rfl (flatK_length ws) HCE.out (flatK_one ws) (by unfold maxLen; omega) (by omega) ?_; intro a' c' wx hown2 hgr hmv; have HX := Lib.hid (And.intro hown2 (And.intro hgr hmv)); clear hown2 hgr hmv)
  all_goals
    go_ret
    obtain ⟨hown2, hgr, hmv⟩ := HX.out
    exact ⟨.slice a' (i + ws.length) c', rfl, by simpa using hown2, (Only.refl _ w).grown hgr (fun k _ e => (Option.some.inj e).symm), hmv⟩
end
section
open Go.RowKit
set_option maxRecDepth 100000 in
theorem overlapsK2 (w : World) (g vb o m c lb cb : Nat) (hne : vb ≠ g) {cur arr : Array Value} {t1 t2 : TypeId} (hg : w.heap[g]? = some (.cells cur t1 (0, 0))) (hv : w.heap[vb]? = some (.cells arr t2 (0, 0))) (hsz : arr.size ≠ 0) :
    (callFunc 231 #[.slice (some ⟨g, o, none⟩) lb cb, .slice (some ⟨vb, 0, none⟩) m c]).run Tryz.prog w = .ok (.value (.bool false)) w := by
  have hz : ∀ w, (Go.sizeOf 185).run Tryz.prog w = .ok 2 w := fun _ => rfl
  rw [run_callFunc_extern Tryz.func231 (by kernel_rfl) (by kernel_rfl) (by kernel_rfl) (e := Extern.SlicesOverlaps.overlaps #[163, 163] #[4]) (by kernel_rfl),
    Lib.run_overlaps_apart w 163 4 185 Tryz.underlying163 2 hz ⟨g, o, none⟩ ⟨vb, 0, none⟩ lb cb m c (fun e => hne e.symm) t1 t2 cur.size arr.size (by simp [World.shape?, hg]) (by simp [World.shape?, hv]) hsz (by simp [World.frozen?, hg]) (by simp [World.frozen?, hg])]
  rfl
set_option maxRecDepth 100000 in
set_option maxHeartbeats 4000000 in
theorem Rep_room (g cap m T : Nat) (l ws : List Kid) (i vb vc : Nat) (w : World) (hmm : ws.length = m) (hT : T = l.length - 1 + m) (hi : i + 1 < l.length) (hm : 2 ≤ m) (hne : vb ≠ g) (hroom : T ≤ cap)
    (hown : w.ownsRow 0 185 2 (.slice (some ⟨g, 0, none⟩) l.length cap) l.length (l.flatMap kidC)) (hv : w.ownsRow 0 185 2 (.slice (some ⟨vb, 0, none⟩) m vc) m (ws.flatMap kidC)) (hn : l.length ≤ 1000000) (hwn : m ≤ 1000000) :
    Calls Tryz.prog 219 #[.slice (some ⟨g, 0, none⟩) l.length cap, .int .i64 i, .int .i64 ((i : Int) + 1), .slice (some ⟨vb, 0, none⟩) m vc] w fun e w' => e = .returned (.slice (some ⟨g, 0, none⟩) T cap) ∧ w'.ownsRow 0 185 2 (.slice (some ⟨g, 0, none⟩) T cap) T ((l.take i ++ ws ++ l.drop (i + 1)).flatMap kidC) ∧ Only (fun k => k = g) w w' := by
  obtain ⟨cur, hg, h1, h2, h3, h4⟩ := heap_of_own hown
  obtain ⟨arr, hvg, k1, k2, k3, k4⟩ := heap_of_own hv
  have hc63 : cap ≤ 9223372036854775807 := by unfold maxLen at h2; omega
  have hsum : (i : Int) + (m : Int) + ((l.length - (i + 1) : Nat) : Int) = (T : Int) := by omega
  have hci : (i : Int) + 1 ≤ (cap : Int) := by omega
  have hci0 : (i : Int) ≤ (cap : Int) := by omega
  have hi1 : (i : Int) ≤ (i : Int) + 1 := by omega
  have hi2 : ¬ ((i : Int) = (i : Int) + 1) := by omega
  have hi3 : ¬ ((i : Int) + 1 = (l.length : Int)) := by omega
  have hi4 : (i : Int) + 1 ≤ (l.length : Int) := by omega
  have hi0' : (0 : Int) ≤ (i : Int) := by omega
  have hi5 : (0 : Int) ≤ (i : Int) + 1 := by omega
  have htn : ((i : Int) + 1).toNat = i + 1 := by omega
  have hw1 : IntKind.i64.wrap ((i : Int) + (m : Int)) = (i : Int) + (m : Int) := by exact IntWalk.i64_in _ (by omega)
  have hw2 : IntKind.i64.wrap (T : Int) = (T : Int) := by exact IntWalk.i64_in _ (by omega)
  have hT1 : ¬ ((cap : Int) < (T : Int)) := by omega
  have hT2 : (T : Int) ≤ (cap : Int) := by omega
  have hT0 : (0 : Int) ≤ (T : Int) := by omega
  have him : ¬ ((i : Int) + (m : Int) ≤ (i : Int) + 1) := by omega
  have him0 : (0 : Int) ≤ (i : Int) + (m : Int) := by omega
  have himT : (i : Int) + (m : Int) ≤ (T : Int) := by omega
  have htm : ((i : Int) + (m : Int)).toNat = i + m := by omega
  have hcm : ¬ (cap = i + m) := by omega
  have hc1 : ¬ (cap = i + 1) := by omega
  have hc0 : ¬ (cap = i) := by omega
  have hiT : (i : Int) ≤ (T : Int) := by omega
  have hov : ∀ o lb cb W, W.heap = w.heap → (callFunc 231 #[.slice (some ⟨g, o, none⟩) lb cb, .slice (some ⟨vb, 0, none⟩) m vc]).run Tryz.prog W = .ok (.value (.bool false)) W := fun o lb cb W hW => overlapsK2 W g vb o m vc lb cb hne (by rw [hW]; exact hg) (by rw [hW]; exact hvg) (by omega)
  have hov1 := hov ((i + m) * 2) (T - (i + m)) (cap - (i + m)) w.drew rfl
  have hsz : (Tryz.prog.info? 185).map (·.size) = some 2 := by kernel_rfl
  have hx : (l.flatMap kidC).length = l.length * 2 := flatK_length l
  have hwl : (ws.flatMap kidC).length = m * 2 := by rw [flatK_length, hmm]
  have hcl : cur.toList.length = cap * 2 := by rw [Array.length_toList]; exact h3
  have hgw : g < w.heap.size := own_lt hown
  have hvw : vb < w.heap.size := own_lt hv
  have hdl : ((l.flatMap kidC).drop (i * 2 + 2)).length = l.length * 2 - (i * 2 + 2) := by rw [List.length_drop, hx]
  obtain ⟨C1, hC1⟩ : ∃ C1 : List Value, C1 = cur.toList.take (i * 2 + m * 2) ++ (l.flatMap kidC).drop (i * 2 + 2) ++ cur.toList.drop (i * 2 + m * 2 + (l.length * 2 - (i * 2 + 2))) := ⟨_, rfl⟩
  have hC1l : C1.length = cap * 2 := by rw [hC1]; simp only [List.length_append, List.length_take, hdl, List.length_drop, hcl]; omega
  have hcpA : ∀ W : World, W.heap = w.heap → ∀ ty dc sc, (Builtin.copy_ #[163, 163] ty #[.slice (some ⟨g, (i + m) * 2, none⟩) (T - (i + m)) dc, .slice (some ⟨g, i * 2 + 2, none⟩) (l.length - (i + 1)) sc]).run Tryz.prog W = .ok (goInt (Nat.min (l.length - (i + 1)) (T - (i + m)))) (W.setRow g C1.toArray) := fun W hW ty dc sc => by
    have hWg : W.heap[g]? = some (.cells cur 185 (0, 0)) := by rw [hW]; exact hg
    have hC1' : C1 = cur.toList.take ((i + m) * 2) ++ (l.flatMap kidC).drop (i * 2 + 2) ++ cur.toList.drop ((i + m) * 2 + ((l.flatMap kidC).drop (i * 2 + 2)).length) := by rw [hdl, Nat.add_mul]; exact hC1
    rw [hC1']
    exact run_copy_k W 163 163 ty 185 2 g ((i + m) * 2) (T - (i + m)) dc ⟨g, i * 2 + 2, none⟩ (l.length - (i + 1)) sc cur 185 ((l.flatMap kidC).drop (i * 2 + 2)) Tryz.underlying163 hsz hWg
      (by rw [hdl]; show _ = min _ _ * 2; omega) (fun j u hu => by
        rw [addr_add]
        rw [List.getElem?_drop] at hu
        exact (World.cell?_of_block (by rw [hW])).trans (own_cell hown _ u hu)) (by rw [hdl, h3]; omega) (fun u hu => flatK_one l u (List.mem_of_mem_drop hu))
  obtain ⟨C2, hC2⟩ : ∃ C2 : List Value, C2 = C1.take (i * 2) ++ ws.flatMap kidC ++ C1.drop (i * 2 + m * 2) := ⟨_, rfl⟩
  have hC2l : C2.length = cap * 2 := by rw [hC2]; simp only [List.length_append, List.length_take, List.length_drop, hC1l, hwl]; omega
  have hcpB : ∀ W : World, W.heap = (w.setRow g C1.toArray).heap → ∀ ty dc, (Builtin.copy_ #[163, 163] ty #[.slice (some ⟨g, i * 2, none⟩) (T - i) dc, .slice (some ⟨vb, 0, none⟩) m vc]).run Tryz.prog W = .ok (goInt (Nat.min m (T - i))) (W.setRow g C2.toArray) := fun W hW ty dc => by
    have hWg : W.heap[g]? = some (.cells C1.toArray 185 (0, 0)) := by rw [hW]; exact setRow_heap w g cur C1.toArray 185 (0, 0) hg
    have hWv : W.heap[vb]? = w.heap[vb]? := by rw [hW]; exact ((Only.refl (fun k => k = g) w).setRow (g := g) (fun _ => rfl) C1.toArray).block vb hvw hne
    have hC2' : C2 = C1.toArray.toList.take (i * 2) ++ ws.flatMap kidC ++ C1.toArray.toList.drop (i * 2 + (ws.flatMap kidC).length) := by rw [hwl]; exact hC2
    rw [hC2']
    exact run_copy_k W 163 163 ty 185 2 g (i * 2) (T - i) dc ⟨vb, 0, none⟩ m vc C1.toArray 185 (ws.flatMap kidC) Tryz.underlying163 hsz hWg
      (by rw [hwl]; show _ = min _ _ * 2; omega) (fun j u hu => by
        rw [addr_add, Nat.zero_add]
        exact (World.cell?_of_block hWv).trans (own_cell hv j u hu)) (by rw [List.size_toArray, hC1l, hwl]; omega) (flatK_one ws)
  have hfin : C2.toArray.toList.take (T * 2) = (l.take i ++ ws ++ l.drop (i + 1)).flatMap kidC := by
    have := rep_room cur.toList (l.flatMap kidC) (ws.flatMap kidC) (i * 2) (m * 2) 2 (l.length * 2) h4 (by rw [hcl]; omega) (by rw [hcl]; omega) (by omega) hwl
    rw [← hC1, ← hC2] at this
    rw [show T * 2 = l.length * 2 - 2 + m * 2 by omega]
    show C2.take _ = _
    rw [this, flatK_take, show i * 2 + 2 = (i + 1) * 2 by omega, flatK_drop]
    simp
  have HF : Hid (∀ W : World, W.heap = ((w.setRow g C1.toArray).setRow g C2.toArray).heap → W.os = w.os → W.tape = w.tape → W.output = w.output →
      W.ownsRow 0 185 2 (.slice (some ⟨g, 0, none⟩) T cap) T ((l.take i ++ ws ++ l.drop (i + 1)).flatMap kidC) ∧ Only (fun k => k = g) w W) := Lib.hid (fun W hW e1 e2 e3 => by
    have hg1 := setRow_heap w g cur C1.toArray 185 (0, 0) hg
    have hg2 := setRow_heap _ g C1.toArray C2.toArray 185 (0, 0) hg1
    have o := ((Only.refl (fun k => k = g) w).setRow (g := g) (fun _ => rfl) C1.toArray).setRow (g := g) (fun _ => rfl) C2.toArray
    exact ⟨own_of_heap (by rw [hW]; exact hg2) hroom h2 (by rw [List.size_toArray, hC2l]) hfin, e1, e2, e3, by rw [hW]; exact o.size, fun k hk hs => by rw [hW]; exact o.block k hk hs⟩)
  have HA := Lib.hid hcpA
  have HB := Lib.hid hcpB
  clear hown h3 h4 hg hv hvg k3 k4 hmm hT hC1 hC1l hC2 hC2l hfin hx hwl hcl hdl hcpA hcpB hov hgw hvw
  go_enter Tryz.func219, Tryz.ntmps219
  go_wp2_with fail
  go_region_law (fail)
  go_wp2_with fail
  go_region_law (refine step_copy_known rfl _ _ 163 163 rfl (.slice (some ⟨g, (i + m) * 2, none⟩) (T - (i + m)) (cap - (i + m))) (.slice (some ⟨g, i * 2 + 2, none⟩) (l.length - (i + 1)) (cap - (i + 1))) (by simp [Act.eval, Act.put]) (by simp [Act.eval, Act.put]) (HA.out _ (by rfl) _ _ _) ?_)
  go_wp2_with (first | (refine wpList_copy_known _ rfl _ _ 163 163 rfl _ _ rfl rfl (HB.out _ (by rfl) _ _) ?_))
  go_ret
  exact ⟨rfl, HF.out _ rfl rfl rfl rfl⟩
end
section
open Go.RowKit
set_option maxRecDepth 100000 in
set_option maxHeartbeats 4000000 in
theorem Rep_one (g cap m T : Nat) (l ws : List Kid) (i vb vc : Nat) (w : World) (hmm : ws.length = m) (hT : T = l.length - 1 + m) (hi : i + 1 < l.length) (hm : m = 1) (hne : vb ≠ g) (hroom : T ≤ cap)
    (hown : w.ownsRow 0 185 2 (.slice (some ⟨g, 0, none⟩) l.length cap) l.length (l.flatMap kidC)) (hv : w.ownsRow 0 185 2 (.slice (some ⟨vb, 0, none⟩) m vc) m (ws.flatMap kidC)) (hn : l.length ≤ 1000000) :
    Calls Tryz.prog 219 #[.slice (some ⟨g, 0, none⟩) l.length cap, .int .i64 i, .int .i64 ((i : Int) + 1), .slice (some ⟨vb, 0, none⟩) m vc] w fun e w' => e = .returned (.slice (some ⟨g, 0, none⟩) T cap) ∧ w'.ownsRow 0 185 2 (.slice (some ⟨g, 0, none⟩) T cap) T ((l.take i ++ ws ++ l.drop (i + 1)).flatMap kidC) ∧ Only (fun k => k = g) w w' := by
  obtain ⟨cur, hg, h1, h2, h3, h4⟩ := heap_of_own hown
  obtain ⟨arr, hvg, k1, k2, k3, k4⟩ := heap_of_own hv
  have hc63 : cap ≤ 9223372036854775807 := by unfold maxLen at h2; omega
  have hsum : (i : Int) + (m : Int) + ((l.length - (i + 1) : Nat) : Int) = (T : Int) := by omega
  have hci : (i : Int) + 1 ≤ (cap : Int) := by omega
  have hci0 : (i : Int) ≤ (cap : Int) := by omega
  have hi1 : (i : Int) ≤ (i : Int) + 1 := by omega
  have hi2 : ¬ ((i : Int) = (i : Int) + 1) := by omega
  have hi3 : ¬ ((i : Int) + 1 = (l.length : Int)) := by omega
  have hi4 : (i : Int) + 1 ≤ (l.length : Int) := by omega
  have hi0' : (0 : Int) ≤ (i : Int) := by omega
  have hi5 : (0 : Int) ≤ (i : Int) + 1 := by omega
  have htn : ((i : Int) + 1).toNat = i + 1 := by omega
  have hw1 : IntKind.i64.wrap ((i : Int) + (m : Int)) = (i : Int) + (m : Int) := by exact IntWalk.i64_in _ (by omega)
  have hw2 : IntKind.i64.wrap (T : Int) = (T : Int) := by exact IntWalk.i64_in _ (by omega)
  have hT1 : ¬ ((cap : Int) < (T : Int)) := by omega
  have hT2 : (T : Int) ≤ (cap : Int) := by omega
  have hT0 : (0 : Int) ≤ (T : Int) := by omega
  have him : (i : Int) + (m : Int) ≤ (i : Int) + 1 := by omega
  have him0 : (0 : Int) ≤ (i : Int) + (m : Int) := by omega
  have himT : (i : Int) + (m : Int) ≤ (T : Int) := by omega
  have htm : ((i : Int) + (m : Int)).toNat = i + m := by omega
  have hcm : ¬ (cap = i + m) := by omega
  have hc1 : ¬ (cap = i + 1) := by omega
  have hc0 : ¬ (cap = i) := by omega
  have hiT : (i : Int) ≤ (T : Int) := by omega
  have hclr : ∀ p c ty w, (Builtin.clear_ #[163] ty #[.slice (some p) 0 c]).run Tryz.prog w = .ok (.tuple #[]) w := fun _ _ _ _ => rfl
  have hTn : T = l.length := by omega
  have hsz : (Tryz.prog.info? 185).map (·.size) = some 2 := by kernel_rfl
  have hx : (l.flatMap kidC).length = l.length * 2 := flatK_length l
  have hwl : (ws.flatMap kidC).length = m * 2 := by rw [flatK_length, hmm]
  have hcl : cur.toList.length = cap * 2 := by rw [Array.length_toList]; exact h3
  have hgw : g < w.heap.size := own_lt hown
  have hvw : vb < w.heap.size := own_lt hv
  have hdl : ((l.flatMap kidC).drop (i * 2 + 2)).length = l.length * 2 - (i * 2 + 2) := by rw [List.length_drop, hx]
  obtain ⟨C1, hC1⟩ : ∃ C1 : List Value, C1 = cur.toList.take (i * 2) ++ ws.flatMap kidC ++ cur.toList.drop (i * 2 + m * 2) := ⟨_, rfl⟩
  have hC1l : C1.length = cap * 2 := by rw [hC1]; simp only [List.length_append, List.length_take, List.length_drop, hcl, hwl]; omega
  have hcpB : ∀ W : World, W.heap = w.heap → ∀ ty dc, (Builtin.copy_ #[163, 163] ty #[.slice (some ⟨g, i * 2, none⟩) (T - i) dc, .slice (some ⟨vb, 0, none⟩) m vc]).run Tryz.prog W = .ok (goInt (Nat.min m (T - i))) (W.setRow g C1.toArray) := fun W hW ty dc => by
    have hWg : W.heap[g]? = some (.cells cur 185 (0, 0)) := by rw [hW]; exact hg
    have hC1' : C1 = cur.toList.take (i * 2) ++ ws.flatMap kidC ++ cur.toList.drop (i * 2 + (ws.flatMap kidC).length) := by rw [hwl]; exact hC1
    rw [hC1']
    exact run_copy_k W 163 163 ty 185 2 g (i * 2) (T - i) dc ⟨vb, 0, none⟩ m vc cur 185 (ws.flatMap kidC) Tryz.underlying163 hsz hWg
      (by rw [hwl]; show _ = min _ _ * 2; omega) (fun j u hu => by
        rw [addr_add, Nat.zero_add]
        exact (World.cell?_of_block (by rw [hW])).trans (own_cell hv j u hu)) (by rw [h3, hwl]; omega) (flatK_one ws)
  obtain ⟨C2, hC2⟩ : ∃ C2 : List Value, C2 = C1.take (i * 2 + m * 2) ++ (l.flatMap kidC).drop (i * 2 + 2) ++ C1.drop (i * 2 + m * 2 + (l.length * 2 - (i * 2 + 2))) := ⟨_, rfl⟩
  have hC2l : C2.length = cap * 2 := by rw [hC2]; simp only [List.length_append, List.length_take, hdl, List.length_drop, hC1l]; omega
  have hsrcC : ∀ j u, ((l.flatMap kidC).drop (i * 2 + 2))[j]? = some u → C1[i * 2 + 2 + j]? = some u := fun j u hu => by
    have hj : j < l.length * 2 - (i * 2 + 2) := by rw [← hdl]; exact (List.getElem?_eq_some_iff.1 hu).1
    rw [List.getElem?_drop, ← h4, List.getElem?_take] at hu
    rw [if_pos (by omega)] at hu
    rw [hC1, List.getElem?_append_right (by simp only [List.length_append, List.length_take, hcl, hwl]; omega)]
    simp only [List.length_append, List.length_take, hcl, hwl, List.getElem?_drop]
    rw [← hu]
    congr 1
    omega
  have hcpA : ∀ W : World, W.heap = (w.setRow g C1.toArray).heap → ∀ ty dc sc, (Builtin.copy_ #[163, 163] ty #[.slice (some ⟨g, (i + m) * 2, none⟩) (T - (i + m)) dc, .slice (some ⟨g, i * 2 + 2, none⟩) (l.length - (i + 1)) sc]).run Tryz.prog W = .ok (goInt (Nat.min (l.length - (i + 1)) (T - (i + m)))) (W.setRow g C2.toArray) := fun W hW ty dc sc => by
    have hWg : W.heap[g]? = some (.cells C1.toArray 185 (0, 0)) := by rw [hW]; exact setRow_heap w g cur C1.toArray 185 (0, 0) hg
    have hC2' : C2 = C1.toArray.toList.take ((i + m) * 2) ++ (l.flatMap kidC).drop (i * 2 + 2) ++ C1.toArray.toList.drop ((i + m) * 2 + ((l.flatMap kidC).drop (i * 2 + 2)).length) := by rw [hdl, Nat.add_mul]; exact hC2
    rw [hC2']
    exact run_copy_k W 163 163 ty 185 2 g ((i + m) * 2) (T - (i + m)) dc ⟨g, i * 2 + 2, none⟩ (l.length - (i + 1)) sc C1.toArray 185 ((l.flatMap kidC).drop (i * 2 + 2)) Tryz.underlying163 hsz hWg
      (by rw [hdl]; show _ = min _ _ * 2; omega) (fun j u hu => by
        rw [addr_add]
        simp only [World.cell?, hWg]
        simpa using hsrcC j u hu) (by rw [hdl, List.size_toArray, hC1l]; omega) (fun u hu => flatK_one l u (List.mem_of_mem_drop hu))
  have hfin : C2.toArray.toList.take (T * 2) = (l.take i ++ ws ++ l.drop (i + 1)).flatMap kidC := by
    have := rep_grow cur.toList (l.flatMap kidC) (ws.flatMap kidC) (i * 2) (m * 2) 2 (l.length * 2) (by rw [← h4, List.take_take]; congr 1; omega) (by rw [hcl]; omega) hx (by omega) hwl
    rw [← hC1, ← hC2] at this
    rw [show T * 2 = l.length * 2 - 2 + m * 2 by omega]
    show C2.take _ = _
    rw [this, flatK_take, show i * 2 + 2 = (i + 1) * 2 by omega, flatK_drop]
    simp
  have HF : Hid (∀ W : World, W.heap = ((w.setRow g C1.toArray).setRow g C2.toArray).heap → W.os = w.os → W.tape = w.tape → W.output = w.output →
      W.ownsRow 0 185 2 (.slice (some ⟨g, 0, none⟩) T cap) T ((l.take i ++ ws ++ l.drop (i + 1)).flatMap kidC) ∧ Only (fun k => k = g) w W) := Lib.hid (fun W hW e1 e2 e3 => by
    have hg1 := setRow_heap w g cur C1.toArray 185 (0, 0) hg
    have hg2 := setRow_heap _ g C1.toArray C2.toArray 185 (0, 0) hg1
    have o := ((Only.refl (fun k => k = g) w).setRow (g := g) (fun _ => rfl) C1.toArray).setRow (g := g) (fun _ => rfl) C2.toArray
    exact ⟨own_of_heap (by rw [hW]; exact hg2) hroom h2 (by rw [List.size_toArray, hC2l]) hfin, e1, e2, e3, by rw [hW]; exact o.size, fun k hk hs => by rw [hW]; exact o.block k hk hs⟩)
  have HA := Lib.hid hcpA
  have HB := Lib.hid hcpB
  clear hown h3 h4 hg hv hvg k3 k4 hmm hT hC1 hC1l hC2 hC2l hfin hx hwl hcl hdl hcpA hcpB hgw hvw hsrcC
  have hlT : l.length - T = 0 := by omega
  have hTl : (T : Int) ≤ (l.length : Int) := by omega
  clear hm hTn
  by_cases hcT : cap = T
  · subst hcT
    go_enter Tryz.func219, Tryz.ntmps219
    go_wp2_with fail
    go_region_law (fail)
    go_wp2_with (first | (refine wpList_copy_known _ rfl _ _ 163 163 rfl _ _ rfl rfl (HB.out _ (by rfl) _ _) ?_))
    go_region_law (refine step_copy_known rfl _ _ 163 163 rfl (.slice (some ⟨g, (i + m) * 2, none⟩) (cap - (i + m)) (cap - (i + m))) (.slice (some ⟨g, i * 2 + 2, none⟩) (l.length - (i + 1)) (cap - (i + 1))) (by simp [Act.eval, Act.put]) (by simp [Act.eval, Act.put]) (HA.out _ (by rfl) _ _ _) ?_)
    go_wp2_with fail
    go_ret
    exact ⟨rfl, HF.out _ rfl rfl rfl rfl⟩
  · go_enter Tryz.func219, Tryz.ntmps219
    go_wp2_with fail
    go_region_law (fail)
    go_wp2_with (first | (refine wpList_copy_known _ rfl _ _ 163 163 rfl _ _ rfl rfl (HB.out _ (by rfl) _ _) ?_))
    go_region_law (refine step_copy_known rfl _ _ 163 163 rfl (.slice (some ⟨g, (i + m) * 2, none⟩) (T - (i + m)) (cap - (i + m))) (.slice (some ⟨g, i * 2 + 2, none⟩) (l.length - (i + 1)) (cap - (i + 1))) (by simp [Act.eval, Act.put]) (by simp [Act.eval, Act.put]) (HA.out _ (by rfl) _ _ _) ?_)
    go_wp2_with fail
    go_ret
    exact ⟨rfl, HF.out _ rfl rfl rfl rfl⟩
end
section
open Go.RowKit
set_option maxRecDepth 100000 in
set_option maxHeartbeats 4000000 in
theorem Rep_grow (g cap m T : Nat) (l ws : List Kid) (i vb vc : Nat) (w : World) (hmm : ws.length = m) (hT : T = l.length - 1 + m) (hi : i + 1 < l.length) (hm : 1 ≤ m) (hroom : cap < T)
    (hown : w.ownsRow 0 185 2 (.slice (some ⟨g, 0, none⟩) l.length cap) l.length (l.flatMap kidC)) (hv : w.ownsRow 0 185 2 (.slice (some ⟨vb, 0, none⟩) m vc) m (ws.flatMap kidC)) (hn : l.length ≤ 1000000) (hwn : m ≤ 1000000) :
    Calls Tryz.prog 219 #[.slice (some ⟨g, 0, none⟩) l.length cap, .int .i64 i, .int .i64 ((i : Int) + 1), .slice (some ⟨vb, 0, none⟩) m vc] w fun e w' => ∃ gc, e = .returned (.slice (some ⟨w.heap.size, 0, none⟩) T gc) ∧ w'.ownsRow 0 185 2 (.slice (some ⟨w.heap.size, 0, none⟩) T gc) T ((l.take i ++ ws ++ l.drop (i + 1)).flatMap kidC) ∧ Only (fun _ => False) w w' := by
  obtain ⟨i0, hi0, hz0, hz1, hz2⟩ := info_parts kidInfo
  have hsz : (Tryz.prog.info? 185).map (·.size) = some 2 := by kernel_rfl
  obtain ⟨cur, hg, h1, h2, h3, h4⟩ := heap_of_own hown
  have hc63 : cap ≤ 9223372036854775807 := by unfold maxLen at h2; omega
  have hsum : (i : Int) + (m : Int) + ((l.length - (i + 1) : Nat) : Int) = (T : Int) := by omega
  have hci : (i : Int) + 1 ≤ (cap : Int) := by omega
  have hci0 : (i : Int) ≤ (cap : Int) := by omega
  have hi1 : (i : Int) ≤ (i : Int) + 1 := by omega
  have hi2 : ¬ ((i : Int) = (i : Int) + 1) := by omega
  have hi3 : ¬ ((i : Int) + 1 = (l.length : Int)) := by omega
  have hi4 : (i : Int) + 1 ≤ (l.length : Int) := by omega
  have hi0' : (0 : Int) ≤ (i : Int) := by omega
  have hi5 : (0 : Int) ≤ (i : Int) + 1 := by omega
  have htn : ((i : Int) + 1).toNat = i + 1 := by omega
  have hw1 : IntKind.i64.wrap ((i : Int) + (m : Int)) = (i : Int) + (m : Int) := by exact IntWalk.i64_in _ (by omega)
  have hw2 : IntKind.i64.wrap (T : Int) = (T : Int) := by exact IntWalk.i64_in _ (by omega)
  have hw3 : IntKind.i64.wrap ((T : Int) - (i : Int)) = (T : Int) - (i : Int) := by exact IntWalk.i64_in _ (by omega)
  have hT1 : (cap : Int) < (T : Int) := by omega
  have hT0 : (0 : Int) ≤ (T : Int) := by omega
  have him0 : (0 : Int) ≤ (i : Int) + (m : Int) := by omega
  have himT : (i : Int) + (m : Int) ≤ (T : Int) := by omega
  have htm : ((i : Int) + (m : Int)).toNat = i + m := by omega
  have hc1 : ¬ (cap = i + 1) := by omega
  have hc0 : ¬ (cap = i) := by omega
  have hiT : (i : Int) ≤ (T : Int) := by omega
  have hkk : (T : Int) - (i : Int) = ((T - i : Nat) : Int) := by omega
  have hik : i + (T - i) = T := by omega
  have hx : (l.flatMap kidC).length = l.length * 2 := flatK_length l
  have hwl : (ws.flatMap kidC).length = m * 2 := by rw [flatK_length, hmm]
  have hgw : g < w.heap.size := own_lt hown
  have hvw : vb < w.heap.size := own_lt hv
  have hold : (Builtin.firstCells i0.size i (.slice (some ⟨g, 0, none⟩) i cap)).run Tryz.prog w.drew.drew = .ok ((l.flatMap kidC).take (i * 2)).toArray w.drew.drew := by
    rw [hz1]
    exact run_firstCells_some w.drew.drew 2 i ⟨g, 0, none⟩ i cap ((l.flatMap kidC).take (i * 2)) (by rw [List.length_take, hx]; omega) (fun j u hu => by
      rw [addr_add, Nat.zero_add]
      rw [List.getElem?_take] at hu
      split at hu
      · exact own_cell hown _ u hu
      · cases hu)
  have hrz : ∀ ty, (Builtin.append_ #[163, 3] ty #[.slice (some ⟨g, 0, none⟩) i cap, .int .i64 ((T : Int) - (i : Int))]).run Tryz.prog w.drew =
      .ok (.slice (some ⟨w.heap.size, 0, none⟩) T (grownCap w.drew T cap 185)) (w.drew.drew.alloc (.cells (((l.flatMap kidC).take (i * 2)).toArray ++ Builtin.zeroCells (Value.agg #[str [], .int .i64 0]).cells (T - i) ++ Builtin.zeroCells (Value.agg #[str [], .int .i64 0]).cells (grownCap w.drew T cap 185 - T)) 185)) := fun ty => by
    have h := Lib.run_append_grow_zeros w.drew 163 3 ty 185 i0 _ .i64 .i64 Tryz.underlying163 Tryz.underlying3 hi0 hz0 (some ⟨g, 0, none⟩) i cap ((l.flatMap kidC).take (i * 2)) hold (T - i) (by omega) (by omega) (by omega) (by omega) (by rw [hz2]; omega) (by rw [hz2, hik]; exact growslice_fits hroom (by omega))
    rw [hik] at h
    rw [hkk]
    exact h
  have hGn : T ≤ grownCap w.drew T cap 185 := grownCap_ge w.drew _ _ _
  have hGm : grownCap w.drew T cap 185 ≤ maxLen := grownCap_le_maxLen w.drew _ _ _ (by unfold maxLen; omega)
  generalize grownCap w.drew T cap 185 = G at *
  obtain ⟨R, hR⟩ : ∃ R : Array Value, R = ((l.flatMap kidC).take (i * 2)).toArray ++ Builtin.zeroCells (Value.agg #[str [], .int .i64 0]).cells (T - i) ++ Builtin.zeroCells (Value.agg #[str [], .int .i64 0]).cells (G - T) := ⟨_, rfl⟩
  rw [← hR] at hrz
  have hzl : (Value.agg #[str [], .int .i64 0]).cells.size = 2 := rfl
  have hRl : R.size = G * 2 := by
    rw [hR]
    simp only [Array.size_append, Builtin.zeroCells, Array.size_map, Array.size_range, hzl, List.size_toArray, List.length_take, hx]
    omega
  have hRt : R.toList.take (i * 2) = (l.flatMap kidC).take (i * 2) := by
    rw [hR]
    simp only [Array.toList_append, List.append_assoc]
    have hl : ((l.flatMap kidC).take (i * 2)).length = i * 2 := by rw [List.length_take, hx]; omega
    have := List.take_left (l₁ := (l.flatMap kidC).take (i * 2)) (l₂ := (Builtin.zeroCells (Value.agg #[str [], .int .i64 0]).cells (T - i)).toList ++ (Builtin.zeroCells (Value.agg #[str [], .int .i64 0]).cells (G - T)).toList)
    rwa [hl] at this
  clear hR
  have hG63 : G ≤ 9223372036854775807 := by unfold maxLen at hGm; omega
  have hGi : ¬ (G = i) := by omega
  have hGi1 : ¬ (G = i + m) := by omega
  have hbG : (T : Int) ≤ (G : Int) := by omega
  obtain ⟨C1, hC1⟩ : ∃ C1 : List Value, C1 = R.toList.take (i * 2) ++ ws.flatMap kidC ++ R.toList.drop (i * 2 + m * 2) := ⟨_, rfl⟩
  have hRl2 : R.toList.length = G * 2 := by rw [Array.length_toList]; exact hRl
  have hC1l : C1.length = G * 2 := by rw [hC1]; simp only [List.length_append, List.length_take, List.length_drop, hRl2, hwl]; omega
  have hcpA : ∀ W : World, W.heap = (w.alloc (.cells R 185)).heap → ∀ ty dc, (Builtin.copy_ #[163, 163] ty #[.slice (some ⟨w.heap.size, i * 2, none⟩) (T - i) dc, .slice (some ⟨vb, 0, none⟩) m vc]).run Tryz.prog W = .ok (goInt (Nat.min m (T - i))) (W.setRow w.heap.size C1.toArray) := fun W hW ty dc => by
    have hWg : W.heap[w.heap.size]? = some (.cells R 185 (0, 0)) := by rw [hW]; exact heap_alloc_new _ _
    have hWv : W.heap[vb]? = w.heap[vb]? := by rw [hW, ((Only.refl (fun _ => False) w).alloc (.cells R 185)).block vb hvw id]
    have hC1' : C1 = R.toList.take (i * 2) ++ ws.flatMap kidC ++ R.toList.drop (i * 2 + (ws.flatMap kidC).length) := by rw [hwl]; exact hC1
    rw [hC1']
    exact run_copy_k W 163 163 ty 185 2 w.heap.size (i * 2) (T - i) dc ⟨vb, 0, none⟩ m vc R 185 (ws.flatMap kidC) Tryz.underlying163 hsz hWg
      (by rw [hwl]; show _ = min _ _ * 2; omega) (fun j u hu => by
        rw [addr_add, Nat.zero_add]
        exact (World.cell?_of_block hWv).trans (own_cell hv j u hu)) (by rw [hRl, hwl]; omega) (flatK_one ws)
  have hdl : ((l.flatMap kidC).drop (i * 2 + 2)).length = l.length * 2 - (i * 2 + 2) := by rw [List.length_drop, hx]
  obtain ⟨C2, hC2⟩ : ∃ C2 : List Value, C2 = C1.take (i * 2 + m * 2) ++ (l.flatMap kidC).drop (i * 2 + 2) ++ C1.drop (i * 2 + m * 2 + (l.length * 2 - (i * 2 + 2))) := ⟨_, rfl⟩
  have hC2l : C2.length = G * 2 := by rw [hC2]; simp only [List.length_append, List.length_take, hdl, List.length_drop, hC1l]; omega
  have hcpB : ∀ W : World, W.heap = ((w.alloc (.cells R 185)).setRow w.heap.size C1.toArray).heap → ∀ ty dc sc, (Builtin.copy_ #[163, 163] ty #[.slice (some ⟨w.heap.size, (i + m) * 2, none⟩) (T - (i + m)) dc, .slice (some ⟨g, i * 2 + 2, none⟩) (l.length - (i + 1)) sc]).run Tryz.prog W = .ok (goInt (Nat.min (l.length - (i + 1)) (T - (i + m)))) (W.setRow w.heap.size C2.toArray) := fun W hW ty dc sc => by
    have hWg : W.heap[w.heap.size]? = some (.cells C1.toArray 185 (0, 0)) := by rw [hW]; exact setRow_heap (w.alloc (.cells R 185)) w.heap.size R C1.toArray 185 (0, 0) (heap_alloc_new _ _)
    have hWo : W.heap[g]? = w.heap[g]? := by
      rw [hW]
      exact (((Only.refl (fun _ => False) w).alloc (.cells R 185)).setRow (g := w.heap.size) (fun q => by omega) C1.toArray).block g hgw id
    have hC2' : C2 = C1.toArray.toList.take ((i + m) * 2) ++ (l.flatMap kidC).drop (i * 2 + 2) ++ C1.toArray.toList.drop ((i + m) * 2 + ((l.flatMap kidC).drop (i * 2 + 2)).length) := by rw [hdl, Nat.add_mul]; exact hC2
    rw [hC2']
    exact run_copy_k W 163 163 ty 185 2 w.heap.size ((i + m) * 2) (T - (i + m)) dc ⟨g, i * 2 + 2, none⟩ (l.length - (i + 1)) sc C1.toArray 185 ((l.flatMap kidC).drop (i * 2 + 2)) Tryz.underlying163 hsz hWg
      (by rw [hdl]; show _ = min _ _ * 2; omega) (fun j u hu => by
        rw [addr_add]
        rw [List.getElem?_drop] at hu
        exact (World.cell?_of_block hWo).trans (own_cell hown _ u hu)) (by rw [hdl, List.size_toArray, hC1l]; omega) (fun u hu => flatK_one l u (List.mem_of_mem_drop hu))
  have hfin : C2.toArray.toList.take (T * 2) = (l.take i ++ ws ++ l.drop (i + 1)).flatMap kidC := by
    have := rep_grow R.toList (l.flatMap kidC) (ws.flatMap kidC) (i * 2) (m * 2) 2 (l.length * 2) hRt (by rw [hRl2]; omega) hx (by omega) hwl
    rw [← hC1, ← hC2] at this
    rw [show T * 2 = l.length * 2 - 2 + m * 2 by omega]
    show C2.take _ = _
    rw [this, flatK_take, show i * 2 + 2 = (i + 1) * 2 by omega, flatK_drop]
    simp
  have HF : Hid (∀ W : World, W.heap = (((w.alloc (.cells R 185)).setRow w.heap.size C1.toArray).setRow w.heap.size C2.toArray).heap → W.os = w.os → W.tape = w.tape → W.output = w.output →
      W.ownsRow 0 185 2 (.slice (some ⟨w.heap.size, 0, none⟩) T G) T ((l.take i ++ ws ++ l.drop (i + 1)).flatMap kidC) ∧ Only (fun _ => False) w W) := Lib.hid (fun W hW e1 e2 e3 => by
    have hg1 := setRow_heap (w.alloc (.cells R 185)) w.heap.size R C1.toArray 185 (0, 0) (heap_alloc_new _ _)
    have hg2 := setRow_heap _ w.heap.size C1.toArray C2.toArray 185 (0, 0) hg1
    have o := (((Only.refl (fun _ => False) w).alloc (.cells R 185)).setRow (g := w.heap.size) (fun q => by omega) C1.toArray).setRow (g := w.heap.size) (fun q => by omega) C2.toArray
    exact ⟨own_of_heap (by rw [hW]; exact hg2) hGn hGm (by rw [List.size_toArray, hC2l]) hfin, e1, e2, e3, by rw [hW]; exact o.size, fun k hk hs => by rw [hW]; exact o.block k hk hs⟩)
  have HA := Lib.hid hcpA
  have HB := Lib.hid hcpB
  clear hown h3 h4 hg hv hmm hT hC1 hC1l hC2 hC2l hfin hx hwl hdl hcpA hcpB hold hRl hRt hRl2 hkk hik hGm hm
  go_enter Tryz.func219, Tryz.ntmps219
  go_wp2_with fail
  go_region_law (fail)
  go_wp2_with (first | (at_builtin; refine Lib.wpList_append_run _ rfl _ _ _ _ rfl _ _ rfl rfl _ _ (hrz _) ?_) | (refine wpList_copy_known _ rfl _ _ 163 163 rfl _ _ rfl rfl (HA.out _ (by rfl) _ _) ?_))
  go_region_law (refine step_copy_known rfl _ _ 163 163 rfl (.slice (some ⟨w.heap.size, (i + m) * 2, none⟩) (T - (i + m)) (G - (i + m))) (.slice (some ⟨g, i * 2 + 2, none⟩) (l.length - (i + 1)) (cap - (i + 1))) (by simp [Act.eval, Act.put]) (by simp [Act.eval, Act.put]) (HB.out _ (by rfl) _ _ _) ?_)
  go_wp2_with fail
  go_ret
  exact ⟨G, rfl, HF.out _ rfl rfl rfl rfl⟩
end
end Go.Proofs.YtbhiamcmiopnoaaGreatDoor
