/- Package cmd: the table of powers of ten stays; the buckets' methods through their interface; adding a number to a key's value. Conditions: one goroutine; the bucket's blocks lie behind the table. -/
import Derived.Test.YtlkknekflgclgaaGreatDoorZCmd3
import Derived.Deep.RegionHeld3
namespace Go.Proofs.YtlkknekflgclgaaGreatDoor
open Go.RowKit

/-- The table of powers of ten is laid, below block n. -/
structure Tab (n : Nat) (w : World) : Prop where
  is : Lib.TabIs Tryz.prog w "internal/strconv.uint64pow10" .u64 Lib.pow10Tab
  low : ∀ g, Tryz.prog.globalNamed "internal/strconv.uint64pow10" = some g → g < n
theorem Tab.only {n : Nat} {w w' : World} {F : Nat → Prop} (h : Tab n w) (ho : Only F w w') (hF : ∀ j, j < n → ¬ F j) : Tab n w' := by
  refine ⟨?_, h.low⟩
  have hi := h.is
  unfold Lib.TabIs World.var? at *
  cases hg : Tryz.prog.globalNamed "internal/strconv.uint64pow10" with
  | none => rw [hg] at hi; cases hi
  | some g =>
    rw [hg] at hi
    simp only [Option.bind_some] at *
    have hl : g < w.heap.size := by
      apply Classical.byContradiction
      intro q
      rw [Array.getElem?_eq_none (by omega)] at hi
      cases hi
    rw [ho.block g hl (hF g (h.low g hg))]
    exact hi
theorem Tab.of {w : World} (h : Lib.TabIs Tryz.prog w "internal/strconv.uint64pow10" .u64 Lib.pow10Tab) : Tab w.heap.size w := by
  refine ⟨h, fun g hg => ?_⟩
  unfold Lib.TabIs World.var? at h
  rw [hg] at h
  simp only [Option.bind_some] at h
  apply Classical.byContradiction
  intro q
  rw [Array.getElem?_eq_none (by omega)] at h
  cases h
theorem Tab.still {n : Nat} {w w' : World} (h : Tab n w) (ho : Only (fun _ => False) w w') : Tab n w' := h.only ho (fun _ _ => id)
theorem mP_Get (n r : Nat) (w : World) : (method (n + 1) 193 (.agg #[.pointer (some ⟨r, 0, none⟩)]) "Get").run Tryz.prog w = .ok (273, .agg #[.pointer (some ⟨r, 0, none⟩)]) w := by kernel_rfl
theorem mP_Put (n r : Nat) (w : World) : (method (n + 1) 193 (.agg #[.pointer (some ⟨r, 0, none⟩)]) "Put").run Tryz.prog w = .ok (276, .agg #[.pointer (some ⟨r, 0, none⟩)]) w := by kernel_rfl
theorem mP_Seq (n r : Nat) (w : World) : (method (n + 1) 193 (.agg #[.pointer (some ⟨r, 0, none⟩)]) "Seq").run Tryz.prog w = .ok (277, .agg #[.pointer (some ⟨r, 0, none⟩)]) w := by kernel_rfl
theorem mP_Delete (n r : Nat) (w : World) : (method (n + 1) 193 (.agg #[.pointer (some ⟨r, 0, none⟩)]) "Delete").run Tryz.prog w = .ok (271, .agg #[.pointer (some ⟨r, 0, none⟩)]) w := by kernel_rfl
theorem nil_Put (n r : Nat) (w : World) : (nilAhead (n + 1) 193 (.agg #[.pointer (some ⟨r, 0, none⟩)]) "Put").run Tryz.prog w = .ok (some false) w := by kernel_rfl
def groundV (r : Nat) : Value := .iface 193 (.agg #[.pointer (some ⟨r, 0, none⟩)])
/-- A command, an answer. -/
structure CmdD where
  kind : Int
  path : Bytes
  key : Bytes
  val : Bytes
  old : Bytes
def cmdCells (c : CmdD) : Array Value := #[.int .i64 c.kind, str c.path, str c.key, str c.val, str c.old]
def replyV (e : Int) (v : Bytes) : Value := .agg #[.int .i64 e, str v]
/-- The command laid in a block of its own, room for the answer behind it. -/
abbrev laidW (w : World) (kd : Int) (p k v o : Bytes) : World := (w.alloc (.cells #[.int .i64 kd, str p, str k, str v, str o] 119)).alloc (.cells #[.int .i64 0, .string ⟨#[]⟩] 68)
theorem laidW_is (w : World) (kd : Int) (p k v o : Bytes) : (w.alloc (.cells #[.int .i64 kd, str p, str k, str v, str o] 119)).alloc (.cells #[.int .i64 0, .string ⟨#[]⟩] 68) = laidW w kd p k v o := rfl
structure CmdAt (n : Nat) (kd : Int) (p k v o : Bytes) (W : World) : Prop where
  c0 : W.cell? ⟨n, 0, none⟩ = some (.int .i64 kd)
  c1 : W.cell? ⟨n, 1, none⟩ = some (str p)
  c2 : W.cell? ⟨n, 2, none⟩ = some (str k)
  c3 : W.cell? ⟨n, 3, none⟩ = some (str v)
  c4 : W.cell? ⟨n, 4, none⟩ = some (str o)
theorem CmdAt.only {n : Nat} {kd : Int} {p k v o : Bytes} {W W' : World} {F : Nat → Prop} (h : CmdAt n kd p k v o W) (ho : Only F W W') (hF : ¬ F n) : CmdAt n kd p k v o W' :=
  have l := lt_of_cell h.c0
  ⟨(ho.cell (p := ⟨n, 0, none⟩) l hF).trans h.c0, (ho.cell (p := ⟨n, 1, none⟩) l hF).trans h.c1, (ho.cell (p := ⟨n, 2, none⟩) l hF).trans h.c2, (ho.cell (p := ⟨n, 3, none⟩) l hF).trans h.c3, (ho.cell (p := ⟨n, 4, none⟩) l hF).trans h.c4⟩
theorem cmd_laid (w : World) (kd : Int) (p k v o : Bytes) :
    Only (fun _ => False) w (laidW w kd p k v o) ∧ CmdAt w.heap.size kd p k v o (laidW w kd p k v o) ∧ (laidW w kd p k v o).heap[w.heap.size + 1]? = some (.cells #[.int .i64 0, .string ⟨#[]⟩] 68 (0, 0)) := by
  have s1 : (w.alloc (.cells #[.int .i64 kd, str p, str k, str v, str o] 119)).heap.size = w.heap.size + 1 := Array.size_push _
  have o1 := (Only.refl (fun _ => False) w).alloc (.cells #[.int .i64 kd, str p, str k, str v, str o] 119)
  have o2 := (Only.refl (fun _ => False) (w.alloc (.cells #[.int .i64 kd, str p, str k, str v, str o] 119))).alloc (.cells #[.int .i64 0, .string ⟨#[]⟩] 68)
  have b := (o2.block w.heap.size (by omega) id).trans (blk_new w (.cells #[.int .i64 kd, str p, str k, str v, str o] 119))
  have b2 := blk_new (w.alloc (.cells #[.int .i64 kd, str p, str k, str v, str o] 119)) (.cells #[.int .i64 0, .string ⟨#[]⟩] 68)
  rw [s1] at b2
  exact ⟨o1.trans o2 (fun _ _ q => q), ⟨blk_cell b 0, blk_cell b 1, blk_cell b 2, blk_cell b 3, blk_cell b 4⟩, b2⟩
theorem reply_set (W : World) (n : Nat) (h : W.heap[n]? = some (.cells #[.int .i64 0, .string ⟨#[]⟩] 68 (0, 0))) (e : Int) (v : Value) :
    ((W.setCell ⟨n, 0, none⟩ (.int .i64 e)).setCell ⟨n, 1, none⟩ v).cell? ⟨n, 0, none⟩ = some (.int .i64 e) ∧ ((W.setCell ⟨n, 0, none⟩ (.int .i64 e)).setCell ⟨n, 1, none⟩ v).cell? ⟨n, 1, none⟩ = some v ∧ Only (fun j => j = n) W ((W.setCell ⟨n, 0, none⟩ (.int .i64 e)).setCell ⟨n, 1, none⟩ v) := by
  have b := blk_set (blk_set h 0 (.int .i64 e)) 1 v
  exact ⟨blk_cell b 0, blk_cell b 1, ((Only.refl (fun j => j = n) W).put n 0 rfl _).put n 1 rfl _⟩
set_option maxRecDepth 100000 in
set_option maxHeartbeats 4000000 in
theorem add_good (w : World) (r nt : Nat) (k v : Bytes) (B : Box) (a b : Int) (hB : BoxAt w r B) (hT : Tab nt w) (hnt : nt ≤ B.mv) (hk : k.length ≤ maxLen) (hv : v.length ≤ maxLen) (hI : B.I k = none) (hn : B.nv < maxLen)
    (ho1 : ((B.V k).getD [48]).length ≤ maxLen) (ha : numS ((B.V k).getD [48]) = some a) (hb : numS v = some b) (hab : -(10 ^ 18 : Int) < a + b ∧ a + b < (10 ^ 18 : Int)) (hlen : (Lib.itoa (a + b)).length ≤ 2000) :
    Calls Tryz.prog 171 #[groundV r, .agg #[.int .i64 3, str [], str k, str v, str []]] w fun e w' => e = .returned (replyV 0 (Lib.itoa (a + b))) ∧ BoxAt w' r { B with V := upM B.V k (Lib.itoa (a + b)), nv := B.nv + 1 } ∧ Only (fun j => j = B.mv) w w' := by
  obtain ⟨oL, cL, rL⟩ := cmd_laid w 3 [] k v []
  have hGet := fun n => mP_Get n r
  have hPut := fun n => mP_Put n r
  have hNil := fun n => nil_Put n r
  have hmvlt := hB.vals.lt
  have HG := Lib.hid (Get_is _ r r [] k B (finds_root _ r) (hB.still oL) hk hI)
  have HD : Hid (∀ W, Only (fun _ => False) (laidW w 3 [] k v []) W → Calls Tryz.prog 169 #[.int .i64 (a + b)] W fun e w' => e = .returned (str (Lib.itoa (a + b))) ∧ Only (fun _ => False) W w') := Lib.hid (fun W hW => Digits_is W (a + b) (by omega) ((hT.still oL).still hW).is)
  have HD2 : Hid (∀ W, Only (fun j => j = B.mv) (laidW w 3 [] k v []) W → Calls Tryz.prog 169 #[.int .i64 (a + b)] W fun e w' => e = .returned (str (Lib.itoa (a + b))) ∧ Only (fun _ => False) W w') := Lib.hid (fun W hW => Digits_is W (a + b) (by omega) ((hT.still oL).only hW (fun j q1 q2 => by omega)).is)
  have HP : Hid (∀ W, Only (fun _ => False) (laidW w 3 [] k v []) W → Calls Tryz.prog 276 #[.agg #[.pointer (some ⟨r, 0, none⟩)], str [], str k, str (Lib.itoa (a + b))] W fun e w' => e = .returned (.int .i64 0) ∧ BoxAt w' r { B with V := upM B.V k (Lib.itoa (a + b)), nv := B.nv + 1 } ∧ Only (fun j => j = B.mv) W w') := Lib.hid (fun W hW => Put_is W r r [] k _ B (finds_root _ r) ((hB.still oL).still hW) hk hI hlen hn)
  have HC : Hid (∀ W, Only (fun j => j = B.mv) (laidW w 3 [] k v []) W → CmdAt w.heap.size 3 [] k v [] W) := Lib.hid (fun W hW => cL.only hW (fun q => by omega))
  have HRP : Hid (∀ W, Only (fun j => j = B.mv) (laidW w 3 [] k v []) W → W.heap[w.heap.size + 1]? = some (.cells #[.int .i64 0, .string ⟨#[]⟩] 68 (0, 0))) := Lib.hid (fun W hW => (hW.block _ (blk_lt rL) (by omega)).trans rL)
  have HO := Lib.hid oL
  have hrlt := hB.lt
  have hmilt := hB.ins.lt
  have HU2 : Hid (∀ W, Only (fun j => j = B.mv) (laidW w 3 [] k v []) W → Only (fun j => j = B.mv) w W) := Lib.hid (fun W hW => Only.trans (oL.mono (fun _ _ (q : False) => q.elim)) hW (fun _ _ q => q))
  have hrest : numRes ((B.V k).getD [48]) = .tuple #[.int .i64 a, .int .i64 0] ∧ numRes v = .tuple #[.int .i64 b, .int .i64 0] := by
    unfold numRes
    rw [ha, hb]
    exact ⟨rfl, rfl⟩
  have HN2 : Hid (∀ W, Calls Tryz.prog 194 #[str v] W fun e w' => e = .returned (.tuple #[.int .i64 b, .int .i64 0]) ∧ W = w') := Lib.hid (fun W => hrest.2 ▸ Number_is W v hv)
  have HN1 : Hid (∀ W, Calls Tryz.prog 194 #[str ((B.V k).getD [48])] W fun e w' => e = .returned (.tuple #[.int .i64 a, .int .i64 0]) ∧ W = w') := Lib.hid (fun W => hrest.1 ▸ Number_is W _ ho1)
  obtain ⟨c0, c1, c2, c3, c4⟩ := cL
  unfold laidW at c0 c1 c2 c3 c4
  clear oL hT hB hrest ha hb rL
  unfold groundV
  cases hV : B.V k with
  | none =>
    rw [hV] at HG HN1 ho1
    simp only [Option.getD_none, Option.isSome_none] at HG HN1 ho1
    have HV := Lib.hid hV
    clear hV
    go_enter Tryz.func171, Tryz.ntmps171
    go_wp2_with fail
    (with_reducible refine HG.out.mono ?_)
    rintro e w2 ⟨rfl, o2⟩
    have h2 := HC.out w2 (o2.mono (fun _ _ q => q.elim))
    have H2 := Lib.hid h2
    have O2 := Lib.hid o2
    obtain ⟨d0, d1, d2, d3, d4⟩ := h2
    clear o2
    go_wp2_with fail
    (with_reducible refine (HN1.out _).mono ?_)
    rintro e _ ⟨rfl, rfl⟩
    go_wp2_with fail
    (with_reducible refine (HN2.out _).mono ?_)
    rintro e _ ⟨rfl, rfl⟩
    go_wp2_with fail
    have HCC : Hid (∀ W, Only (fun j => j = B.mv) (laidW w 3 [] k v []) W → W.cell? ⟨w.heap.size, 1, none⟩ = some (str []) ∧ W.cell? ⟨w.heap.size, 2, none⟩ = some (str k)) := Lib.hid (fun W hW => ⟨(HC.out W hW).c1, (HC.out W hW).c2⟩)
    have HU : Hid (∀ W, Only (fun _ => False) (laidW w 3 [] k v []) W → Only (fun j => j = B.mv) (laidW w 3 [] k v []) W) := Lib.hid (fun W hW => hW.mono (fun _ _ (q : False) => q.elim))
    have q0 := HU.out _ O2.out
    have q1 := HU.out _ O2.out.drew
    go_region_held3 (fun w' => w'.cell? ⟨w.heap.size, 1, none⟩ = some (str []) ∧ w'.cell? ⟨w.heap.size, 2, none⟩ = some (str k)) (first | exact HCC.out _ q0 | exact HCC.out _ q1 | exact HCC.out _ q2 | exact HCC.out _ q3) (first | ((with_reducible refine (HD.out _ O2.out.drew).mono ?_); rintro _ w3 ⟨rfl, o3⟩; have p2 := O2.out.drew.trans o3 (fun _ _ q => q); have q2 := HU.out _ p2) | ((with_reducible refine (HP.out _ p2).mono ?_); rintro _ w4 ⟨rfl, b4, o4⟩; have q3 := q2.trans o4 (fun _ _ q => q)))
    all_goals (
      clear q0 q1 q2
      have HB4 := Lib.hid b4
      have Q3 := Lib.hid q3
      clear b4 q3 o4
      go_wp2_with fail
      (with_reducible refine (HD2.out _ Q3.out).mono ?_)
      rintro _ w5 ⟨rfl, o5⟩
      have HRB := Lib.hid (HRP.out w5 (Q3.out.trans o5 (fun _ _ q => q.elim)))
      have HB5 := Lib.hid (HB4.out.still o5)
      have Q5 := Lib.hid (Q3.out.trans o5 (fun _ _ (q : False) => q.elim))
      clear o5
      have r0 := blk_cell HRB.out 0
      have r1 := blk_cell HRB.out 1
      have f0 := blk_frozen HRB.out 0
      have f1 := blk_frozen HRB.out 1
      simp only [List.getElem?_toArray, List.getElem?_cons_zero, List.getElem?_cons_succ] at r0 r1
      go_wp2_with fail
      obtain ⟨g0, g1, o6⟩ := reply_set w5 _ HRB.out 0 (str (Lib.itoa (a + b)))
      refine bodyPost_ret (v := replyV 0 (Lib.itoa (a + b))) (by simp [results, Tryz.results171, go_sem, g0, g1, replyV]) rfl ⟨rfl, ?_, ?_⟩
      · exact HB5.out.only o6 (by omega) (by show ¬ B.mv = _; omega) (by show ¬ B.mi = _; omega)
      · exact (HU2.out _ Q5.out).trans o6 (fun i hi q => by omega))
  | some x =>
    rw [hV] at HG HN1 ho1
    simp only [Option.getD_some, Option.isSome_some] at HG HN1 ho1
    have HV := Lib.hid hV
    clear hV
    go_enter Tryz.func171, Tryz.ntmps171
    go_wp2_with fail
    (with_reducible refine HG.out.mono ?_)
    rintro e w2 ⟨rfl, o2⟩
    have h2 := HC.out w2 (o2.mono (fun _ _ q => q.elim))
    have H2 := Lib.hid h2
    have O2 := Lib.hid o2
    obtain ⟨d0, d1, d2, d3, d4⟩ := h2
    clear o2
    go_wp2_with fail
    (with_reducible refine (HN1.out _).mono ?_)
    rintro e _ ⟨rfl, rfl⟩
    go_wp2_with fail
    (with_reducible refine (HN2.out _).mono ?_)
    rintro e _ ⟨rfl, rfl⟩
    go_wp2_with fail
    have HCC : Hid (∀ W, Only (fun j => j = B.mv) (laidW w 3 [] k v []) W → W.cell? ⟨w.heap.size, 1, none⟩ = some (str []) ∧ W.cell? ⟨w.heap.size, 2, none⟩ = some (str k)) := Lib.hid (fun W hW => ⟨(HC.out W hW).c1, (HC.out W hW).c2⟩)
    have HU : Hid (∀ W, Only (fun _ => False) (laidW w 3 [] k v []) W → Only (fun j => j = B.mv) (laidW w 3 [] k v []) W) := Lib.hid (fun W hW => hW.mono (fun _ _ (q : False) => q.elim))
    have q0 := HU.out _ O2.out
    have q1 := HU.out _ O2.out.drew
    go_region_held3 (fun w' => w'.cell? ⟨w.heap.size, 1, none⟩ = some (str []) ∧ w'.cell? ⟨w.heap.size, 2, none⟩ = some (str k)) (first | exact HCC.out _ q0 | exact HCC.out _ q1 | exact HCC.out _ q2 | exact HCC.out _ q3) (first | ((with_reducible refine (HD.out _ O2.out.drew).mono ?_); rintro _ w3 ⟨rfl, o3⟩; have p2 := O2.out.drew.trans o3 (fun _ _ q => q); have q2 := HU.out _ p2) | ((with_reducible refine (HP.out _ p2).mono ?_); rintro _ w4 ⟨rfl, b4, o4⟩; have q3 := q2.trans o4 (fun _ _ q => q)))
    all_goals (
      clear q0 q1 q2
      have HB4 := Lib.hid b4
      have Q3 := Lib.hid q3
      clear b4 q3 o4
      go_wp2_with fail
      (with_reducible refine (HD2.out _ Q3.out).mono ?_)
      rintro _ w5 ⟨rfl, o5⟩
      have HRB := Lib.hid (HRP.out w5 (Q3.out.trans o5 (fun _ _ q => q.elim)))
      have HB5 := Lib.hid (HB4.out.still o5)
      have Q5 := Lib.hid (Q3.out.trans o5 (fun _ _ (q : False) => q.elim))
      clear o5
      have r0 := blk_cell HRB.out 0
      have r1 := blk_cell HRB.out 1
      have f0 := blk_frozen HRB.out 0
      have f1 := blk_frozen HRB.out 1
      simp only [List.getElem?_toArray, List.getElem?_cons_zero, List.getElem?_cons_succ] at r0 r1
      go_wp2_with fail
      obtain ⟨g0, g1, o6⟩ := reply_set w5 _ HRB.out 0 (str (Lib.itoa (a + b)))
      refine bodyPost_ret (v := replyV 0 (Lib.itoa (a + b))) (by simp [results, Tryz.results171, go_sem, g0, g1, replyV]) rfl ⟨rfl, ?_, ?_⟩
      · exact HB5.out.only o6 (by omega) (by show ¬ B.mv = _; omega) (by show ¬ B.mi = _; omega)
      · exact (HU2.out _ Q5.out).trans o6 (fun i hi q => by omega))
end Go.Proofs.YtlkknekflgclgaaGreatDoor
