/- Package cmd: the number of a bucket; making and dropping one below the root. Conditions: one goroutine; the names hold no slash. -/
import Derived.Test.YtlkknekflgclgaaDoorZNx1
import Derived.BigRegion
namespace Go.Proofs.YtlkknekflgclgaaDoor
open Go.RowKit Go.MuLone

theorem finds_one {w : World} {root ra : Nat} {p : Bytes} {R : Box} (hR : BoxAt w root R) (h : Named p) (hm : MaxAt w) (hV : R.V p = none) (hI : R.I p = some (some ra)) : Finds w root p ra :=
  fun u hu => find_one u root ra p R (hR.still hu) h (hm.still hu) hV hI
set_option maxRecDepth 100000 in
theorem Seq_none (w : World) (root : Nat) (p : Bytes) (R : Box) (hR : BoxAt w root R) (h : Named p) (hm : MaxAt w) (hV : R.V p = none) (hI : R.I p = none) :
    Calls Tryd.prog 96 #[.agg #[.pointer (some ⟨root, 0, none⟩)], str p] w fun e w' => e = .returned (.tuple #[.int .i64 0, .int .i64 8]) ∧ Only (fun _ => False) w w' := by
  obtain ⟨ho, c0⟩ := recv_laid w root
  have HF := Lib.hid (find_none _ root p R (hR.still ho) h (hm.still ho) hV hI)
  have HO := Lib.hid ho
  clear ho hR h hm hV hI
  go_enter Tryd.func96, Tryd.ntmps96
  go_wp2_with fail
  (with_reducible refine HF.out.mono ?_)
  rintro e w2 ⟨rfl, o2⟩
  have HO2 := Lib.hid (HO.out.trans o2 (fun _ _ q => q))
  clear o2
  go_wp2_with fail
  go_ret2
  exact ⟨rfl, HO2.out⟩
set_option maxRecDepth 100000 in
theorem Next_is (w : World) (root r : Nat) (p : Bytes) (B : Box) (hF : Finds w root p r) (hB : BoxAt w r B) (hs : 0 ≤ B.seq ∧ B.seq ≤ 1000000) :
    Calls Tryd.prog 94 #[.agg #[.pointer (some ⟨root, 0, none⟩)], str p] w fun e w' => e = .returned (.tuple #[.int .i64 (B.seq + 1), .int .i64 0]) ∧ BoxAt w' r { B with seq := B.seq + 1 } ∧ Only (fun j => j = r) w w' := by
  obtain ⟨ho, c0⟩ := recv_laid w root
  have HF := Lib.hid (hF _ ho)
  have HB := Lib.hid (hB.still ho)
  have HO := Lib.hid ho
  have hwi : IntKind.i64.wrap (B.seq + 1) = B.seq + 1 := IntWalk.i64_in _ (by omega)
  have hne : r ≠ B.mv ∧ r ≠ B.mi := ⟨hB.d1, hB.d2⟩
  clear ho hF hB
  go_enter Tryd.func94, Tryd.ntmps94
  go_wp2_with fail
  (with_reducible refine HF.out.mono ?_)
  rintro e w2 ⟨rfl, o2⟩
  have HB2 := Lib.hid (HB.out.still o2)
  have HO2 := Lib.hid (HO.out.trans o2 (fun _ _ q => q))
  have c1 := HB2.out.cells.1
  have f1 := blk_frozen HB2.out.heap 0
  clear o2 HF HB HO
  generalize hsq : B.seq = sq at *
  go_wp2_with fail
  go_ret2
  have hset := blk_set HB2.out.heap 0 (.int .i64 (sq + 1))
  have o3 : Only (fun j => j = r) w2 (w2.setCell ⟨r, 0, none⟩ (.int .i64 (sq + 1))) := (Only.refl (fun j => j = r) w2).put r 0 rfl _
  refine ⟨by rw [hsq]; rfl, ⟨?_, HB2.out.vals.only o3 (fun q => hne.1 q.symm), HB2.out.ins.only o3 (fun q => hne.2 q.symm), HB2.out.d1, HB2.out.d2, HB2.out.d3⟩, (HO2.out.mono (fun _ _ (q : False) => q.elim)).trans o3 (fun _ _ q => q)⟩
  rw [hsq]
  exact hset
set_option maxRecDepth 100000 in
theorem last_one (w : World) (root : Nat) (p : Bytes) (h : Named p) :
    Calls Tryd.prog 98 #[.agg #[.pointer (some ⟨root, 0, none⟩)], str p] w fun e w' => e = .returned (.tuple #[.pointer (some ⟨root, 0, none⟩), str p, .int .i64 0]) ∧ Only (fun _ => False) w w' := by
  obtain ⟨ho, c0⟩ := recv_laid w root
  have HF : Hid (∀ W, Calls Tryd.prog 99 #[.agg #[.pointer (some ⟨root, 0, none⟩)], str []] W fun e w' => e = .returned (.tuple #[.pointer (some ⟨root, 0, none⟩), .int .i64 0]) ∧ Only (fun _ => False) W w') := Lib.hid (fun W => find_root W root)
  have HF2 : Hid (∀ W (t : ByteArray), t = (⟨p.toArray⟩ : ByteArray).extract 0 0 → Calls Tryd.prog 99 #[.agg #[.pointer (some ⟨root, 0, none⟩)], .string t] W fun e w' => e = .returned (.tuple #[.pointer (some ⟨root, 0, none⟩), .int .i64 0]) ∧ Only (fun _ => False) W w') := Lib.hid (fun W t ht => by
    have h0 : t = ⟨#[]⟩ := by
      rw [ht]
      apply ByteArray.ext
      simp [ByteArray.data_extract]
    rw [h0]
    exact HF.out W)
  have HO := Lib.hid ho
  have hsh := h.short
  have HN := Lib.hid h.flat
  clear ho h
  go_enter Tryd.func98, Tryd.ntmps98
  go_wp2_with fail
  go_loopg [7] p.length (fun gh iv wr => gh ≤ p.length ∧ iv = .int .i64 gh ∧ wr = w.alloc (.cells #[.pointer (some ⟨root, 0, none⟩)] 45))
  case atStart => exact ⟨Nat.le_refl _, rfl, rfl⟩
  case round =>
    obtain ⟨hgk, rfl, rfl⟩ := hrel
    cases gk with
    | zero =>
      have hm : IntKind.i64.wrap (-1) = -1 := by decide
      have hl0 : (0 : Int) ≤ (p.length : Int) := by omega
      have hmx : max (-1 : Int) 0 = 0 := by decide
      have HS : Hid (∀ W, Only (fun _ => False) (w.alloc (.cells #[.pointer (some ⟨root, 0, none⟩)] 45)) W → W.cell? ⟨w.heap.size, 0, none⟩ = some (.pointer (some ⟨root, 0, none⟩))) := Lib.hid (fun W hW => (hW.cell (p := ⟨w.heap.size, 0, none⟩) (lt_of_cell c0) id).trans c0)
      have q0 := Only.refl (fun _ => False) (w.alloc (.cells #[.pointer (some ⟨root, 0, none⟩)] 45))
      have q1 := (Only.refl (fun _ => False) (w.alloc (.cells #[.pointer (some ⟨root, 0, none⟩)] 45))).drew
      go_wp2_with fail
      go_region_held3 (fun w' => w'.cell? ⟨w.heap.size, 0, none⟩ = some (.pointer (some ⟨root, 0, none⟩))) (first | exact HS.out _ (by assumption)) (first | ((with_reducible refine (HF2.out _ _ (by first | rfl | (simp; done))).mono ?_); rintro _ w5 ⟨rfl, o5⟩; have q5 := Only.trans (S := fun _ => False) (by assumption) o5 (fun _ _ q => q)))
      all_goals (
        have HO5 := Lib.hid (HO.out.trans q5 (fun _ _ q => q))
        clear q0 q1 q5 o5 HS
        go_wp2_with fail
        go_region
        all_goals (
          go_wp2_with fail
          go_ret3
          rw [text_all p]
          exact ⟨rfl, by first | exact HO5.out | exact HO5.out.drew⟩))
    | succ k =>
      have hk : k < p.length := by omega
      have h0 : (0 : Int) < ((k + 1 : Nat) : Int) := by omega
      have hw : IntKind.i64.wrap (((k + 1 : Nat) : Int) - 1) = (k : Int) := by
        rw [show ((k + 1 : Nat) : Int) - 1 = (k : Int) by omega]
        exact IntWalk.i64_in _ (by omega)
      have g1 : ∀ h : k < (⟨p.toArray⟩ : ByteArray).size, ((((⟨p.toArray⟩ : ByteArray)[k]'h).toNat : Int) == 47) = false := fun h => by
        rw [beq_eq_false_iff_ne]
        intro q
        have q2 : (((⟨p.toArray⟩ : ByteArray)[k]'h).toNat) = 47 := by omega
        refine HN.out k ?_
        rw [List.getElem?_eq_getElem hk]
        exact congrArg some (UInt8.toNat_inj.1 q2)
      have g3 : ∀ h : k < (⟨p.toArray⟩ : ByteArray).size, ((((⟨p.toArray⟩ : ByteArray)[k]'h).toNat : Int) != 47) = true := fun h => by
        show (!_) = true
        rw [g1 h]
        rfl
      have g2 : ∀ h : k < (⟨p.toArray⟩ : ByteArray).size, ((((⟨p.toArray⟩ : ByteArray)[k]'h).toNat) = 47) = False := fun h => eq_false (fun q => by
        have := g1 h
        rw [q] at this
        cases this)
      generalize hkk : ((k + 1 : Nat) : Int) = K at *
      go_wp2_with fail
      go_roundg k
      case measure => omega
      case rel => exact ⟨by omega, rfl, rfl⟩
/-- What making tells. -/
def mkErr (o : Option (Option Nat)) : Int := if o.isSome then 9 else 0
set_option maxRecDepth 100000 in
theorem Make_dup (w : World) (root : Nat) (p : Bytes) (R : Box) (hR : BoxAt w root R) (h : Named p) (hI : (R.I p).isSome = true) :
    Calls Tryd.prog 93 #[.agg #[.pointer (some ⟨root, 0, none⟩)], str p] w fun e w' => e = .returned (.int .i64 9) ∧ Only (fun _ => False) w w' := by
  obtain ⟨ho, c0⟩ := recv_laid w root
  have HF := Lib.hid (last_one (w.alloc (.cells #[.pointer (some ⟨root, 0, none⟩)] 45)) root p h)
  have HB := Lib.hid (hR.still ho)
  have HO := Lib.hid ho
  have hp : p.length ≤ maxLen := by have := h.short; have : maxLen = 9223372036854775807 := by decide
                                    omega
  clear ho hR h
  go_enter Tryd.func93, Tryd.ntmps93
  go_wp2_with fail
  (with_reducible refine HF.out.mono ?_)
  rintro e w2 ⟨rfl, o2⟩
  have HB2 := Lib.hid (HB.out.still o2)
  have HO2 := Lib.hid (HO.out.trans o2 (fun _ _ q => q))
  obtain ⟨_, c1, c2⟩ := HB2.out.cells
  have hl := HB2.out.ins.look (t := 51) (by kernel_rfl) (by kernel_rfl) true p hp
  rw [hI] at hl
  simp only [if_true] at hl
  generalize hvv : CP.val ((R.I p).getD CP.zero) = vv at hl
  clear o2 HF HB HO hI hvv
  go_wp2_with fail
  go_ret
  exact ⟨rfl, HO2.out⟩
set_option maxRecDepth 100000 in
theorem Make_is (w : World) (root : Nat) (p : Bytes) (R : Box) (hR : BoxAt w root R) (h : Named p) (hV : R.V p = none) (hI : R.I p = none) (hn : R.ni < maxLen) :
    Calls Tryd.prog 93 #[.agg #[.pointer (some ⟨root, 0, none⟩)], str p] w fun e w' => ∃ r a b, e = .returned (.int .i64 0) ∧ BoxAt w' root { R with I := upM R.I p (some r), ni := R.ni + 1 } ∧ BoxAt w' r (newBox a b) ∧ Only (fun j => j = R.mi) w w' ∧ w.heap.size ≤ r ∧ w.heap.size ≤ a ∧ w.heap.size ≤ b := by
  obtain ⟨ho, c0⟩ := recv_laid w root
  have HF := Lib.hid (last_one (w.alloc (.cells #[.pointer (some ⟨root, 0, none⟩)] 45)) root p h)
  have HB := Lib.hid (hR.still ho)
  have HO := Lib.hid ho
  have hp : p.length ≤ maxLen := by have := h.short; have : maxLen = 9223372036854775807 := by decide
                                    omega
  have l0 := hR.lt
  have l1 := hR.vals.lt
  have l2 := hR.ins.lt
  clear ho hR h
  go_enter Tryd.func93, Tryd.ntmps93
  go_wp2_with fail
  (with_reducible refine HF.out.mono ?_)
  rintro e w2 ⟨rfl, o2⟩
  have HB2 := Lib.hid (HB.out.still o2)
  have HO2 := Lib.hid (HO.out.trans o2 (fun _ _ q => q))
  obtain ⟨_, c1, c2⟩ := HB2.out.cells
  have hl := HB2.out.ins.look (t := 51) (by kernel_rfl) (by kernel_rfl) true p hp
  have hl2 := HB2.out.vals.look (t := 37) (by kernel_rfl) (by kernel_rfl) true p hp
  rw [hI] at hl
  rw [hV] at hl2
  simp only [if_true, Option.getD_none, Option.isSome_none] at hl hl2
  have hz : CP.val CP.zero = .pointer none := rfl
  have hz2 : CS.val CS.zero = str [] := rfl
  rw [hz] at hl
  rw [hz2] at hl2
  have HE := Lib.hid (fun W => empty_is W)
  have HC : Hid (∀ W, Only (fun _ => False) w2 W → W.cell? ⟨root, 2, none⟩ = some (.map (some R.mi))) := Lib.hid (fun W hW => (HB2.out.still hW).cells.2.2)
  have HP : Hid (∀ W (r : Nat), Only (fun _ => False) w2 W → ∃ W', (Instr.mapUpdate 51 (.map (some R.mi)) (str p) (.pointer (some ⟨r, 0, none⟩))).run Tryd.prog W = .ok () W' ∧ MapIs CP 9 W' R.mi (R.ni + 1) (upM R.I p (some r)) ∧ Only (fun j => j = R.mi) w2 W' ∧ Only (fun j => j = R.mi) W W') := Lib.hid (fun W r hW => by
    obtain ⟨W', h1, h2, h3⟩ := (HB2.out.still hW).ins.put (t := 51) (by kernel_rfl) (by kernel_rfl) p (some r) hp hn
    exact ⟨W', h1, h2, Only.trans (hW.mono (fun _ _ (q : False) => q.elim)) h3 (fun _ _ q => q), h3⟩)
  have HC2 : Hid (∀ W, Only (fun j => j = R.mi) w2 W → W.cell? ⟨root, 2, none⟩ = some (.map (some R.mi))) := Lib.hid (fun W hW => (hW.cell (p := ⟨root, 2, none⟩) HB2.out.lt HB2.out.d2).trans HB2.out.cells.2.2)
  have hsz := HO2.out.size
  have q0 := Only.refl (fun _ => False) w2
  have q1 := (Only.refl (fun _ => False) w2).drew
  clear o2 HF HB HO hI hV hz hz2
  go_wp2_with fail
  go_region_held3 (fun w' => w'.cell? ⟨root, 2, none⟩ = some (.map (some R.mi))) (first | exact HC.out _ (by assumption) | exact HC2.out _ (by assumption)) (first | ((with_reducible refine (HE.out _).mono ?_); rintro _ w5 ⟨r, a, b, rfl, b5, o5, n1, n2, n3⟩; have q5 := Only.trans (S := fun _ => False) (by assumption) o5 (fun _ _ q => q); obtain ⟨mf, runf, isf, omf, omf0⟩ := HP.out _ r q5))
  all_goals (
    have hd1 := HB2.out.d1
    have hd2 := HB2.out.d2
    have hd3 := HB2.out.d3
    have hrt : root < w2.heap.size := HB2.out.lt
    have hmv : R.mv < w2.heap.size := HB2.out.vals.lt
    have hmi : R.mi < w2.heap.size := HB2.out.ins.lt
    have g1 : w2.heap.size ≤ r := n1
    have g2 : w2.heap.size ≤ a := n2
    have g3 : w2.heap.size ≤ b := n3
    have o6 : Only (fun j => j = R.mi) w5 mf := omf0
    have HX : Hid (BoxAt mf root { R with I := upM R.I p (some r), ni := R.ni + 1 } ∧ BoxAt mf r (newBox a b) ∧ Only (fun j => j = R.mi) w mf) := Lib.hid ⟨⟨(omf.block root hrt hd2).trans HB2.out.heap, HB2.out.vals.only omf hd3, isf, hd1, hd2, hd3⟩, b5.only o6 (by omega) (by show ¬ a = R.mi; omega) (by show ¬ b = R.mi; omega), Only.trans (HO2.out.mono (fun _ _ (q : False) => q.elim)) omf (fun _ _ q => q)⟩
    clear omf omf0 o6 isf runf b5 o5 q0 q1 q5 n1 n2 n3
    go_wp2_with fail
    go_ret
    exact ⟨r, a, b, rfl, HX.out.1, HX.out.2.1, HX.out.2.2, by omega, by omega, by omega⟩)
set_option maxRecDepth 100000 in
theorem Drop_is (w : World) (root : Nat) (p : Bytes) (R : Box) (hR : BoxAt w root R) (h : Named p) (hV : R.V p = none) (hI : (R.I p).isSome = true) :
    Calls Tryd.prog 91 #[.agg #[.pointer (some ⟨root, 0, none⟩)], str p] w fun e w' => e = .returned (.int .i64 0) ∧ BoxAt w' root { R with I := offM R.I p } ∧ Only (fun j => j = R.mi) w w' := by
  obtain ⟨ho, c0⟩ := recv_laid w root
  have HF := Lib.hid (last_one (w.alloc (.cells #[.pointer (some ⟨root, 0, none⟩)] 45)) root p h)
  have HB := Lib.hid (hR.still ho)
  have HO := Lib.hid ho
  have hp : p.length ≤ maxLen := by have := h.short; have : maxLen = 9223372036854775807 := by decide
                                    omega
  clear ho hR h
  go_enter Tryd.func91, Tryd.ntmps91
  go_wp2_with fail
  (with_reducible refine HF.out.mono ?_)
  rintro e w2 ⟨rfl, o2⟩
  have HB2 := Lib.hid (HB.out.still o2)
  have HO2 := Lib.hid (HO.out.trans o2 (fun _ _ q => q))
  obtain ⟨_, c1, c2⟩ := HB2.out.cells
  have hl := HB2.out.ins.look (t := 51) (by kernel_rfl) (by kernel_rfl) true p hp
  have hl2 := HB2.out.vals.look (t := 37) (by kernel_rfl) (by kernel_rfl) true p hp
  rw [hI] at hl
  rw [hV] at hl2
  simp only [if_true, Option.getD_none, Option.isSome_none] at hl hl2
  have hz2 : CS.val CS.zero = str [] := rfl
  rw [hz2] at hl2
  generalize hvv : CP.val ((R.I p).getD CP.zero) = vv at hl
  obtain ⟨mf, runf, isf, omf⟩ := HB2.out.ins.off (t := 51) (by kernel_rfl) (by kernel_rfl) p hp 0
  have hd1 := HB2.out.d1
  have hd2 := HB2.out.d2
  have hd3 := HB2.out.d3
  have hrt : root < w2.heap.size := HB2.out.lt
  have HX : Hid (BoxAt mf root { R with I := offM R.I p } ∧ Only (fun j => j = R.mi) w mf) := Lib.hid ⟨⟨(omf.block root hrt hd2).trans HB2.out.heap, HB2.out.vals.only omf hd3, isf, hd1, hd2, hd3⟩, Only.trans (HO2.out.mono (fun _ _ (q : False) => q.elim)) omf (fun _ _ q => q)⟩
  clear o2 HF HB HO hI hvv hV hz2 isf omf
  go_wp2_with fail
  go_ret
  exact ⟨rfl, HX.out.1, HX.out.2⟩
end Go.Proofs.YtlkknekflgclgaaDoor
