/- The document's own answer: a request is read. Conditions: one goroutine; the bytes are fewer than 2^30. -/
import Derived.Test.YtlkknekflgclgaaGreatDoorZCq5
import Derived.Test.YtlkknekflgclgaaGreatDoorZCyLay
import Derived.Test.YtlkknekflgclgaaGreatDoorZCyG
namespace Go.Proofs.YtlkknekflgclgaaGreatDoor
open Go.RowKit Go.MuLone

theorem rawG_err {s : GetS} (h : s.e ≠ 0) (n : Int) : rawG s n = ([], s) := if_pos h
theorem lowG_err {s : GetS} (h : s.e ≠ 0) (n : Nat) : (lowG s n).2 = s := by
  unfold lowG
  rw [rawG_err h]
theorem textG_err {s : GetS} (h : s.e ≠ 0) : (textG s).2 = s := by
  unfold textG
  rw [lowG_err h, rawG_err h]
theorem cmdG_err {s : GetS} (h : s.e ≠ 0) : (cmdG s).2 = s := by
  unfold cmdG
  dsimp only
  rw [lowG_err h, textG_err h, textG_err h, textG_err h, textG_err h]
theorem cmdsG_err {s : GetS} {k : Nat} (h : (cmdsG k s).2.e ≠ 0) (m : Nat) : (cmdsG (k + m) s).2 = (cmdsG k s).2 := by
  induction m with
  | zero => rfl
  | succ m ih =>
    show (cmdG (cmdsG (k + m) s).2).2 = _
    rw [ih]
    exact cmdG_err h
theorem endG_err {s : GetS} (h : s.e ≠ 0) : endG s = s := by
  unfold endG leftG
  rw [if_neg (by rw [if_pos h]; omega)]
theorem RInt_get (g : Nat) (s : GetS) (w : World) (h : GetAt w g s) :
    Calls Tryz.prog 113 #[.pointer (some ⟨g, 0, none⟩), .int .i64 8] w fun e w' => e = .returned (.int .i64 (intG s).1) ∧ GetTo w g (intG s).2 w' := RGNum_get g s 8 (by omega) w h
theorem RByte_get (g : Nat) (s : GetS) (w : World) (h : GetAt w g s) :
    Calls Tryz.prog 113 #[.pointer (some ⟨g, 0, none⟩), .int .i64 1] w fun e w' => e = .returned (.int .i64 (lowG s 1).1) ∧ GetTo w g (lowG s 1).2 w' := by
  have HH : Calls Tryz.prog 113 #[.pointer (some ⟨g, 0, none⟩), .int .i64 1] w fun e w' => e = .returned (.int .i64 (wrap64 ((lowG s 1).1 : Int))) ∧ GetTo w g (lowG s 1).2 w' := RGNum_get g s 1 (by omega) w h
  have hlt := lowG_lt s 1
  have e1 : wrap64 ((lowG s 1).1 : Int) = ((lowG s 1).1 : Int) := by
    generalize (lowG s 1).1 = m at *
    unfold wrap64
    omega
  rwa [e1] at HH
set_option maxRecDepth 100000 in
set_option maxHeartbeats 8000000 in
theorem RRead_is (w : World) (b : Bytes) (hb : b.length ≤ 1073741824) : Calls Tryz.prog 31 #[str b] w (ReadEnds w (readQ b)) := by
  obtain ⟨i0, hi, hz0, hz1, hz2⟩ := info_parts cmdInfo
  have o1 := (Only.refl (fun _ => False) w).alloc (.cells #[.int .i64 0, .int .i64 0, .slice none 0 0] 52)
  have t1 := blk_new w (.cells #[.int .i64 0, .int .i64 0, .slice none 0 0] 52)
  have sA : (w.alloc (.cells #[.int .i64 0, .int .i64 0, .slice none 0 0] 52)).heap.size = w.heap.size + 1 := Array.size_push _
  generalize hrq : readQ b = rq at *
  go_enter Tryz.func31, Tryz.ntmps31
  go_wp2_with fail
  generalize w.alloc (.cells #[.int .i64 0, .int .i64 0, .slice none 0 0] 52) = W1 at *
  have oG := (Only.refl (fun _ => False) W1).alloc (.cells #[str b, .int .i64 0] 136)
  have t2 := blk_keep t1 oG id
  have g2 := blk_new W1 (.cells #[str b, .int .i64 0] 136)
  rw [sA] at g2
  have O2 := o1.trans oG (fun _ _ q => q)
  have hgA : GetAt (W1.alloc (.cells #[str b, .int .i64 0] 136)) (w.heap.size + 1) ⟨b, 0⟩ := ⟨blk_cell g2 0, blk_cell g2 1, blk_frozen g2 0, blk_frozen g2 1⟩
  have hw2s : (W1.alloc (.cells #[str b, .int .i64 0] 136)).heap.size = W1.heap.size + 1 := Array.size_push _
  generalize W1.alloc (.cells #[str b, .int .i64 0] 136) = w2 at *
  have HI := Lib.hid (RInt_get _ _ w2 hgA)
  have HT2 := Lib.hid t2
  have HO2 := Lib.hid O2
  have hrq2 := hrq
  unfold readQ reqG at hrq2
  have hr1 : (intG ⟨b, 0⟩).2.rest.length ≤ 1073741824 := rest_le2 hb
  generalize hx1 : intG ⟨b, 0⟩ = x1 at *
  obtain ⟨cl, s1⟩ := x1
  dsimp only at *
  clear o1 t1 oG t2 g2 O2 hgA
  generalize hT : w.heap.size = t at *
  (with_reducible refine HI.out.mono ?_)
  rintro e w3 ⟨rfl, hg3⟩
  have HI2 := Lib.hid (RInt_get _ _ w3 hg3.1)
  have HT3 := Lib.hid (blk_keep HT2.out hg3.2 (by omega))
  have HO3 := Lib.hid (Only.trans (HO2.out.mono (T := fun k => k = t + 1) (fun _ _ (q : False) => q.elim)) hg3.2 (fun _ _ q => q))
  have hsz3 := hg3.2.size
  clear HI hg3 HT2 HO2
  have hr2 : (intG s1).2.rest.length ≤ 1073741824 := rest_le2 hr1
  generalize hx2 : intG s1 = x2 at *
  obtain ⟨sq, s2⟩ := x2
  dsimp only at *
  go_wp2_with fail
  (with_reducible refine HI2.out.mono ?_)
  rintro e w4 ⟨rfl, hg4⟩
  have oA := (Only.refl (fun _ => False) w4).alloc (.cells #[.int .i64 cl, .int .i64 sq, .slice none 0 0] 52)
  have hsz4 := hg4.2.size
  have R2 : RdAt w (w4.alloc (.cells #[.int .i64 cl, .int .i64 sq, .slice none 0 0] 52)) t (t + 1) w4.heap.size s2 cl sq [] (.slice none 0 0) := by
    have q3 := blk_keep HT3.out hg4.2 (by omega)
    refine ⟨hg4.1.only oA id, blk_keep q3 oA id, blk_new w4 _, ⟨rfl, .inl ⟨rfl, rfl⟩⟩, ?_, ⟨by omega, by omega, by omega⟩, ⟨by omega, by omega, by omega⟩, fun q hq => by simp [Value.ownBlock] at hq⟩
    exact ((Only.trans HO3.out hg4.2 (fun _ _ q => q)).mono (fun i hi q => by have q : i = t + 1 := q; omega)).trans oA (fun _ _ q => q)
  have HB3 := Lib.hid (RByte_get _ _ _ R2.get)
  have HR2 := Lib.hid R2
  clear R2 oA HI2 HT3 HO3 hg4 hsz3 hw2s sA
  generalize hB : w4.heap.size = rb at *
  go_wp2_with fail
  generalize w4.alloc (.cells #[.int .i64 cl, .int .i64 sq, .slice none 0 0] 52) = W4 at *
  have hr3 : (lowG s2 1).2.rest.length ≤ 1073741824 := rest_le1 hr2 1
  have hn := lowG_lt s2 1
  generalize hx3 : lowG s2 1 = x3 at *
  obtain ⟨n, s3⟩ := x3
  dsimp only at *
  generalize hgg : t + 1 = g at *
  (with_reducible refine HB3.out.mono ?_)
  rintro e w5 ⟨rfl, hg5⟩
  have HR5 := Lib.hid (HR2.out.got hg5)
  clear HB3 HR2 hg5
  go_wp2_with fail
  go_loopg [7] n (fun gh iv wr => ∃ (k : Nat) (sv : Value), gh + k = n ∧ iv = .int .i64 k ∧ RdAt w wr t g rb (cmdsG k s3).2 cl sq (cmdsG k s3).1 sv)
  case atStart => exact ⟨0, _, by omega, rfl, HR5.out⟩
  case round =>
    obtain ⟨k, sv, hgk, rfl, hR⟩ := hrel
    have hrk := rest_le5 hr3 k
    have hck := cmdsG_len k s3
    have hcs : cmdsG (k + 1) s3 = ((cmdsG k s3).1 ++ [(cmdG (cmdsG k s3).2).1], (cmdG (cmdsG k s3).2).2) := rfl
    have HCS := Lib.hid hcs
    clear hcs
    by_cases hk : k < n
    · have HER : Hid ((cmdsG k s3).2.e ≠ 0 → (endG (cmdsG n s3).2) = (cmdsG k s3).2) := Lib.hid (fun h => by
        obtain ⟨m, rfl⟩ : ∃ m, n = k + m := ⟨n - k, by omega⟩
        rw [cmdsG_err h m, endG_err h])
      generalize (cmdsG k s3).1 = xs at *
      generalize (cmdsG k s3).2 = u0 at *
      subst hck
      obtain ⟨aV, cV, rfl⟩ := ownsRow_form hR.own
      have hk2 : (xs.length : Int) < (n : Int) := by omega
      have w4' : IntKind.i64.wrap ((xs.length : Int) + 1) = (xs.length : Int) + 1 := by exact IntWalk.i64_in _ (by omega)
      have y1 := hR.get.c1
      by_cases hu : u0.e = 0
      case neg =>
        have hE := HER.out hu
        rw [hE, if_pos hu] at hrq2
        have HE := Lib.hid (RGEnd_get _ _ _ hR.get)
        rw [endG_err hu] at HE
        have HR := Lib.hid hR
        have HRQ := Lib.hid hrq2
        have e0 : (u0.e == 0) = false := by simpa using hu
        have e1 : (u0.e != 0) = true := by simpa using hu
        clear hR hrq2 HCS hrk hrq hx1 hx2 hx3 hE HER hu
        go_wp2_with fail
        (with_reducible refine HE.out.mono ?_)
        rintro e w6 ⟨rfl, hg6⟩
        have HR6 := Lib.hid (HR.out.got hg6)
        clear HE HR hg6 y1
        have t0 := blk_cell HR6.out.ans 0
        have t1 := blk_cell HR6.out.ans 1
        have t2 := blk_cell HR6.out.ans 2
        have f0 := blk_frozen HR6.out.ans 0
        have f1 := blk_frozen HR6.out.ans 1
        have f2 := blk_frozen HR6.out.ans 2
        simp only [List.getElem?_toArray, List.getElem?_cons_zero, List.getElem?_cons_succ] at t0 t1 t2
        have fin : ∀ W, W = (((w6.setCell ⟨t, 0, none⟩ (.int .i64 0)).setCell ⟨t, 1, none⟩ (.int .i64 0)).setCell ⟨t, 2, none⟩ (.slice none 0 0)) → W.heap[t]? = some (.cells #[.int .i64 0, .int .i64 0, .slice none 0 0] 52 (0, 0)) ∧ Only (fun _ => False) w W := fun W hW => by
          subst hW
          have bt := blk_set (blk_set (blk_set HR6.out.ans 0 (.int .i64 0)) 1 (.int .i64 0)) 2 (.slice none 0 0)
          have ot : Only (fun k => k = t) w6 (((w6.setCell ⟨t, 0, none⟩ (.int .i64 0)).setCell ⟨t, 1, none⟩ (.int .i64 0)).setCell ⟨t, 2, none⟩ (.slice none 0 0)) := (((Only.refl (fun k => k = t) w6).put t 0 rfl _).put t 1 rfl _).put t 2 rfl _
          have := HR6.out.d2
          exact ⟨bt, (Only.trans (HR6.out.only.mono (T := fun k => k = t) (fun _ _ (q : False) => q.elim)) ot (fun _ _ q => q)).mono (fun i hi q => by have q : i = t := q; omega)⟩
        have HFIN := Lib.hid fin
        clear fin HR6
        generalize u0.e = ee at *
        go_wp2_with fail
        obtain ⟨bt, ot⟩ := HFIN.out _ rfl
        have g0 := blk_cell bt 0
        have g1 := blk_cell bt 1
        have g2 := blk_cell bt 2
        refine bodyPost_ret (v := .tuple #[.agg #[.int .i64 0, .int .i64 0, .slice none 0 0], .int .i64 ee]) (by simp [results, Tryz.results31, go_sem, g0, g1, g2]) rfl ?_
        rw [← HRQ.out]
        exact ⟨_, rfl, ⟨rfl, .inl ⟨rfl, rfl⟩⟩, ot, fun q hq => by simp [Value.ownBlock] at hq⟩
      rw [hu] at y1
      clear HER
      have HB0 := Lib.hid (RByte_get _ _ _ hR.get)
      have HR := Lib.hid hR
      clear hR
      have hs1 : (lowG u0 1).2.rest.length ≤ 1073741824 := rest_le1 hrk 1
      have hcg : cmdG u0 = (⟨((lowG u0 1).1 : Nat), (textG (lowG u0 1).2).1, (textG (textG (lowG u0 1).2).2).1, (textG (textG (textG (lowG u0 1).2).2).2).1, (textG (textG (textG (textG (lowG u0 1).2).2).2).2).1⟩, (textG (textG (textG (textG (lowG u0 1).2).2).2).2).2) := rfl
      rw [hcg] at HCS
      clear hcg hu
      generalize hy1 : lowG u0 1 = y1' at *
      obtain ⟨kd, u1⟩ := y1'
      dsimp only at *
      go_wp2_with fail
      (with_reducible refine HB0.out.mono ?_)
      rintro e w6 ⟨rfl, hg6⟩
      have oA := (Only.refl (fun _ => False) w6).alloc (.cells #[.int .i64 kd, .string ⟨#[]⟩, .string ⟨#[]⟩, .string ⟨#[]⟩, .string ⟨#[]⟩] 119)
      have R6 := (HR.out.got hg6)
      have hC1 := blk_lt R6.req
      have hC2 := blk_lt R6.ans
      have hC3 : g < w6.heap.size := lt_of_cell R6.get.c0
      have hC4 : ∀ q, (Value.slice aV xs.length cV).ownBlock = some q → q < w6.heap.size := fun q hq => (R6.own.lt q hq).2
      have hC5 := R6.only.size
      have HR7 := Lib.hid (R6.still oA)
      have HBK := Lib.hid (blk_new w6 (.cells #[.int .i64 kd, .string ⟨#[]⟩, .string ⟨#[]⟩, .string ⟨#[]⟩, .string ⟨#[]⟩] 119))
      clear HB0 HR hg6 R6 oA y1
      go_wp2_with fail
      generalize w6.alloc (.cells #[.int .i64 kd, .string ⟨#[]⟩, .string ⟨#[]⟩, .string ⟨#[]⟩, .string ⟨#[]⟩] 119) = W7 at *
      generalize w6.heap.size = C at *
      have hgC : C ≠ g := by omega
      have HX1 := Lib.hid (RGText_get _ _ _ HR7.out.get)
      have hs2 : (textG u1).2.rest.length ≤ 1073741824 := rest_le3 hs1
      generalize hzz1 : textG u1 = z1 at *
      obtain ⟨T1, u2⟩ := z1
      dsimp only at *
      (with_reducible refine HX1.out.mono ?_)
      rintro e W8 ⟨rfl, hg⟩
      have R8 := HR7.out.got hg
      have B8 := blk_keep HBK.out hg.2 hgC
      have b1 := blk_cell B8 1
      have f1 := blk_frozen B8 1
      try simp only [List.getElem?_toArray, List.getElem?_cons_zero, List.getElem?_cons_succ] at b1
      have HS8 := Lib.hid (R8.off ((Only.refl (fun q => q = C) W8).put C 1 rfl (str T1)) (by omega) (by omega) (by omega) (fun q hq e => by have := hC4 q hq; omega) (by omega))
      have HBK := Lib.hid (blk_set B8 1 (str T1))
      clear R8 B8 HX1 HR7
      go_wp2_with fail
      clear hg b1 f1
      generalize W8.setCell ⟨C, 1, none⟩ (str T1) = X8 at *
      have HX2 := Lib.hid (RGText_get _ _ _ HS8.out.get)
      have hs3 : (textG u2).2.rest.length ≤ 1073741824 := rest_le3 hs2
      generalize hzz2 : textG u2 = z2 at *
      obtain ⟨T2, u3⟩ := z2
      dsimp only at *
      (with_reducible refine HX2.out.mono ?_)
      rintro e W9 ⟨rfl, hg⟩
      have R9 := HS8.out.got hg
      have B9 := blk_keep HBK.out hg.2 hgC
      have b2 := blk_cell B9 2
      have f2 := blk_frozen B9 2
      try simp only [List.getElem?_toArray, List.getElem?_cons_zero, List.getElem?_cons_succ] at b2
      have HS9 := Lib.hid (R9.off ((Only.refl (fun q => q = C) W9).put C 2 rfl (str T2)) (by omega) (by omega) (by omega) (fun q hq e => by have := hC4 q hq; omega) (by omega))
      have HBK := Lib.hid (blk_set B9 2 (str T2))
      clear R9 B9 HX2 HS8
      go_wp2_with fail
      clear hg b2 f2
      generalize W9.setCell ⟨C, 2, none⟩ (str T2) = X9 at *
      have HX3 := Lib.hid (RGText_get _ _ _ HS9.out.get)
      have hs4 : (textG u3).2.rest.length ≤ 1073741824 := rest_le3 hs3
      generalize hzz3 : textG u3 = z3 at *
      obtain ⟨T3, u4⟩ := z3
      dsimp only at *
      (with_reducible refine HX3.out.mono ?_)
      rintro e W10 ⟨rfl, hg⟩
      have R10 := HS9.out.got hg
      have B10 := blk_keep HBK.out hg.2 hgC
      have b3 := blk_cell B10 3
      have f3 := blk_frozen B10 3
      try simp only [List.getElem?_toArray, List.getElem?_cons_zero, List.getElem?_cons_succ] at b3
      have HS10 := Lib.hid (R10.off ((Only.refl (fun q => q = C) W10).put C 3 rfl (str T3)) (by omega) (by omega) (by omega) (fun q hq e => by have := hC4 q hq; omega) (by omega))
      have HBK := Lib.hid (blk_set B10 3 (str T3))
      clear R10 B10 HX3 HS9
      go_wp2_with fail
      clear hg b3 f3
      generalize W10.setCell ⟨C, 3, none⟩ (str T3) = X10 at *
      have HX4 := Lib.hid (RGText_get _ _ _ HS10.out.get)
      have hs5 : (textG u4).2.rest.length ≤ 1073741824 := rest_le3 hs4
      generalize hzz4 : textG u4 = z4 at *
      obtain ⟨T4, u5⟩ := z4
      dsimp only at *
      (with_reducible refine HX4.out.mono ?_)
      rintro e W11 ⟨rfl, hg⟩
      have R11 := HS10.out.got hg
      have B11 := blk_keep HBK.out hg.2 hgC
      have b0 : W11.cell? ⟨C, 0, none⟩ = some (.int .i64 kd) := by rw [blk_cell B11 0]; rfl
      have b1 : W11.cell? ⟨C, 1, none⟩ = some (str T1) := by rw [blk_cell B11 1]; rfl
      have b2 : W11.cell? ⟨C, 2, none⟩ = some (str T2) := by rw [blk_cell B11 2]; rfl
      have b3 : W11.cell? ⟨C, 3, none⟩ = some (str T3) := by rw [blk_cell B11 3]; rfl
      have b4 : W11.cell? ⟨C, 4, none⟩ = some (.string ⟨#[]⟩) := by rw [blk_cell B11 4]; rfl
      have f4 := blk_frozen B11 4
      have oC : Only (fun q => q = C) W11 (W11.setCell ⟨C, 4, none⟩ (str T4)) := (Only.refl (fun q => q = C) W11).put C 4 rfl _
      have R12 := R11.off oC (by omega) (by omega) (by omega) (fun q hq e => by have := hC4 q hq; omega) (by omega)
      have hsz12 : (W11.setCell ⟨C, 4, none⟩ (str T4)).heap.size = W11.heap.size := by simp [World.setCell]
      have HCN := cells_new (W11.setCell ⟨C, 4, none⟩ (str T4)) (cmdC ⟨kd, T1, T2, T3, T4⟩) 119 (0, 0)
      have R13 := R12.still ((Only.refl (fun _ => False) _).alloc (.cells (cmdC ⟨kd, T1, T2, T3, T4⟩).toArray 119 (0, 0)))
      rw [hsz12] at HCN
      have HCN := Lib.hid HCN
      have HR13 := Lib.hid R13
      have r2 : W11.cell? ⟨rb, 2, none⟩ = some (.slice aV xs.length cV) := blk_cell R11.req 2
      have HFX : Hid (∀ W' : World, ((W11.setCell ⟨C, 4, none⟩ (str T4)).alloc (.cells (cmdC ⟨kd, T1, T2, T3, T4⟩).toArray 119 (0, 0))).grownBy W' (Value.slice aV xs.length cV).ownBlock → W'.cell? ⟨rb, 2, none⟩ = some (.slice aV xs.length cV) ∧ W'.frozen? ⟨rb, 2, none⟩ = false) := Lib.hid (fun W' hg => by
        have ho : Only (fun k => (Value.slice aV xs.length cV).ownBlock = some k) _ W' := (Only.refl _ _).grown hg (fun _ _ q => q)
        have h2 := blk_keep HR13.out.req ho (fun q => (HR13.out.d3 rb q).2.2.2 rfl)
        exact ⟨blk_cell h2 2, blk_frozen h2 2⟩)
      clear oC R12 hsz12 R13 HBK R11 B11 HS10 HX4 hg
      go_wp2_with (at_builtin; refine wpList_append_moved _ rfl _ _ 50 rfl 119 i0 _ 5 72 Tryz.underlying50 hi hz0 hz1 hz2 rfl (by decide) _ _ _ rfl HR13.out.own ⟨W11.heap.size, 0, none⟩ 1 1 (cmdC ⟨kd, T1, T2, T3, T4⟩) rfl rfl HCN.out (by simp [cmdC, Value.oneCell']) (by unfold maxLen; omega) (by omega) ?_; intro a' c' wx hown2 hgr hmv; obtain ⟨x2, y2⟩ := HFX.out wx hgr; have HX := Lib.hid (And.intro hown2 (And.intro hgr hmv)); clear hown2 hgr hmv)
      go_roundg (gk - 1)
      case measure => omega
      case rel =>
        obtain ⟨hown2, hgr, hmv⟩ := HX.out
        exact ⟨xs.length + 1, .slice a' (xs.length + 1) c', by omega, by go_num, by rw [HCS.out]; exact HR13.out.app hown2 hgr hmv⟩
    · obtain rfl : k = n := by omega
      have hk2 : ¬ ((k : Int) < (k : Int)) := by omega
      generalize (cmdsG k s3).1 = xs at *
      generalize (cmdsG k s3).2 = u0 at *
      subst hck
      obtain ⟨aV, cV, rfl⟩ := ownsRow_form hR.own
      have HE := Lib.hid (RGEnd_get _ _ _ hR.get)
      have HR := Lib.hid hR
      have HRQ := Lib.hid hrq2
      have HCL := Lib.hid hrk
      clear hR hrq2 HCS hrk hrq hx1 hx2 hx3
      go_wp2_with fail
      (with_reducible refine HE.out.mono ?_)
      rintro e w6 ⟨rfl, hg6⟩
      have HR6 := Lib.hid (HR.out.got hg6)
      clear HE HR hg6
      have t0 := blk_cell HR6.out.ans 0
      have t1 := blk_cell HR6.out.ans 1
      have t2 := blk_cell HR6.out.ans 2
      have f0 := blk_frozen HR6.out.ans 0
      have f1 := blk_frozen HR6.out.ans 1
      have f2 := blk_frozen HR6.out.ans 2
      simp only [List.getElem?_toArray, List.getElem?_cons_zero, List.getElem?_cons_succ] at t0 t1 t2
      by_cases he : (endG u0).e = 0
      · rw [he, if_neg (fun q => q rfl)] at HRQ
        rw [he]
        have r0 := blk_cell HR6.out.req 0
        have r1 := blk_cell HR6.out.req 1
        have r2 := blk_cell HR6.out.req 2
        simp only [List.getElem?_toArray, List.getElem?_cons_zero, List.getElem?_cons_succ] at r0 r1 r2
        have HROW := Lib.hid (row_ownQ (enc := cmdC) (k := 5) (xs := xs) (fun _ => rfl) HR6.out.own)
        have HLY := Lib.hid (RLay_is w6 ⟨cl, sq, xs⟩ (.slice aV xs.length cV) HROW.out (by show xs.length ≤ _; omega))
        have HBS := Lib.hid hb
        generalize hly : layQ ⟨cl, sq, xs⟩ = ly at *
        obtain ⟨L1, L2⟩ := ly
        dsimp only at HLY
        go_wp2_with fail
        (with_reducible refine HLY.out.mono ?_)
        rintro e w7 ⟨rfl, o7⟩
        have HR7 := Lib.hid (HR6.out.still o7)
        clear HLY o7 t0 t1 t2 f0 f1 f2 r0 r1 r2 HR6
        have t0 := blk_cell HR7.out.ans 0
        have t1 := blk_cell HR7.out.ans 1
        have t2 := blk_cell HR7.out.ans 2
        have f0 := blk_frozen HR7.out.ans 0
        have f1 := blk_frozen HR7.out.ans 1
        have f2 := blk_frozen HR7.out.ans 2
        have r0 := blk_cell HR7.out.req 0
        have r1 := blk_cell HR7.out.req 1
        have r2 := blk_cell HR7.out.req 2
        simp only [List.getElem?_toArray, List.getElem?_cons_zero, List.getElem?_cons_succ] at t0 t1 t2 r0 r1 r2
        by_cases hok : L2 = 0 ∧ L1 = b
        · obtain ⟨rfl, rfl⟩ := hok
          rw [if_neg (fun q => q rfl)] at HRQ
          have e1 : (L1 == L1) = true := by simp
          have e2 : (L1 != L1) = false := by simp
          go_wp2_with fail
          have bt := blk_set (blk_set (blk_set HR7.out.ans 0 (.int .i64 cl)) 1 (.int .i64 sq)) 2 (.slice aV xs.length cV)
          have ot : Only (fun k => k = t) w7 (((w7.setCell ⟨t, 0, none⟩ (.int .i64 cl)).setCell ⟨t, 1, none⟩ (.int .i64 sq)).setCell ⟨t, 2, none⟩ (.slice aV xs.length cV)) := (((Only.refl (fun k => k = t) w7).put t 0 rfl _).put t 1 rfl _).put t 2 rfl _
          have g0 := blk_cell bt 0
          have g1 := blk_cell bt 1
          have g2 := blk_cell bt 2
          refine bodyPost_ret (v := .tuple #[.agg #[.int .i64 cl, .int .i64 sq, .slice aV xs.length cV], .int .i64 0]) (by simp [results, Tryz.results31, go_sem, g0, g1, g2]) rfl ?_
          rw [← HRQ.out]
          refine ⟨.slice aV xs.length cV, rfl, own_only HR7.out.own ot (fun q hq e => (HR7.out.d3 q hq).2.1 e), ?_, fun q hq => (HR7.out.d3 q hq).1⟩
          have := HR7.out.d2
          exact (Only.trans (HR7.out.only.mono (T := fun k => k = t) (fun _ _ (q : False) => q.elim)) ot (fun _ _ q => q)).mono (fun i hi q => by have q : i = t := q; omega)
        · have hne : ¬ ((L1, L2) = (b, 0)) := fun q => hok ⟨congrArg Prod.snd q, congrArg Prod.fst q⟩
          rw [if_pos hne] at HRQ
          have hbt : (L2 != 0 || L1 != b) = true := by
            by_cases h2 : L2 = 0
            · have h1 : L1 ≠ b := fun q => hok ⟨h2, q⟩
              simp [h1]
            · simp [h2]
          have fin : ∀ W, W = (((w7.setCell ⟨t, 0, none⟩ (.int .i64 0)).setCell ⟨t, 1, none⟩ (.int .i64 0)).setCell ⟨t, 2, none⟩ (.slice none 0 0)) → W.heap[t]? = some (.cells #[.int .i64 0, .int .i64 0, .slice none 0 0] 52 (0, 0)) ∧ Only (fun _ => False) w W := fun W hW => by
            subst hW
            have bt := blk_set (blk_set (blk_set HR7.out.ans 0 (.int .i64 0)) 1 (.int .i64 0)) 2 (.slice none 0 0)
            have ot : Only (fun k => k = t) w7 (((w7.setCell ⟨t, 0, none⟩ (.int .i64 0)).setCell ⟨t, 1, none⟩ (.int .i64 0)).setCell ⟨t, 2, none⟩ (.slice none 0 0)) := (((Only.refl (fun k => k = t) w7).put t 0 rfl _).put t 1 rfl _).put t 2 rfl _
            have := HR7.out.d2
            exact ⟨bt, (Only.trans (HR7.out.only.mono (T := fun k => k = t) (fun _ _ (q : False) => q.elim)) ot (fun _ _ q => q)).mono (fun i hi q => by have q : i = t := q; omega)⟩
          have HFIN := Lib.hid fin
          have HHB := Lib.hid hbt
          clear fin hbt hne hok HR7 r0 r1 r2
          by_cases h2 : L2 = 0
          · subst h2
            have e1 : (L1 == b) = false := by have := HHB.out; simpa using this
            have e2 : (L1 != b) = true := by have := HHB.out; simpa using this
            go_wp2_with fail
            obtain ⟨bt, ot⟩ := HFIN.out _ rfl
            have g0 := blk_cell bt 0
            have g1 := blk_cell bt 1
            have g2 := blk_cell bt 2
            refine bodyPost_ret (v := .tuple #[.agg #[.int .i64 0, .int .i64 0, .slice none 0 0], .int .i64 6]) (by simp [results, Tryz.results31, go_sem, g0, g1, g2]) rfl ?_
            rw [← HRQ.out]
            exact ⟨_, rfl, ⟨rfl, .inl ⟨rfl, rfl⟩⟩, ot, fun q hq => by simp [Value.ownBlock] at hq⟩
          · have e1 : (L2 == 0) = false := by simpa using h2
            have e2 : (L2 != 0) = true := by simpa using h2
            go_wp2_with fail
            obtain ⟨bt, ot⟩ := HFIN.out _ rfl
            have g0 := blk_cell bt 0
            have g1 := blk_cell bt 1
            have g2 := blk_cell bt 2
            refine bodyPost_ret (v := .tuple #[.agg #[.int .i64 0, .int .i64 0, .slice none 0 0], .int .i64 6]) (by simp [results, Tryz.results31, go_sem, g0, g1, g2]) rfl ?_
            rw [← HRQ.out]
            exact ⟨_, rfl, ⟨rfl, .inl ⟨rfl, rfl⟩⟩, ot, fun q hq => by simp [Value.ownBlock] at hq⟩
      · rw [if_pos he] at HRQ
        have he1 : ((endG u0).e == 0) = false := by simpa using he
        have he2 : ((endG u0).e != 0) = true := by simpa using he
        have fin : ∀ W, W = (((w6.setCell ⟨t, 0, none⟩ (.int .i64 0)).setCell ⟨t, 1, none⟩ (.int .i64 0)).setCell ⟨t, 2, none⟩ (.slice none 0 0)) → W.heap[t]? = some (.cells #[.int .i64 0, .int .i64 0, .slice none 0 0] 52 (0, 0)) ∧ Only (fun _ => False) w W := fun W hW => by
          subst hW
          have bt := blk_set (blk_set (blk_set HR6.out.ans 0 (.int .i64 0)) 1 (.int .i64 0)) 2 (.slice none 0 0)
          have ot : Only (fun k => k = t) w6 (((w6.setCell ⟨t, 0, none⟩ (.int .i64 0)).setCell ⟨t, 1, none⟩ (.int .i64 0)).setCell ⟨t, 2, none⟩ (.slice none 0 0)) := (((Only.refl (fun k => k = t) w6).put t 0 rfl _).put t 1 rfl _).put t 2 rfl _
          have := HR6.out.d2
          exact ⟨bt, (Only.trans (HR6.out.only.mono (T := fun k => k = t) (fun _ _ (q : False) => q.elim)) ot (fun _ _ q => q)).mono (fun i hi q => by have q : i = t := q; omega)⟩
        have HFIN := Lib.hid fin
        clear fin HR6
        generalize (endG u0).e = ee at *
        go_wp2_with fail
        obtain ⟨bt, ot⟩ := HFIN.out _ rfl
        have g0 := blk_cell bt 0
        have g1 := blk_cell bt 1
        have g2 := blk_cell bt 2
        refine bodyPost_ret (v := .tuple #[.agg #[.int .i64 0, .int .i64 0, .slice none 0 0], .int .i64 ee]) (by simp [results, Tryz.results31, go_sem, g0, g1, g2]) rfl ?_
        rw [← HRQ.out]
        exact ⟨_, rfl, ⟨rfl, .inl ⟨rfl, rfl⟩⟩, ot, fun q hq => by simp [Value.ownBlock] at hq⟩
end Go.Proofs.YtlkknekflgclgaaGreatDoor
