/- Package cmd: a request is read. Conditions: one goroutine; the bytes are fewer than 2^30. -/
import Derived.Test.YtlkknekflgclgaaGreatDoorZCq4
namespace Go.Proofs.YtlkknekflgclgaaGreatDoor
open Go.RowKit Go.MuLone

theorem rest_le1 {g : GetS} {n : Nat} (h : g.rest.length ≤ n) (k : Nat) : (lowG g k).2.rest.length ≤ n := Nat.le_trans (rawG_length g k) h
theorem rest_le2 {g : GetS} {n : Nat} (h : g.rest.length ≤ n) : (intG g).2.rest.length ≤ n := rest_le1 h 8
theorem rest_le3 {g : GetS} {n : Nat} (h : g.rest.length ≤ n) : (textG g).2.rest.length ≤ n := Nat.le_trans (rawG_length _ _) (rest_le1 h 2)
theorem rest_le4 {g : GetS} {n : Nat} (h : g.rest.length ≤ n) : (cmdG g).2.rest.length ≤ n := rest_le3 (rest_le3 (rest_le3 (rest_le3 (rest_le1 h 1))))
theorem rest_le5 {g : GetS} {n : Nat} (h : g.rest.length ≤ n) (k : Nat) : (cmdsG k g).2.rest.length ≤ n := by
  induction k with
  | zero => exact h
  | succ k ih => exact rest_le4 ih
theorem cmdsG_len (k : Nat) (g : GetS) : (cmdsG k g).1.length = k := by
  induction k with
  | zero => rfl
  | succ k ih => unfold cmdsG; simp [ih]
/-- What Read tells. -/
def ReadEnds (w : World) (x : ReqQ × Int) : Ending → World → Prop := fun e w' => ∃ v, e = .returned (.tuple #[.agg #[.int .i64 x.1.client, .int .i64 x.1.seq, v], .int .i64 x.2]) ∧ w'.ownsRow 0 119 5 v x.1.cmds.length (x.1.cmds.flatMap cmdC) ∧ Only (fun _ => False) w w' ∧ ∀ q, v.ownBlock = some q → w.heap.size ≤ q
set_option maxRecDepth 100000 in
set_option maxHeartbeats 8000000 in
theorem Read_is (w : World) (b : Bytes) (hb : b.length ≤ 1073741824) : Calls Tryz.prog 22 #[str b] w (ReadEnds w (readQ b)) := by
  obtain ⟨i0, hi, hz0, hz1, hz2⟩ := info_parts cmdInfo
  have o1 := (Only.refl (fun _ => False) w).alloc (.cells #[.int .i64 0, .int .i64 0, .slice none 0 0] 52)
  have t1 := blk_new w (.cells #[.int .i64 0, .int .i64 0, .slice none 0 0] 52)
  have HF := Lib.hid (From_get b (w.alloc (.cells #[.int .i64 0, .int .i64 0, .slice none 0 0] 52)))
  have HO1 := Lib.hid o1
  have HT1 := Lib.hid t1
  clear o1 t1
  generalize hrq : readQ b = rq at *
  go_enter Tryz.func22, Tryz.ntmps22
  go_wp2_with fail
  generalize hW1 : w.alloc (.cells #[.int .i64 0, .int .i64 0, .slice none 0 0] 52) = W1 at *
  generalize hT : w.heap.size = t at *
  (with_reducible refine HF.out.mono ?_)
  rintro e w2 ⟨rfl, hg2, o2⟩
  have hsz1 : t < W1.heap.size := blk_lt HT1.out
  have HT2 := Lib.hid (blk_keep HT1.out o2 id)
  have HO2 := Lib.hid (HO1.out.trans o2 (fun _ _ q => q))
  have hg2l : W1.heap.size < w2.heap.size := lt_of_cell hg2.c0
  have HI := Lib.hid (Int_get _ _ w2 hg2 (by show b.length ≤ _; omega))
  clear hg2 o2 HF HO1 HT1
  generalize hG : W1.heap.size = g at *
  have hr1 : (intG ⟨b, 0⟩).2.rest.length ≤ 1073741824 := rest_le2 hb
  have hrq2 := hrq
  unfold readQ reqG at hrq2
  generalize hx1 : intG ⟨b, 0⟩ = x1 at *
  obtain ⟨cl, s1⟩ := x1
  dsimp only at *
  go_wp2_with fail
  (with_reducible refine HI.out.mono ?_)
  rintro e w3 ⟨rfl, hg3⟩
  have oA := (Only.refl (fun _ => False) w3).alloc (.cells #[.int .i64 cl, .int .i64 0, .slice none 0 0] 52)
  have hsz3 := hg3.2.size
  have R0 : RdAt w (w3.alloc (.cells #[.int .i64 cl, .int .i64 0, .slice none 0 0] 52)) t g w3.heap.size s1 cl 0 [] (.slice none 0 0) := by
    have q3 := blk_keep HT2.out hg3.2 (by omega)
    refine ⟨hg3.1.only oA id, blk_keep q3 oA id, blk_new w3 _, ⟨rfl, .inl ⟨rfl, rfl⟩⟩, ?_, ⟨by omega, by omega, by omega⟩, ⟨by omega, by omega, by omega⟩, fun q hq => by simp [Value.ownBlock] at hq⟩
    exact ((Only.trans (HO2.out.mono (T := fun k => k = g) (fun _ _ (q : False) => q.elim)) hg3.2 (fun _ _ q => q)).mono (fun i hi q => by have q : i = g := q; omega)).trans oA (fun _ _ q => q)
  have HI2 := Lib.hid (Int_get _ _ _ R0.get (by show s1.rest.length ≤ _; omega))
  have HR0 := Lib.hid R0
  clear R0 oA HI HT2 HO2 hg3
  generalize hB : w3.heap.size = rb at *
  have hr2 : (intG s1).2.rest.length ≤ 1073741824 := rest_le2 hr1
  generalize hx2 : intG s1 = x2 at *
  obtain ⟨sq, s2⟩ := x2
  dsimp only at *
  go_wp2_with fail
  generalize w3.alloc (.cells #[.int .i64 cl, .int .i64 0, .slice none 0 0] 52) = W3 at *
  (with_reducible refine HI2.out.mono ?_)
  rintro e w4 ⟨rfl, hg4⟩
  have R1 := HR0.out.got hg4
  have c1 := blk_cell R1.req 1
  have f1 := blk_frozen R1.req 1
  have R2 := R1.seq sq
  have HB3 := Lib.hid (Byte_get _ _ _ R2.get (by show s2.rest.length ≤ _; omega))
  have HR2 := Lib.hid R2
  clear R1 R2 HR0 HI2 hg4
  have hr3 : (lowG s2 1).2.rest.length ≤ 1073741824 := rest_le1 hr2 1
  have hn := lowG_lt s2 1
  generalize hx3 : lowG s2 1 = x3 at *
  obtain ⟨n, s3⟩ := x3
  dsimp only at *
  go_wp2_with fail
  (with_reducible refine HB3.out.mono ?_)
  rintro e w5 ⟨rfl, hg5⟩
  have HR5 := Lib.hid (HR2.out.got hg5)
  clear HB3 HR2 hg5 c1 f1
  go_wp2_with fail
  go_loopg [20] n (fun gh iv wr => ∃ (k : Nat) (sv : Value), gh + k = n ∧ iv = .int .i64 k ∧ RdAt w wr t g rb (cmdsG k s3).2 cl sq (cmdsG k s3).1 sv)
  case atStart => exact ⟨0, _, by omega, rfl, HR5.out⟩
  case round =>
    obtain ⟨k, sv, hgk, rfl, hR⟩ := hrel
    have hrk := rest_le5 hr3 k
    have hck := cmdsG_len k s3
    have hcs : cmdsG (k + 1) s3 = ((cmdsG k s3).1 ++ [(cmdG (cmdsG k s3).2).1], (cmdG (cmdsG k s3).2).2) := rfl
    have HCS := Lib.hid hcs
    clear hcs
    by_cases hk : k < n
    · generalize (cmdsG k s3).1 = xs at *
      generalize (cmdsG k s3).2 = u0 at *
      subst hck
      obtain ⟨aV, cV, rfl⟩ := ownsRow_form hR.own
      have hk2 : (xs.length : Int) < (n : Int) := by omega
      have w4' : IntKind.i64.wrap ((xs.length : Int) + 1) = (xs.length : Int) + 1 := by exact IntWalk.i64_in _ (by omega)
      have HB0 := Lib.hid (Byte_get _ _ _ hR.get (by omega))
      have HR := Lib.hid hR
      clear hR
      have hs1 : (lowG u0 1).2.rest.length ≤ 1073741824 := rest_le1 hrk 1
      have hcg : cmdG u0 = (⟨((lowG u0 1).1 : Nat), (textG (lowG u0 1).2).1, (textG (textG (lowG u0 1).2).2).1, (textG (textG (textG (lowG u0 1).2).2).2).1, (textG (textG (textG (textG (lowG u0 1).2).2).2).2).1⟩, (textG (textG (textG (textG (lowG u0 1).2).2).2).2).2) := rfl
      rw [hcg] at HCS
      clear hcg
      generalize hy1 : lowG u0 1 = y1 at *
      obtain ⟨kd, u1⟩ := y1
      dsimp only at *
      go_wp2_with fail
      (with_reducible refine HB0.out.mono ?_)
      rintro e w6 ⟨rfl, hg6⟩
      have oA := (Only.refl (fun _ => False) w6).alloc (.cells #[.int .i64 kd, .string ⟨#[]⟩, .string ⟨#[]⟩, .string ⟨#[]⟩, .string ⟨#[]⟩] 119)
      have R6 := (HR.out.got hg6)
      have hC1 := blk_lt R6.req
      have hC2 := blk_lt R6.ans
      have hC3 : g < w6.heap.size := lt_of_cell R6.get.c0
      have hC4 : ∀ q, (Value.slice aV xs.length cV).ownBlock = some q → q < w6.heap.size := fun q hq => (R6.own.lt q hq).2
      have hC5 := R6.only.size
      have HR7 := Lib.hid (R6.still oA)
      have HBK := Lib.hid (blk_new w6 (.cells #[.int .i64 kd, .string ⟨#[]⟩, .string ⟨#[]⟩, .string ⟨#[]⟩, .string ⟨#[]⟩] 119))
      clear HB0 HR hg6 R6 oA
      go_wp2_with fail
      generalize w6.alloc (.cells #[.int .i64 kd, .string ⟨#[]⟩, .string ⟨#[]⟩, .string ⟨#[]⟩, .string ⟨#[]⟩] 119) = W7 at *
      generalize w6.heap.size = C at *
      have hgC : C ≠ g := by omega
      have HX1 := Lib.hid (Text_get _ _ _ HR7.out.get (by show u1.rest.length ≤ _; omega))
      have hs2 : (textG u1).2.rest.length ≤ 1073741824 := rest_le3 hs1
      generalize hzz1 : textG u1 = z1 at *
      obtain ⟨T1, u2⟩ := z1
      dsimp only at *
      
      (with_reducible refine HX1.out.mono ?_)
      rintro e W8 ⟨rfl, hg⟩
      have HR8 := Lib.hid (HR7.out.got hg)
      have HBK := Lib.hid (blk_keep HBK.out hg.2 hgC)
      clear hg HX1 HR7
      have HX2 := Lib.hid (Text_get _ _ _ HR8.out.get (by show u2.rest.length ≤ _; omega))
      have hs3 : (textG u2).2.rest.length ≤ 1073741824 := rest_le3 hs2
      generalize hzz2 : textG u2 = z2 at *
      obtain ⟨T2, u3⟩ := z2
      dsimp only at *
      go_wp2_with fail
      (with_reducible refine HX2.out.mono ?_)
      rintro e W9 ⟨rfl, hg⟩
      have HR9 := Lib.hid (HR8.out.got hg)
      have HBK := Lib.hid (blk_keep HBK.out hg.2 hgC)
      clear hg HX2 HR8
      have HX3 := Lib.hid (Text_get _ _ _ HR9.out.get (by show u3.rest.length ≤ _; omega))
      have hs4 : (textG u3).2.rest.length ≤ 1073741824 := rest_le3 hs3
      generalize hzz3 : textG u3 = z3 at *
      obtain ⟨T3, u4⟩ := z3
      dsimp only at *
      go_wp2_with fail
      (with_reducible refine HX3.out.mono ?_)
      rintro e W10 ⟨rfl, hg⟩
      have HR10 := Lib.hid (HR9.out.got hg)
      have HBK := Lib.hid (blk_keep HBK.out hg.2 hgC)
      clear hg HX3 HR9
      have HX4 := Lib.hid (Text_get _ _ _ HR10.out.get (by show u4.rest.length ≤ _; omega))
      have hs5 : (textG u4).2.rest.length ≤ 1073741824 := rest_le3 hs4
      generalize hzz4 : textG u4 = z4 at *
      obtain ⟨T4, u5⟩ := z4
      dsimp only at *
      go_wp2_with fail
      (with_reducible refine HX4.out.mono ?_)
      rintro e W11 ⟨rfl, hg⟩
      have HR11 := Lib.hid (HR10.out.got hg)
      have HBK := Lib.hid (blk_keep HBK.out hg.2 hgC)
      clear hg HX4 HR10
      have b0 := blk_cell HBK.out 0
      have b1 := blk_cell HBK.out 1
      have b2 := blk_cell HBK.out 2
      have b3 := blk_cell HBK.out 3
      have b4 := blk_cell HBK.out 4
      have f0 := blk_frozen HBK.out 0
      have f1 := blk_frozen HBK.out 1
      have f2 := blk_frozen HBK.out 2
      have f3 := blk_frozen HBK.out 3
      have f4 := blk_frozen HBK.out 4
      simp only [List.getElem?_toArray, List.getElem?_cons_zero, List.getElem?_cons_succ] at b0 b1 b2 b3 b4
      have oC : Only (fun q => q = C) W11 ((((W11.setCell ⟨C, 1, none⟩ (str T1)).setCell ⟨C, 2, none⟩ (str T2)).setCell ⟨C, 3, none⟩ (str T3)).setCell ⟨C, 4, none⟩ (str T4)) := ((((Only.refl (fun q => q = C) W11).put C 1 rfl _).put C 2 rfl _).put C 3 rfl _).put C 4 rfl _
      have R12 := HR11.out.off oC (by omega) (by omega) (by omega) (fun q hq e => by have := hC4 q hq; omega) (by omega)
      have hsz12 : ((((W11.setCell ⟨C, 1, none⟩ (str T1)).setCell ⟨C, 2, none⟩ (str T2)).setCell ⟨C, 3, none⟩ (str T3)).setCell ⟨C, 4, none⟩ (str T4)).heap.size = W11.heap.size := by simp [World.setCell]
      have HCN := cells_new ((((W11.setCell ⟨C, 1, none⟩ (str T1)).setCell ⟨C, 2, none⟩ (str T2)).setCell ⟨C, 3, none⟩ (str T3)).setCell ⟨C, 4, none⟩ (str T4)) (cmdC ⟨kd, T1, T2, T3, T4⟩) 119 (0, 0)
      have R13 := R12.still ((Only.refl (fun _ => False) _).alloc (.cells (cmdC ⟨kd, T1, T2, T3, T4⟩).toArray 119 (0, 0)))
      rw [hsz12] at HCN
      have HCN := Lib.hid HCN
      have HR13 := Lib.hid R13
      have r2 : W11.cell? ⟨rb, 2, none⟩ = some (.slice aV xs.length cV) := blk_cell HR11.out.req 2
      have HFX : Hid (∀ W' : World, (((((W11.setCell ⟨C, 1, none⟩ (str T1)).setCell ⟨C, 2, none⟩ (str T2)).setCell ⟨C, 3, none⟩ (str T3)).setCell ⟨C, 4, none⟩ (str T4)).alloc (.cells (cmdC ⟨kd, T1, T2, T3, T4⟩).toArray 119 (0, 0))).grownBy W' (Value.slice aV xs.length cV).ownBlock → W'.cell? ⟨rb, 2, none⟩ = some (.slice aV xs.length cV) ∧ W'.frozen? ⟨rb, 2, none⟩ = false) := Lib.hid (fun W' hg => by
        have ho : Only (fun k => (Value.slice aV xs.length cV).ownBlock = some k) _ W' := (Only.refl _ _).grown hg (fun _ _ q => q)
        have h2 := blk_keep HR13.out.req ho (fun q => (HR13.out.d3 rb q).2.2.2 rfl)
        exact ⟨blk_cell h2 2, blk_frozen h2 2⟩)
      clear oC R12 hsz12 R13 HBK HR11
      go_wp2_with (at_builtin; refine wpList_append_moved _ rfl _ _ 50 rfl 119 i0 _ 5 72 Tryz.underlying50 hi hz0 hz1 hz2 rfl (by decide) _ _ _ rfl HR13.out.own ⟨W11.heap.size, 0, none⟩ 1 1 (cmdC ⟨kd, T1, T2, T3, T4⟩) rfl rfl HCN.out (by simp [cmdC, Value.oneCell']) (by unfold maxLen; omega) (by omega) ?_; intro a' c' wx hown2 hgr hmv; obtain ⟨x2, y2⟩ := HFX.out wx hgr; have HX := Lib.hid (And.intro hown2 (And.intro hgr hmv)); clear hown2 hgr hmv)
      go_roundg (gk - 1)
      case measure => omega
      case rel =>
        obtain ⟨hown2, hgr, hmv⟩ := HX.out
        exact ⟨xs.length + 1, .slice a' (xs.length + 1) c', by omega, by go_num, by rw [HCS.out]; exact HR13.out.app hown2 hgr hmv⟩
    · obtain rfl : k = n := by omega
      have hk2 : ¬ ((k : Int) < (k : Int)) := by omega
      generalize (cmdsG k s3).1 = xs at *
      generalize (cmdsG k s3).2 = u0 at *
      subst hck
      obtain ⟨aV, cV, rfl⟩ := ownsRow_form hR.own
      have HE := Lib.hid (End_get _ _ _ hR.get)
      have HR := Lib.hid hR
      have HRQ := Lib.hid hrq2
      have HCL := Lib.hid hrk
      clear hR hrq2 HCS hrk hrq hx1 hx2 hx3
      go_wp2_with fail
      (with_reducible refine HE.out.mono ?_)
      rintro e w6 ⟨rfl, hg6⟩
      have HR6 := Lib.hid (HR.out.got hg6)
      clear HE HR hg6
      have t0 := blk_cell HR6.out.ans 0
      have t1 := blk_cell HR6.out.ans 1
      have t2 := blk_cell HR6.out.ans 2
      have f0 := blk_frozen HR6.out.ans 0
      have f1 := blk_frozen HR6.out.ans 1
      have f2 := blk_frozen HR6.out.ans 2
      simp only [List.getElem?_toArray, List.getElem?_cons_zero, List.getElem?_cons_succ] at t0 t1 t2
      by_cases he : (endG u0).e = 0
      · rw [he, if_neg (fun q => q rfl)] at HRQ
        rw [he]
        have r0 := blk_cell HR6.out.req 0
        have r1 := blk_cell HR6.out.req 1
        have r2 := blk_cell HR6.out.req 2
        simp only [List.getElem?_toArray, List.getElem?_cons_zero, List.getElem?_cons_succ] at r0 r1 r2
        have HROW := Lib.hid (row_ownQ (enc := cmdC) (k := 5) (xs := xs) (fun _ => rfl) HR6.out.own)
        have HLY := Lib.hid (Lay_is w6 ⟨cl, sq, xs⟩ (.slice aV xs.length cV) HROW.out (by show xs.length ≤ _; omega))
        have HBS := Lib.hid hb
        generalize hly : layQ ⟨cl, sq, xs⟩ = ly at *
        obtain ⟨L1, L2⟩ := ly
        dsimp only at HLY
        go_wp2_with fail
        (with_reducible refine HLY.out.mono ?_)
        rintro e w7 ⟨rfl, o7⟩
        have HR7 := Lib.hid (HR6.out.still o7)
        clear HLY o7 t0 t1 t2 f0 f1 f2 r0 r1 r2 HR6
        have t0 := blk_cell HR7.out.ans 0
        have t1 := blk_cell HR7.out.ans 1
        have t2 := blk_cell HR7.out.ans 2
        have f0 := blk_frozen HR7.out.ans 0
        have f1 := blk_frozen HR7.out.ans 1
        have f2 := blk_frozen HR7.out.ans 2
        have r0 := blk_cell HR7.out.req 0
        have r1 := blk_cell HR7.out.req 1
        have r2 := blk_cell HR7.out.req 2
        simp only [List.getElem?_toArray, List.getElem?_cons_zero, List.getElem?_cons_succ] at t0 t1 t2 r0 r1 r2
        by_cases hok : L2 = 0 ∧ L1 = b
        · obtain ⟨rfl, rfl⟩ := hok
          rw [if_neg (fun q => q rfl)] at HRQ
          have e1 : (L1 == L1) = true := by simp
          have e2 : (L1 != L1) = false := by simp
          go_wp2_with fail
          have bt := blk_set (blk_set (blk_set HR7.out.ans 0 (.int .i64 cl)) 1 (.int .i64 sq)) 2 (.slice aV xs.length cV)
          have ot : Only (fun k => k = t) w7 (((w7.setCell ⟨t, 0, none⟩ (.int .i64 cl)).setCell ⟨t, 1, none⟩ (.int .i64 sq)).setCell ⟨t, 2, none⟩ (.slice aV xs.length cV)) := (((Only.refl (fun k => k = t) w7).put t 0 rfl _).put t 1 rfl _).put t 2 rfl _
          have g0 := blk_cell bt 0
          have g1 := blk_cell bt 1
          have g2 := blk_cell bt 2
          refine bodyPost_ret (v := .tuple #[.agg #[.int .i64 cl, .int .i64 sq, .slice aV xs.length cV], .int .i64 0]) (by simp [results, Tryz.results22, go_sem, g0, g1, g2]) rfl ?_
          rw [← HRQ.out]
          refine ⟨.slice aV xs.length cV, rfl, own_only HR7.out.own ot (fun q hq e => (HR7.out.d3 q hq).2.1 e), ?_, fun q hq => (HR7.out.d3 q hq).1⟩
          have := HR7.out.d2
          exact (Only.trans (HR7.out.only.mono (T := fun k => k = t) (fun _ _ (q : False) => q.elim)) ot (fun _ _ q => q)).mono (fun i hi q => by have q : i = t := q; omega)
        · have hne : ¬ ((L1, L2) = (b, 0)) := fun q => hok ⟨congrArg Prod.snd q, congrArg Prod.fst q⟩
          rw [if_pos hne] at HRQ
          have hbt : (L2 != 0 || L1 != b) = true := by
            by_cases h2 : L2 = 0
            · have h1 : L1 ≠ b := fun q => hok ⟨h2, q⟩
              simp [h1]
            · simp [h2]
          have fin : ∀ W, W = (((w7.setCell ⟨t, 0, none⟩ (.int .i64 0)).setCell ⟨t, 1, none⟩ (.int .i64 0)).setCell ⟨t, 2, none⟩ (.slice none 0 0)) → W.heap[t]? = some (.cells #[.int .i64 0, .int .i64 0, .slice none 0 0] 52 (0, 0)) ∧ Only (fun _ => False) w W := fun W hW => by
            subst hW
            have bt := blk_set (blk_set (blk_set HR7.out.ans 0 (.int .i64 0)) 1 (.int .i64 0)) 2 (.slice none 0 0)
            have ot : Only (fun k => k = t) w7 (((w7.setCell ⟨t, 0, none⟩ (.int .i64 0)).setCell ⟨t, 1, none⟩ (.int .i64 0)).setCell ⟨t, 2, none⟩ (.slice none 0 0)) := (((Only.refl (fun k => k = t) w7).put t 0 rfl _).put t 1 rfl _).put t 2 rfl _
            have := HR7.out.d2
            exact ⟨bt, (Only.trans (HR7.out.only.mono (T := fun k => k = t) (fun _ _ (q : False) => q.elim)) ot (fun _ _ q => q)).mono (fun i hi q => by have q : i = t := q; omega)⟩
          have HFIN := Lib.hid fin
          have HHB := Lib.hid hbt
          clear fin hbt hne hok HR7 r0 r1 r2
          by_cases h2 : L2 = 0
          · subst h2
            have e1 : (L1 == b) = false := by have := HHB.out; simpa using this
            have e2 : (L1 != b) = true := by have := HHB.out; simpa using this
            go_wp2_with fail
            obtain ⟨bt, ot⟩ := HFIN.out _ rfl
            have g0 := blk_cell bt 0
            have g1 := blk_cell bt 1
            have g2 := blk_cell bt 2
            refine bodyPost_ret (v := .tuple #[.agg #[.int .i64 0, .int .i64 0, .slice none 0 0], .int .i64 6]) (by simp [results, Tryz.results22, go_sem, g0, g1, g2]) rfl ?_
            rw [← HRQ.out]
            exact ⟨_, rfl, ⟨rfl, .inl ⟨rfl, rfl⟩⟩, ot, fun q hq => by simp [Value.ownBlock] at hq⟩
          · have e1 : (L2 == 0) = false := by simpa using h2
            have e2 : (L2 != 0) = true := by simpa using h2
            go_wp2_with fail
            obtain ⟨bt, ot⟩ := HFIN.out _ rfl
            have g0 := blk_cell bt 0
            have g1 := blk_cell bt 1
            have g2 := blk_cell bt 2
            refine bodyPost_ret (v := .tuple #[.agg #[.int .i64 0, .int .i64 0, .slice none 0 0], .int .i64 6]) (by simp [results, Tryz.results22, go_sem, g0, g1, g2]) rfl ?_
            rw [← HRQ.out]
            exact ⟨_, rfl, ⟨rfl, .inl ⟨rfl, rfl⟩⟩, ot, fun q hq => by simp [Value.ownBlock] at hq⟩
      · rw [if_pos he] at HRQ
        have he1 : ((endG u0).e == 0) = false := by simpa using he
        have he2 : ((endG u0).e != 0) = true := by simpa using he
        have fin : ∀ W, W = (((w6.setCell ⟨t, 0, none⟩ (.int .i64 0)).setCell ⟨t, 1, none⟩ (.int .i64 0)).setCell ⟨t, 2, none⟩ (.slice none 0 0)) → W.heap[t]? = some (.cells #[.int .i64 0, .int .i64 0, .slice none 0 0] 52 (0, 0)) ∧ Only (fun _ => False) w W := fun W hW => by
          subst hW
          have bt := blk_set (blk_set (blk_set HR6.out.ans 0 (.int .i64 0)) 1 (.int .i64 0)) 2 (.slice none 0 0)
          have ot : Only (fun k => k = t) w6 (((w6.setCell ⟨t, 0, none⟩ (.int .i64 0)).setCell ⟨t, 1, none⟩ (.int .i64 0)).setCell ⟨t, 2, none⟩ (.slice none 0 0)) := (((Only.refl (fun k => k = t) w6).put t 0 rfl _).put t 1 rfl _).put t 2 rfl _
          have := HR6.out.d2
          exact ⟨bt, (Only.trans (HR6.out.only.mono (T := fun k => k = t) (fun _ _ (q : False) => q.elim)) ot (fun _ _ q => q)).mono (fun i hi q => by have q : i = t := q; omega)⟩
        have HFIN := Lib.hid fin
        clear fin HR6
        generalize (endG u0).e = ee at *
        go_wp2_with fail
        obtain ⟨bt, ot⟩ := HFIN.out _ rfl
        have g0 := blk_cell bt 0
        have g1 := blk_cell bt 1
        have g2 := blk_cell bt 2
        refine bodyPost_ret (v := .tuple #[.agg #[.int .i64 0, .int .i64 0, .slice none 0 0], .int .i64 ee]) (by simp [results, Tryz.results22, go_sem, g0, g1, g2]) rfl ?_
        rw [← HRQ.out]
        exact ⟨_, rfl, ⟨rfl, .inl ⟨rfl, rfl⟩⟩, ot, fun q hq => by simp [Value.ownBlock] at hq⟩
end Go.Proofs.YtlkknekflgclgaaGreatDoor
