/- The document's own answer: replies are read. Conditions: one goroutine; the bytes are fewer than 2^30. -/
import Derived.Test.YtlkknekflgclgaaGreatDoorZCyRep
import Derived.Test.YtlkknekflgclgaaGreatDoorZCy4
namespace Go.Proofs.YtlkknekflgclgaaGreatDoor
open Go.RowKit Go.MuLone

theorem rpG_err {s : GetS} (h : s.e ≠ 0) : (rpG s).2 = s := by
  unfold rpG
  dsimp only
  rw [lowG_err h, textG_err h]
theorem rpsG_err {s : GetS} {k : Nat} (h : (rpsG k s).2.e ≠ 0) (m : Nat) : (rpsG (k + m) s).2 = (rpsG k s).2 := by
  induction m with
  | zero => rfl
  | succ m ih =>
    show (rpG (rpsG (k + m) s).2).2 = _
    rw [ih]
    exact rpG_err h
theorem RHalf_get (g : Nat) (s : GetS) (w : World) (h : GetAt w g s) :
    Calls Tryz.prog 113 #[.pointer (some ⟨g, 0, none⟩), .int .i64 2] w fun e w' => e = .returned (.int .i64 (lowG s 2).1) ∧ GetTo w g (lowG s 2).2 w' := by
  have HH : Calls Tryz.prog 113 #[.pointer (some ⟨g, 0, none⟩), .int .i64 2] w fun e w' => e = .returned (.int .i64 (wrap64 ((lowG s 2).1 : Int))) ∧ GetTo w g (lowG s 2).2 w' := RGNum_get g s 2 (by omega) w h
  have hlt := lowG_lt s 2
  have e1 : wrap64 ((lowG s 2).1 : Int) = ((lowG s 2).1 : Int) := by
    generalize (lowG s 2).1 = m at *
    unfold wrap64
    omega
  rwa [e1] at HH
set_option maxRecDepth 100000 in
set_option maxHeartbeats 8000000 in
theorem RRR_is (w : World) (b : Bytes) (hb : b.length ≤ 1073741824) : Calls Tryz.prog 34 #[str b] w (RrEnds w (readRepQ b)) := by
  obtain ⟨i0, hi, hz0, hz1, hz2⟩ := info_parts repInfo
  have oG := (Only.refl (fun _ => False) w).alloc (.cells #[str b, .int .i64 0] 136)
  have g2 := blk_new w (.cells #[str b, .int .i64 0] 136)
  have hgA : GetAt (w.alloc (.cells #[str b, .int .i64 0] 136)) w.heap.size ⟨b, 0⟩ := ⟨blk_cell g2 0, blk_cell g2 1, blk_frozen g2 0, blk_frozen g2 1⟩
  generalize hrq : readRepQ b = rq at *
  unfold readRepQ at hrq
  have hr3 : (lowG ⟨b, 0⟩ 1).2.rest.length ≤ 1073741824 := rest_le1 hb 1
  have hn := lowG_lt ⟨b, 0⟩ 1
  have R0 : RpsAt w (w.alloc (.cells #[str b, .int .i64 0] 136)) w.heap.size ⟨b, 0⟩ [] (.slice none 0 0) := ⟨hgA, ⟨rfl, .inl ⟨rfl, rfl⟩⟩, oG, Nat.le_refl _, fun q hq => by simp [Value.ownBlock] at hq⟩
  have HB3 := Lib.hid (RByte_get _ _ _ R0.get)
  have HR0 := Lib.hid R0
  clear R0 hgA g2 oG
  generalize hx3 : lowG ⟨b, 0⟩ 1 = x3 at *
  obtain ⟨n, s3⟩ := x3
  dsimp only at *
  go_enter Tryz.func34, Tryz.ntmps34
  go_wp2_with fail
  generalize w.alloc (.cells #[str b, .int .i64 0] 136) = W1 at *
  generalize hG : w.heap.size = g at *
  (with_reducible refine HB3.out.mono ?_)
  rintro e w5 ⟨rfl, hg5⟩
  have HR5 := Lib.hid (HR0.out.got hg5)
  clear HB3 HR0 hg5
  go_wp2_with fail
  go_loopg [6, 7] n (fun gh sv iv wr => ∃ (k : Nat), gh + k = n ∧ iv = .int .i64 k ∧ RpsAt w wr g (rpsG k s3).2 (rpsG k s3).1 sv)
  case atStart => exact ⟨0, by omega, rfl, HR5.out⟩
  case round =>
    obtain ⟨k, hgk, rfl, hR⟩ := hrel
    have hrk := rest_rps hr3 k
    have hck := rpsG_len k s3
    have hcs : rpsG (k + 1) s3 = ((rpsG k s3).1 ++ [(rpG (rpsG k s3).2).1], (rpG (rpsG k s3).2).2) := rfl
    have HCS := Lib.hid hcs
    clear hcs
    by_cases hk : k < n
    · have HER : Hid ((rpsG k s3).2.e ≠ 0 → (endG (rpsG n s3).2) = (rpsG k s3).2) := Lib.hid (fun h => by
        obtain ⟨m, rfl⟩ : ∃ m, n = k + m := ⟨n - k, by omega⟩
        rw [rpsG_err h m, endG_err h])
      generalize (rpsG k s3).1 = xs at *
      generalize (rpsG k s3).2 = u0 at *
      subst hck
      obtain ⟨aV, cV, rfl⟩ := ownsRow_form hR.own
      have hk2 : (xs.length : Int) < (n : Int) := by omega
      have w4' : IntKind.i64.wrap ((xs.length : Int) + 1) = (xs.length : Int) + 1 := by exact IntWalk.i64_in _ (by omega)
      have y1 := hR.get.c1
      by_cases hu : u0.e = 0
      case neg =>
        have hE := HER.out hu
        rw [hE, if_pos hu] at hrq
        have HE := Lib.hid (RGEnd_get _ _ _ hR.get)
        rw [endG_err hu] at HE
        have HR := Lib.hid hR
        have HRQ := Lib.hid hrq
        have e0 : (u0.e == 0) = false := by simpa using hu
        have e1 : (u0.e != 0) = true := by simpa using hu
        clear hR hrq HCS hrk hx3 hE HER hu
        go_wp2_with fail
        (with_reducible refine HE.out.mono ?_)
        rintro e w6 ⟨rfl, hg6⟩
        have HR6 := Lib.hid (HR.out.got hg6)
        clear HE HR hg6 y1
        generalize u0.e = ee at *
        go_wp2_with fail
        go_ret2
        rw [← HRQ.out]
        exact ⟨_, rfl, ⟨rfl, .inl ⟨rfl, rfl⟩⟩, HR6.out.only, fun q hq => by simp [Value.ownBlock] at hq⟩
      rw [hu] at y1
      clear HER
      have HB0 := Lib.hid (RHalf_get _ _ _ hR.get)
      have HR := Lib.hid hR
      clear hR
      have hs1 : (lowG u0 2).2.rest.length ≤ 1073741824 := rest_le1 hrk 2
      have hcg : rpG u0 = (⟨((lowG u0 2).1 : Nat), (textG (lowG u0 2).2).1⟩, (textG (lowG u0 2).2).2) := rfl
      rw [hcg] at HCS
      clear hcg hu
      generalize hy1 : lowG u0 2 = y1' at *
      obtain ⟨er, u1⟩ := y1'
      dsimp only at *
      go_wp2_with fail
      (with_reducible refine HB0.out.mono ?_)
      rintro e w6 ⟨rfl, hg6⟩
      have oA := (Only.refl (fun _ => False) w6).alloc (.cells #[.int .i64 er, .string ⟨#[]⟩] 68)
      have R6 := (HR.out.got hg6)
      have hC3 : g < w6.heap.size := lt_of_cell R6.get.c0
      have hC4 : ∀ q, (Value.slice aV xs.length cV).ownBlock = some q → q < w6.heap.size := fun q hq => (R6.own.lt q hq).2
      have hC5 := R6.only.size
      have HR7 := Lib.hid (R6.still oA)
      have HBK := Lib.hid (blk_new w6 (.cells #[.int .i64 er, .string ⟨#[]⟩] 68))
      clear HB0 HR hg6 R6 oA y1
      go_wp2_with fail
      generalize w6.alloc (.cells #[.int .i64 er, .string ⟨#[]⟩] 68) = W7 at *
      generalize w6.heap.size = C at *
      have hgC : C ≠ g := by omega
      have HX1 := Lib.hid (RGText_get _ _ _ HR7.out.get)
      generalize hzz1 : textG u1 = z1 at *
      obtain ⟨T1, u2⟩ := z1
      dsimp only at *
      (with_reducible refine HX1.out.mono ?_)
      rintro e W11 ⟨rfl, hg⟩
      have HR11 := Lib.hid (HR7.out.got hg)
      have HBK := Lib.hid (blk_keep HBK.out hg.2 hgC)
      clear hg HX1 HR7
      have b0 := blk_cell HBK.out 0
      have b1 := blk_cell HBK.out 1
      have f0 := blk_frozen HBK.out 0
      have f1 := blk_frozen HBK.out 1
      simp only [List.getElem?_toArray, List.getElem?_cons_zero, List.getElem?_cons_succ] at b0 b1
      have oC : Only (fun q => q = C) W11 (W11.setCell ⟨C, 1, none⟩ (str T1)) := (Only.refl (fun q => q = C) W11).put C 1 rfl _
      have R12 := HR11.out.off oC (by omega) (fun q hq e => by have := hC4 q hq; omega) (by omega)
      have hsz12 : (W11.setCell ⟨C, 1, none⟩ (str T1)).heap.size = W11.heap.size := by simp [World.setCell]
      have HCN := cells_new (W11.setCell ⟨C, 1, none⟩ (str T1)) (rpC ⟨er, T1⟩) 68 (0, 0)
      have R13 := R12.still ((Only.refl (fun _ => False) _).alloc (.cells (rpC ⟨er, T1⟩).toArray 68 (0, 0)))
      rw [hsz12] at HCN
      have HCN := Lib.hid HCN
      have HR13 := Lib.hid R13
      clear oC R12 hsz12 R13 HBK HR11
      go_wp2_with (at_builtin; refine wpList_append_moved _ rfl _ _ 65 rfl 68 i0 _ 2 24 Tryz.underlying65 hi hz0 hz1 hz2 rfl (by decide) _ _ _ rfl HR13.out.own ⟨W11.heap.size, 0, none⟩ 1 1 (rpC ⟨er, T1⟩) rfl rfl HCN.out (by simp [rpC, Value.oneCell']) (by unfold maxLen; omega) (by omega) ?_; intro a' c' wx hown2 hgr hmv; have HX := Lib.hid (And.intro hown2 (And.intro hgr hmv)); clear hown2 hgr hmv)
      go_roundg (gk - 1)
      case measure => omega
      case rel =>
        obtain ⟨hown2, hgr, hmv⟩ := HX.out
        exact ⟨xs.length + 1, by omega, by go_num, by rw [HCS.out]; exact HR13.out.app hown2 hgr hmv⟩
    · obtain rfl : k = n := by omega
      have hk2 : ¬ ((k : Int) < (k : Int)) := by omega
      generalize (rpsG k s3).1 = xs at *
      generalize (rpsG k s3).2 = u0 at *
      subst hck
      obtain ⟨aV, cV, rfl⟩ := ownsRow_form hR.own
      have HE := Lib.hid (RGEnd_get _ _ _ hR.get)
      have HR := Lib.hid hR
      have HRQ := Lib.hid hrq
      clear hR hrq HCS hrk hx3
      go_wp2_with fail
      (with_reducible refine HE.out.mono ?_)
      rintro e w6 ⟨rfl, hg6⟩
      have HR6 := Lib.hid (HR.out.got hg6)
      clear HE HR hg6
      by_cases he : (endG u0).e = 0
      · rw [he] at HRQ ⊢
        rw [if_neg (fun q => q rfl)] at HRQ
        clear he
        go_wp2_with fail
        go_ret2
        rw [← HRQ.out]
        exact ⟨_, rfl, HR6.out.own, HR6.out.only, fun q hq => (HR6.out.d3 q hq).1⟩
      · rw [if_pos he] at HRQ
        have he1 : ((endG u0).e == 0) = false := by simpa using he
        have he2 : ((endG u0).e != 0) = true := by simpa using he
        generalize (endG u0).e = ee at *
        go_wp2_with fail
        go_ret2
        rw [← HRQ.out]
        exact ⟨_, rfl, ⟨rfl, .inl ⟨rfl, rfl⟩⟩, HR6.out.only, fun q hq => by simp [Value.ownBlock] at hq⟩
end Go.Proofs.YtlkknekflgclgaaGreatDoor
