/- Package pack: numbers of four and of eight bytes, laid and read. Conditions: as in what is imported. -/
import Derived.Test.YtbhiamcmiopnoaaGreatDoorZBase
set_option maxHeartbeats 1000000
set_option maxRecDepth 100000
namespace Go.Proofs.YtbhiamcmiopnoaaGreatDoor
open Go.RowKit
def qV (v:Int):Nat:=(v % 18446744073709551616).toNat
def NK (s:jW) (v:Int):jW:=if s.e≠0 then s else ⟨s.bs++bO (qV v) 8,s.e⟩
theorem NM (S:Nat→Prop) (w0 w:World) (p:Nat) (s:jW) (v:Int) (h:bN S w0 w p s) (hb:s.bs.length≤1073741824) :
 Calls Tryz.prog 49 #[.pointer (some ⟨p,0,none⟩),.int .i64 v] w fun e w'=>e=.returned (.pointer (some ⟨p,0,none⟩))∧bN S w0 w' p (NK s v):=by
 have HP:=Lib.hid h
 obtain⟨sv,hp⟩:=h
 have HF:=Lib.hid (oD p s.e 0 false w hp.c1 (.inr rfl))
 have hu:IntKind.u64.wrap v=(qV v:Int):=by
  rw [IntKind.wrap_u64]
  unfold qV
  omega
 have HL:Hid (Calls Tryz.prog 119 #[.pointer (some ⟨p,0,none⟩),.int .u64 (qV v:Int),.int .i64 8] w fun e w'=>e=.returned (.pointer (some ⟨p,0,none⟩))∧bN S w0 w' p ⟨s.bs++bO (qV v) 8,s.e⟩):=Lib.hid (Gf S w0 w p s (qV v) 8 (by omega) HP.out hb)
 clear hp
 unfold NK
 by_cases he:s.e=0
 ·have hb1:(s.e != 0)=false:=by rw [he];rfl
  rw [if_neg (by simpa using he)]
  rw [hb1] at HF
  generalize qV v=m at *
  clear he hb1
  go_enter Tryz.func49,Tryz.ntmps49
  go_wp2_with fail
  (with_reducible refine HF.out.mono ?_)
  rintro e _ ⟨rfl,rfl⟩
  go_wp2_with fail
  (with_reducible refine HL.out.mono ?_)
  rintro e w' ⟨rfl,hp⟩
  have HQ:=Lib.hid hp
  clear hp
  go_wp2_with fail
  go_ret
  exact⟨rfl,HQ.out⟩
 ·have hb1:(s.e != 0)=true:=by simpa using he
  rw [if_pos he]
  rw [hb1] at HF
  clear he hb1 HL hu
  go_enter Tryz.func49,Tryz.ntmps49
  go_wp2_with fail
  (with_reducible refine HF.out.mono ?_)
  rintro e _ ⟨rfl,rfl⟩
  go_wp2_with fail
  go_ret
  exact⟨rfl,HP.out⟩
theorem Ls (g:Nat) (s:jm) (n:Nat) (hn:n≤8) (w:World) (h:fU w g s) (hl:s.rest.length≤140737488355328) :
 Calls Tryz.prog 116 #[.pointer (some ⟨g,0,none⟩),.int .i64 (n:Int)] w fun e w'=>e=.returned (.int .u64 (gu (iw s n).1))∧jA w g (iw s n).2 w':=by
 have HR:=Lib.hid (Bh g s n w h hl)
 have HL:Hid ((iw s n).1.length≤n):=Lib.hid (by
  unfold iw
  repeat' split
  all_goals simp [List.length_take]
  omega)
 clear h hl
 generalize (iw s n).2=s2 at *
 generalize (iw s n).1=t at *
 go_enter Tryz.func116,Tryz.ntmps116
 go_wp2_with fail
 (with_reducible refine HR.out.mono ?_)
 rintro e w' ⟨rfl,HG⟩
 have HG:=Lib.hid HG
 clear HR
 have hlen:=HL.out
 go_wp2_with fail
 go_loopg [5,13] t.length (fun g i j wr=>∃k:Nat,g+k=t.length∧i=.int .u64 (gu (t.take k))∧j=.int .i64 k∧wr=w')
 case atStart=>exact⟨0,by omega,by simp [gu],rfl,rfl⟩
 case round=>
  obtain⟨k,hg,rfl,rfl,rfl⟩:=hrel
  by_cases hk:k<t.length
  ·have w1:IntKind.i64.wrap (8 * (k:Int))=8 * (k:Int):=by exact IntWalk.i64_in _ (by omega)
   have w2:(0:Int)≤8 * (k:Int):=by omega
   have w3:8 * (k:Int)≤64:=by omega
   have w4:(8 * (k:Int)).toNat=8 * k:=by omega
   have hk2:(k:Int)<(t.length:Int):=by omega
   have w5:=Gg (gu (t.take k)) k t[k] (by omega) (by have:=ug (t.take k);rwa [List.length_take,Nat.min_eq_left (by omega)] at this)
   rw [←zS t k hk] at w5
   have HW:=Lib.hid w5
   clear w5
   go_wp2_with fail
   go_roundg (gk-1)
   case measure=>omega
   case rel=>exact⟨k+1,by omega,congrArg (Value.int .u64) HW.out,by go_num,rfl⟩
  ·obtain rfl:k=t.length:=by omega
   rw [List.take_length]
   go_wp2_with fail
   go_ret
   exact⟨rfl,HG.out⟩
def FT (s:jm):Int×jm:=(wrap64 ((iy s 8).1:Int),(iy s 8).2)
theorem NP (g:Nat) (s:jm) (w:World) (h:fU w g s) (hl:s.rest.length≤140737488355328) :
 Calls Tryz.prog 47 #[.pointer (some ⟨g,0,none⟩)] w fun e w'=>e=.returned (.int .i64 (FT s).1)∧jA w g (FT s).2 w':=by
 have HL:Calls Tryz.prog 116 #[.pointer (some ⟨g,0,none⟩),.int .i64 8] w fun e w'=>e=.returned (.int .u64 (iy s 8).1)∧jA w g (iy s 8).2 w':=Ls g s 8 (by omega) w h hl
 have HL:=Lib.hid HL
 clear h hl
 unfold FT
 generalize (iy s 8).2=s2 at *
 generalize (iy s 8).1=m at *
 go_enter Tryz.func47,Tryz.ntmps47
 go_wp2_with fail
 (with_reducible refine HL.out.mono ?_)
 rintro e w' ⟨rfl,HG⟩
 go_wp2_with fail
 go_ret
 exact⟨rfl,HG⟩
end Go.Proofs.YtbhiamcmiopnoaaGreatDoor
