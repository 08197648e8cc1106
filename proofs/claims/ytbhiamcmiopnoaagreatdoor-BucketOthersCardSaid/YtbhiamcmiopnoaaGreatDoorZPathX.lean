/- Contracts of library functions at this dump, laid by the kit's tool. -/
import Derived.Shelf.Small.Wraps
import Derived.Shelf.Strconv.Itoa0
import Derived.Shelf.LaysM
import Derived.Shelf.Strconv.Clone
import Derived.Shelf.Strings.Search1
import Derived.Shelf.Strings.Search2
import Derived.Shelf.Strings.Search3
import Derived.Shelf.Strings.Count
import Derived.Shelf.Strings.Shaped
import Derived.Shelf.Sort.Plain
import Derived.Shelf.Strings.Split
import Derived.Shelf.Strings.SplitShaped
import Derived.Shelf.Unicode.Decode
import Derived.Shelf.Strings.RuneCount
import Derived.Shelf.Strings.Explode
import Derived.Shelf.Unicode.DecodeSlow
import Derived.Ground.Names2Prog
import Derived.Shelf.Slices.Clone
import Derived.Shelf.Slices.CompactI
import Derived.Shelf.Slices.In.SortNone
import Derived.Test.YtbhiamcmiopnoaaGreatDoorProg
import Derived.Test.YtbhiamcmiopnoaaGreatDoorZBase
import Derived.Lib.Split
import Derived.Lib.IndexLaws
import Derived.Lib.CountLaws
import Derived.Test.YtbhiamcmiopnoaaGreatDoorZHeap1
import Derived.Deep.LoopGhost
import Derived.Deep.RegionWith
import Derived.Conc.MuLone
import Derived.Handed
import Derived.HandedShaped
import Derived.Shelf.Vars
set_option maxRecDepth 100000
namespace Go.Proofs.YtbhiamcmiopnoaaGreatDoor
section
open Go.Shelf
def Cz:Go.Shelf.Ren:=⟨fun | 144=>142 | 143=>155 | 219=>186 | 217=>206 | 225=>207 | 224=>208 | 267=>209 | 266=>226 | 314=>227 | n=>n,fun | 9=>9 | 4=>4 | 3=>3 | 5=>5 | 46=>199 | 146=>302 | 51=>240 | n=>n,fun | 1=>0 | n=>n⟩
theorem MO:Go.Proofs.Lays.n144 Tryz.prog Cz:={
 mixed:=by kernel_rfl
 f143:=Tryz.func155.trans (congrArg some (by kernel_rfl))
 f144:=Tryz.func142.trans (congrArg some (by kernel_rfl))
 f217:=Tryz.func206.trans (congrArg some (by kernel_rfl))
 f219:=Tryz.func186.trans (congrArg some (by kernel_rfl))
 f224:=Tryz.func208.trans (congrArg some (by kernel_rfl))
 f225:=Tryz.func207.trans (congrArg some (by kernel_rfl))
 f266:=Tryz.func226.trans (congrArg some (by kernel_rfl))
 f267:=Tryz.func209.trans (congrArg some (by kernel_rfl))
 f314:=Tryz.func227.trans (congrArg some (by kernel_rfl))
 t3:=Tryz.underlying3
 a3:=Tryz.isAgg3
 z3:=Tryz.sizeOf3
 v3:=Tryz.zeroValue3
 t4:=Tryz.underlying4
 a4:=Tryz.isAgg4
 z4:=Tryz.sizeOf4
 v4:=Tryz.zeroValue4
 t5:=Tryz.underlying5
 a5:=Tryz.isAgg5
 z5:=Tryz.sizeOf5
 v5:=Tryz.zeroValue5
 t9:=Tryz.underlying9
 a9:=Tryz.isAgg9
 z9:=Tryz.sizeOf9
 v9:=Tryz.zeroValue9
 t46:=Tryz.underlying199
 a46:=Tryz.isAgg199
 z46:=Tryz.sizeOf199
 v46:=Tryz.zeroValue199
 t51:=Tryz.underlying240
 a51:=Tryz.isAgg240
 z51:=Tryz.sizeOf240
 v51:=Tryz.zeroValue240
 t146:=Tryz.underlying302
 a146:=Tryz.isAgg302
 z146:=Tryz.sizeOf302
 v146:=Tryz.zeroValue302
 g1:=by kernel_rfl }
open Go.RowKit Go.Lib in
theorem strings_Contains_one (s:ByteArray) (c:UInt8) (w:World) :
 Calls Tryz.prog 142 #[.string s,.string ⟨#[c]⟩] w fun e w'=>e=.returned (.bool (decide (0≤Lib.indexByte s.data.toList c)))∧w'=w:=Any.strings_Contains_one MO s c w
def CB:Go.Shelf.Ren:=⟨fun | 146=>39 | 221=>113 | 268=>153 | 138=>154 | 143=>155 | 195=>183 | 197=>184 | 218=>185 | 219=>186 | 260=>205 | 217=>206 | 225=>207 | 224=>208 | 267=>209 | 266=>226 | 314=>227 | n=>n,fun | 9=>9 | 31=>37 | 3=>3 | 4=>4 | 0=>0 | 105=>259 | 21=>21 | 5=>5 | 46=>199 | 119=>298 | 139=>301 | 138=>300 | 146=>302 | 51=>240 | n=>n,fun | 1=>0 | 3=>1 | 4=>2 | n=>n⟩
theorem MP:Go.Proofs.Lays.n146 Tryz.prog CB:={
 mixed:=by kernel_rfl
 f138:=Tryz.func154.trans (congrArg some (by kernel_rfl))
 f143:=Tryz.func155.trans (congrArg some (by kernel_rfl))
 f146:=Tryz.func39.trans (congrArg some (by kernel_rfl))
 f195:=Tryz.func183.trans (congrArg some (by kernel_rfl))
 f197:=Tryz.func184.trans (congrArg some (by kernel_rfl))
 f217:=Tryz.func206.trans (congrArg some (by kernel_rfl))
 f218:=Tryz.func185.trans (congrArg some (by kernel_rfl))
 f219:=Tryz.func186.trans (congrArg some (by kernel_rfl))
 f221:=Tryz.func113.trans (congrArg some (by kernel_rfl))
 f224:=Tryz.func208.trans (congrArg some (by kernel_rfl))
 f225:=Tryz.func207.trans (congrArg some (by kernel_rfl))
 f260:=Tryz.func205.trans (congrArg some (by kernel_rfl))
 f266:=Tryz.func226.trans (congrArg some (by kernel_rfl))
 f267:=Tryz.func209.trans (congrArg some (by kernel_rfl))
 f268:=Tryz.func153.trans (congrArg some (by kernel_rfl))
 f314:=Tryz.func227.trans (congrArg some (by kernel_rfl))
 t0:=Tryz.underlying0
 a0:=Tryz.isAgg0
 z0:=Tryz.sizeOf0
 v0:=Tryz.zeroValue0
 t3:=Tryz.underlying3
 a3:=Tryz.isAgg3
 z3:=Tryz.sizeOf3
 v3:=Tryz.zeroValue3
 t4:=Tryz.underlying4
 a4:=Tryz.isAgg4
 z4:=Tryz.sizeOf4
 v4:=Tryz.zeroValue4
 t5:=Tryz.underlying5
 a5:=Tryz.isAgg5
 z5:=Tryz.sizeOf5
 v5:=Tryz.zeroValue5
 t9:=Tryz.underlying9
 a9:=Tryz.isAgg9
 z9:=Tryz.sizeOf9
 v9:=Tryz.zeroValue9
 t21:=Tryz.underlying21
 a21:=Tryz.isAgg21
 z21:=Tryz.sizeOf21
 v21:=Tryz.zeroValue21
 t31:=Tryz.underlying37
 a31:=Tryz.isAgg37
 z31:=Tryz.sizeOf37
 v31:=Tryz.zeroValue37
 t46:=Tryz.underlying199
 a46:=Tryz.isAgg199
 z46:=Tryz.sizeOf199
 v46:=Tryz.zeroValue199
 t51:=Tryz.underlying240
 a51:=Tryz.isAgg240
 z51:=Tryz.sizeOf240
 v51:=Tryz.zeroValue240
 t105:=Tryz.underlying259
 a105:=Tryz.isAgg259
 z105:=Tryz.sizeOf259
 v105:=Tryz.zeroValue259
 t119:=Tryz.underlying298
 a119:=Tryz.isAgg298
 z119:=Tryz.sizeOf298
 t138:=Tryz.underlying300
 a138:=Tryz.isAgg300
 z138:=Tryz.sizeOf300
 v138:=Tryz.zeroValue300
 t139:=Tryz.underlying301
 a139:=Tryz.isAgg301
 z139:=Tryz.sizeOf301
 v139:=Tryz.zeroValue301
 t146:=Tryz.underlying302
 a146:=Tryz.isAgg302
 z146:=Tryz.sizeOf302
 v146:=Tryz.zeroValue302
 g1:=by kernel_rfl
 g3:=by kernel_rfl
 g4:=by kernel_rfl }
open Go.RowKit Go.Lib in
theorem strings_Split (s sep:ByteArray) (m:Int) (w:World) (hs:s.size<4294967281) (hm:w.cell? ⟨0,0,none⟩=some (.int .i64 m)) (h1:1≤sep.size) :
 Calls Tryz.prog 39 #[.string s,.string sep] w fun e w'=>
  e=.returned (.slice (some ⟨w.heap.size,0,none⟩) (Lib.countB s sep+1) (Lib.countB s sep+1))∧w'=w.alloc (.cells ((Lib.splitB sep 0 (Lib.countB s sep) s).map Value.string).toArray 9):=Any.strings_Split MP (by kernel_rfl) s sep m w hs hm h1
def Ba:Go.Shelf.Ren:=⟨fun | 316=>114 | n=>n,fun | 9=>9 | 3=>3 | 4=>4 | 37=>100 | 0=>0 | 127=>224 | 5=>5 | n=>n,fun | n=>n⟩
theorem JE:Go.Proofs.LaysM.n316 Tryz.prog Ba:={
 mixed:=by kernel_rfl
 f316:=Tryz.func114.trans (congrArg some (by kernel_rfl))
 t0:=Tryz.underlying0
 a0:=Tryz.isAgg0
 z0:=Tryz.sizeOf0
 v0:=Tryz.zeroValue0
 t3:=Tryz.underlying3
 a3:=Tryz.isAgg3
 z3:=Tryz.sizeOf3
 v3:=Tryz.zeroValue3
 t4:=Tryz.underlying4
 a4:=Tryz.isAgg4
 z4:=Tryz.sizeOf4
 v4:=Tryz.zeroValue4
 t9:=Tryz.underlying9
 a9:=Tryz.isAgg9
 z9:=Tryz.sizeOf9
 v9:=Tryz.zeroValue9
 t37:=Tryz.underlying100
 a37:=Tryz.isAgg100
 z37:=Tryz.sizeOf100
 v37:=Tryz.zeroValue100
 t127:=Tryz.underlying224
 a127:=Tryz.isAgg224
 z127:=Tryz.sizeOf224
 v127:=Tryz.zeroValue224
 t5:=Tryz.underlying5
 a5:=Tryz.isAgg5
 z5:=Tryz.sizeOf5
 v5:=Tryz.zeroValue5
 i0:=by kernel_rfl
 i3:=by kernel_rfl
 i4:=by kernel_rfl
 i5:=by kernel_rfl
 i9:=by kernel_rfl
 i37:=by kernel_rfl
 i127:=by kernel_rfl }
open Go.RowKit in
theorem stringslite_Clone (s:ByteArray) (w:World) (hlim:s.size≤281474976710656) :
 Calls Tryz.prog 114 #[.string s] w fun e w'=>e=.returned (.string s)∧Below w.heap.size w w':=Any.stringslite_Clone JE s w hlim
end
section
open Go.RowKit
def bQ:Bytes→List Bytes
 | []=>[[]]
 | c :: r=>if c=47 then [] :: bQ r else match bQ r with | p :: ps=>(c :: p) :: ps | []=>[[c]]
theorem Hr (s:Bytes):bQ s≠[]:=by
 cases s with
 | nil=>simp [bQ]
 | cons c r=>
  unfold bQ
  split
  ·simp
  ·split<;>simp
theorem mD:∀{s:Bytes},(∀k:Nat,s[k]?≠some (47:UInt8))→bQ s=[s]
 | [],_=>rfl
 | c :: r,h=>by
  have hc:c≠47:=fun e=>h 0 (by simp [e])
  unfold bQ
  rw [if_neg hc,mD (s:=r) fun k=>by simpa using h (k+1)]
theorem om:∀{s:Bytes} {i:Nat},s[i]? = some (47:UInt8)→(∀k:Nat,k<i→s[k]?≠some (47:UInt8))→bQ s=s.take i :: bQ (s.drop (i+1))
 | [],_,h,_=>by simp at h
 | c :: r,0,h,_=>by
  have hc:c=47:=by simpa using h
  subst hc
  simp [bQ]
 | c :: r,i+1,h,hn=>by
  have hc:c≠47:=fun e=>hn 0 (by omega) (by simp [e])
  have ih:=om (s:=r) (i:=i) (by simpa using h) fun k hk=>by simpa using hn (k+1) (by omega)
  conv=>lhs;unfold bQ
  rw [if_neg hc,ih]
  simp
theorem Bb:∀(n:Nat) (s:Bytes),s.length≤n→Lib.splitK [47] 0 (Lib.count s [47]) s=bQ s:=by
 intro n
 induction n with
 | zero=>
  intro s hs
  cases s with
  | nil=>decide
  | cons c r=>simp at hs
 | succ n ih=>
  intro s hs
  have hi:=Lib.index_one s 47
  by_cases hm:Lib.indexByte s 47=-1
  ·have h2:Lib.count s [47]=0:=Lib.count_miss (hi.trans hm)
   rw [h2,mD (Lib.indexByte_none hm)]
   rfl
  ·have hge:=Lib.indexByte_ge s 47
   obtain⟨i,hi2⟩:∃i:Nat,Lib.indexByte s 47=i:=⟨(Lib.indexByte s 47).toNat,by omega⟩
   obtain⟨h3,h4⟩:=Lib.indexByte_some hi2
   have hlt:i<s.length:=(List.getElem?_eq_some_iff.1 h3).1
   have h5:Lib.index s [47]=i:=hi.trans hi2
   rw [Lib.count_hit (by simp) h5,om h3 h4,←ih (s.drop (i+1)) (by rw [List.length_drop];omega),Nat.add_comm 1]
   conv=>lhs;unfold Lib.splitK
   have hb:¬(Lib.index s [47] == -1)=true:=fun e=>by have:=beq_iff_eq.1 e;omega
   rw [if_neg hb,h5]
   simp
theorem CF (s:Bytes):Lib.count s [47] + 1=(bQ s).length:=by
 have key:∀(n:Nat) (s:Bytes),s.length≤n→Lib.count s [47] + 1=(bQ s).length:=by
  intro n
  induction n with
  | zero=>
   intro s hs
   cases s with
   | nil=>decide
   | cons c r=>simp at hs
  | succ n ih=>
   intro s hs
   have hi:=Lib.index_one s 47
   by_cases hm:Lib.indexByte s 47=-1
   ·rw [Lib.count_miss (hi.trans hm),mD (Lib.indexByte_none hm)]
    rfl
   ·have hge:=Lib.indexByte_ge s 47
    obtain⟨i,hi2⟩:∃i:Nat,Lib.indexByte s 47=i:=⟨(Lib.indexByte s 47).toNat,by omega⟩
    obtain⟨h3,h4⟩:=Lib.indexByte_some hi2
    have hlt:i<s.length:=(List.getElem?_eq_some_iff.1 h3).1
    have h5:Lib.index s [47]=i:=hi.trans hi2
    have h7:=ih (s.drop (i+1)) (by rw [List.length_drop];omega)
    rw [Lib.count_hit (by simp) h5,om h3 h4]
    show 1+Lib.count (s.drop (i+1)) [47] + 1=(bQ (s.drop (i+1))).length+1
    omega
 exact key _ s (Nat.le_refl _)
theorem CG (s:Bytes):(Lib.splitB ⟨#[47]⟩ 0 (Lib.countB ⟨s.toArray⟩ ⟨#[47]⟩) ⟨s.toArray⟩).map Value.string=(bQ s).map str:=by
 have h:=Lib.splitB_data ⟨#[47]⟩ 0 (Lib.countB ⟨s.toArray⟩ ⟨#[47]⟩) ⟨s.toArray⟩
 have h2:Lib.splitK (⟨#[47]⟩:ByteArray).data.toList 0 (Lib.countB ⟨s.toArray⟩ ⟨#[47]⟩) (⟨s.toArray⟩:ByteArray).data.toList=bQ s:=Bb _ s (Nat.le_refl _)
 rw [h2] at h
 rw [←h,List.map_map]
 refine List.map_congr_left fun x _=>?_
 show Value.string x=str x.data.toList
 simp [str]
end
section
open Go.RowKit Go.MuLone
def lF (w:World) (g:Nat) (l:List Bytes):Prop:=w.heap[g]? = some (.cells (l.map str).toArray 9 (0,0))
theorem lF.cell {w:World} {g:Nat} {l:List Bytes} (h:lF w g l) (i:Nat) (x:Bytes) (hx:l[i]? = some x):w.cell? ⟨g,i,none⟩=some (str x):=by
 have h2:=aj h i
 rw [h2]
 simp [hx]
theorem lF.still {w w':World} {g:Nat} {l:List Bytes} (h:lF w g l) (ho:Only (fun _=>False) w w'):lF w' g l:=(ho.block g (jU h) id).trans h
def cu (s:Bytes):Bool:=decide (1≤s.length) && decide (s.length≤32)
theorem oq (w:World) (s:Bytes) (hs:s.length≤maxLen):Calls Tryz.prog 43 #[str s] w fun e w'=>e=.returned (.bool (cu s))∧w=w':=by
 have hm:maxLen=9223372036854775807:=by decide
 by_cases h1:1≤s.length
 ·have g1:decide ((s.length:Int)≥1)=true:=decide_eq_true (by omega)
  have g1':decide (1≤(s.length:Int))=true:=decide_eq_true (by omega)
  have hw:cu s=decide ((s.length:Int)≤32):=by
   unfold cu
   rw [decide_eq_true h1,Bool.true_and]
   exact decide_eq_decide.2 (by omega)
  rw [hw]
  clear hw
  go_enter Tryz.func43,Tryz.ntmps43
  go_wp2_with fail
  go_ret
  all_goals exact⟨rfl,rfl⟩
 ·have g1:decide ((s.length:Int)≥1)=false:=decide_eq_false (by omega)
  have g1':decide (1≤(s.length:Int))=false:=decide_eq_false (by omega)
  have hw:cu s=false:=by
   unfold cu
   rw [decide_eq_false h1,Bool.false_and]
  rw [hw]
  clear hw
  go_enter Tryz.func43,Tryz.ntmps43
  go_wp2_with fail
  go_ret
  all_goals exact⟨rfl,rfl⟩
theorem JF (w:World) (s:Bytes) (hs:s.length≤maxLen):Calls Tryz.prog 42 #[str s] w fun e w'=>e=.returned (.bool (!cu s))∧w=w':=by
 have HW:=Lib.hid (oq w s hs)
 go_enter Tryz.func42,Tryz.ntmps42
 go_wp2_with fail
 (with_reducible refine HW.out.mono ?_)
 rintro e _ ⟨rfl,rfl⟩
 go_wp2_with fail
 go_ret
 exact⟨rfl,rfl⟩
def Ht (w:World) (l:List Bytes):Ending→World→Prop:=fun e w'=>∃r:Int,e=.returned (.int .i64 r)∧decide (r≥0)=l.any (fun x=>!cu x)∧w=w'
theorem JG (w:World) (g:Nat) (l:List Bytes) (hl:lF w g l) (hn:l.length≤1000000) (hs:∀x∈l,x.length≤maxLen) :
 Calls Tryz.prog 115 #[.slice (some ⟨g,0,none⟩) l.length l.length,.func (.func 42) #[] #[]] w (Ht w l):=by
 have hcf:∀cap w,(callFunc 42 cap).run Tryz.prog w=.ok (.enter 42 cap) w:=fun cap w=>run_callFunc_enter Tryz.func42 (by kernel_rfl) rfl cap w
 have HL:=Lib.hid hl
 clear hl
 go_enter Tryz.func115,Tryz.ntmps115
 go_wp2_with fail
 go_loopg [8] l.length (fun gh iv wr=>∃i:Nat,gh+i=l.length∧iv=.int .i64 i∧wr=w∧∀x∈l.take i,cu x=true)
 case atStart=>exact⟨0,by omega,rfl,rfl,by simp⟩
 case round=>
  obtain⟨i,u6,rfl,rfl,hall⟩:=hrel
  have HA:=Lib.hid hall
  clear hall
  by_cases hi:i<l.length
  ·obtain⟨x,hx⟩:∃x,l[i]? = some x:=⟨_,List.getElem?_eq_getElem hi⟩
   have c0:=HL.out.cell i x hx
   have hi1:(i:Int)<(l.length:Int):=by omega
   have hwi:IntKind.i64.wrap ((i:Int)+1)=(i:Int)+1:=IntWalk.i64_in _ (by omega)
   have HW:=Lib.hid (JF wr x (hs x (List.mem_of_getElem? hx)))
   have HX:=Lib.hid hx
   clear hx
   go_wp2_with fail
   (with_reducible refine HW.out.mono ?_)
   rintro e _ ⟨rfl,rfl⟩
   cases hb:cu x with
   | true=>
    go_wp2_with fail
    go_roundg (gk-1)
    case measure=>omega
    case rel=>
     refine⟨i+1,by omega,by go_num,rfl,fun y hy=>?_⟩
     rw [List.take_add_one,HX.out] at hy
     simp at hy
     rcases hy with hy | rfl
     ·exact HA.out y hy
     ·exact hb
   | false=>
    go_wp2_with fail
    go_ret
    refine⟨_,rfl,?_,rfl⟩
    have h1:l.any (fun x=>!cu x)=true:=by
     rw [List.any_eq_true]
     exact⟨x,List.mem_of_getElem? HX.out,by rw [hb];rfl⟩
    rw [h1]
    exact decide_eq_true (by omega)
  ·obtain rfl:i=l.length:=by omega
   have hi1:¬((l.length:Int)<(l.length:Int)):=by omega
   go_wp2_with fail
   go_ret
   refine⟨_,rfl,?_,rfl⟩
   have h1:l.any (fun x=>!cu x)=false:=by
    rw [List.any_eq_false]
    intro y hy
    have:=HA.out y (by rw [List.take_length];exact hy)
    rw [this]
    simp
   rw [h1]
   rfl
end
section
open Go.RowKit Go.MuLone
def kT (w:World):Prop:=∃m,w.cell? ⟨0,0,none⟩=some (.int .i64 m)
theorem kT.still {w w':World} (h:kT w) (ho:Only (fun _=>False) w w'):kT w':=by
 obtain⟨m,hm⟩:=h
 exact⟨m,(ho.cell (p:=⟨0,0,none⟩) (lt_of_cell hm) id).trans hm⟩
theorem kT.only {w w':World} {F:Nat→Prop} (h:kT w) (ho:Only F w w') (hF:¬F 0):kT w':=by
 obtain⟨m,hm⟩:=h
 exact⟨m,(ho.cell (p:=⟨0,0,none⟩) (lt_of_cell hm) hF).trans hm⟩
theorem JH (w:World) (s:Bytes) (hs:s.length≤4294967280):Calls Tryz.prog 40 #[str s] w fun e w'=>e=.returned (str s)∧Only (fun _=>False) w w':=by
 have HC:Hid (Calls Tryz.prog 114 #[str s] w fun e w'=>e=.returned (str s)∧Only (fun _=>False) w w'):=Lib.hid ((stringslite_Clone ⟨s.toArray⟩ w (by show s.toArray.size≤_;simp;omega)).mono (by
  rintro e w' ⟨he,hb⟩
  exact⟨he,Only.of_below hb⟩))
 go_enter Tryz.func40,Tryz.ntmps40
 go_wp2_with fail
 (with_reducible refine HC.out.mono ?_)
 rintro e w2 ⟨rfl,o2⟩
 have HO:=Lib.hid o2
 clear o2
 go_wp2_with fail
 go_ret
 exact⟨rfl,HO.out⟩
theorem CJ (w:World) (g:Nat) (l:List Bytes) (hl:lF w g l) (hn:l.length≤1000000) (hs:∀x∈l,x.length≤maxLen) :
 Calls Tryz.prog 41 #[.slice (some ⟨g,0,none⟩) l.length l.length,.func (.func 42) #[] #[]] w fun e w'=>e=.returned (.bool (l.any (fun x=>!cu x)))∧w=w':=by
 have HI:=Lib.hid (JG w g l hl hn hs)
 go_enter Tryz.func41,Tryz.ntmps41
 go_wp2_with fail
 (with_reducible refine HI.out.mono ?_)
 rintro e _ ⟨r,rfl,hr,rfl⟩
 have HR:=Lib.hid hr
 clear hr HI
 go_wp2_with fail
 go_ret
 rw [←HR.out]
 exact⟨rfl,rfl⟩
def sN (s:Bytes):Bool:=decide ((bQ s).length≤4) && !(bQ s).any (fun x=>!cu x)
theorem lG:∀(s x:Bytes),x∈bQ s→x.length≤s.length
 | [],x,h=>by simp [bQ] at h;subst h;simp
 | c :: r,x,h=>by
  unfold bQ at h
  split at h
  ·rcases List.mem_cons.1 h with rfl | h
   ·simp
   ·have:=lG r x h;simp;omega
  ·split at h
   ·rename_i p ps hp
    rcases List.mem_cons.1 h with rfl | h
    ·have:=lG r p (by rw [hp];simp);simp;omega
    ·have:=lG r x (by rw [hp];simp [h]);simp;omega
   ·simp at h;subst h;simp
theorem vZ (s:Bytes):(bQ s).length≤s.length+1:=by
 induction s with
 | nil=>simp [bQ]
 | cons c r ih=>
  unfold bQ
  split
  ·simp;omega
  ·split
   ·rename_i p ps hp
    rw [hp] at ih
    simp at ih ⊢
    omega
   ·simp
def tZ (w:World) (s:Bytes):Ending→World→Prop:=fun e w'=>
 if sN s then ∃g,e=.returned (.tuple #[.slice (some ⟨g,0,none⟩) (bQ s).length (bQ s).length,.int .i64 0])∧lF w' g (bQ s)∧w.heap.size≤g∧Only (fun _=>False) w w'
 else e=.returned (.tuple #[.slice none 0 0,.int .i64 1])∧Only (fun _=>False) w w'
theorem Gd (w:World) (s:Bytes) (hs:s≠[]) (hs2:s.length<1000000) (hm:kT w):Calls Tryz.prog 9 #[str s] w (tZ w s):=by
 have hml:maxLen=9223372036854775807:=by decide
 have HC:=Lib.hid (JH w s (by omega))
 have HS:Hid (∀W,Only (fun _=>False) w W→Calls Tryz.prog 39 #[str s,.string ⟨#[47]⟩] W fun e w'=>e=.returned (.slice (some ⟨W.heap.size,0,none⟩) (bQ s).length (bQ s).length)∧w'=W.alloc (.cells ((bQ s).map str).toArray 9)):=Lib.hid (fun W hW=>by
  obtain⟨m,hm2⟩:=hm.still hW
  refine(strings_Split ⟨s.toArray⟩ ⟨#[47]⟩ m W (by show s.toArray.size<_;simp;omega) hm2 (by decide)).mono ?_
  rintro e w' ⟨rfl,rfl⟩
  rw [CG]
  have h2:Lib.countB ⟨s.toArray⟩ ⟨#[47]⟩+1=(bQ s).length:=CF s
  rw [h2]
  exact⟨rfl,rfl⟩)
 have TV:Hid (∀W g,lF W g (bQ s)→Calls Tryz.prog 41 #[.slice (some ⟨g,0,none⟩) (bQ s).length (bQ s).length,.func (.func 42) #[] #[]] W fun e w'=>e=.returned (.bool ((bQ s).any (fun x=>!cu x)))∧W=w'):=Lib.hid (fun W g h=>CJ W g (bQ s) h (by have:=vZ s;omega) (fun x hx=>by have:=lG s x hx;omega))
 have hne:((⟨s.toArray⟩:ByteArray)=⟨#[]⟩)=False:=eq_false (fun q=>hs (by
  have:=congrArg (fun b:ByteArray=>b.data.toList) q
  simpa using this))
 have hsi:s.isEmpty=false:=by cases s with | nil=>exact absurd rfl hs | cons c r=>rfl
 clear hm
 unfold tZ sN
 generalize hpl:(bQ s).length=n at *
 generalize hb:(bQ s).any (fun x=>!cu x)=b at *
 generalize hnn:decide (n≤4)=nn at *
 go_enter Tryz.func9,Tryz.ntmps9
 go_wp2_with fail
 (with_reducible refine HC.out.mono ?_)
 rintro e w2 ⟨rfl,o2⟩
 have HS2:=Lib.hid (HS.out w2 o2)
 have sO:=Lib.hid o2
 clear o2 HC HS
 go_wp2_with fail
 (with_reducible refine HS2.out.mono ?_)
 rintro e w3 ⟨rfl,hw3⟩
 have hrow:lF w3 w2.heap.size (bQ s):=by rw [hw3];exact dw w2 _
 have ho3:Only (fun _=>False) w w3:=by rw [hw3];exact sO.out.alloc _
 have HR:=Lib.hid hrow
 have kU:=Lib.hid ho3
 have hg:=sO.out.size
 clear hw3 hrow ho3 HS2 sO
 by_cases hn:n≤4
 ·have hn1:¬((n:Int) > 4):=by omega
  have hn2:decide ((n:Int) > 4)=false:=decide_eq_false hn1
  obtain rfl:true=nn:=by rw [←hnn];exact(decide_eq_true hn).symm
  have Tp:=Lib.hid (TV.out w3 _ HR.out)
  clear TV hnn
  go_wp2_with fail
  (with_reducible refine Tp.out.mono ?_)
  rintro e _ ⟨rfl,rfl⟩
  cases b with
  | true=>
   go_wp2_with fail
   go_ret2
   exact⟨rfl,kU.out⟩
  | false=>
   go_wp2_with fail
   go_ret2
   exact⟨_,rfl,HR.out,hg,kU.out⟩
 ·have hn1:(n:Int) > 4:=by omega
  have hn2:decide ((n:Int) > 4)=true:=decide_eq_true hn1
  obtain rfl:false=nn:=by rw [←hnn];exact(decide_eq_false hn).symm
  clear TV hnn
  go_wp2_with fail
  go_ret2
  exact⟨rfl,kU.out⟩
end
section
open Go.RowKit
theorem lD {H:Type} {enc:TypeId×Value→H} {a:Assume} {C:Checked} {os:Os} {f:FuncId} {fn:Func} {s:ChangeSpec} {conds:List PathCond} {apart fresh handsOn again:Bool} {X:World→Array Value→Prop}
 (hX:∀(w w':World) (args:Array Value),w.heap=w'.heap→X w args→X w' args)
 (own:ownKnob C.prog.godebug=none) (started:os.Started) (noInit:C.prog.inits.idxOf? f=none) (hfn:C.prog.funcs[f]? = some fn)
 (witness:∃(w:World) (tape:Tape) (i:Input),w.os=os∧(w.forCall tape i).Shaped C.prog∧i.vars=[]∧Input.okWide C.prog (w.forCall tape i) .any w.heap.size f i∧
  ((s.pre enc C.prog fn conds apart (w.forCall tape i).memory i.args∧X (w.forCall tape i).memory i.args)∧sizedMet enc C.prog fn (OpenSpec.ofChange s) apart (w.forCall tape i).memory i.args)∧a.holds C.prog (lone (Frame.enter C.prog f i.args .normal) [] (w.forCall tape i)))
 (contract:∀(W:World) (base:Nat) (args:Array Value) (ds gs:List (DataW H)) (before:List MemPlace),
  (∀(j:Nat) t v,fn.params[j]? = some t→args[j]? = some v→Value.okWide C.prog W .any base t v)→
  DataW.Whole enc C.prog fn.params.toList s.vars apart W args.toList ds gs before→
  conds.all (PathCond.test C.prog ⟨fn.params.toList,ds,s.plain.varTypes C.prog,gs⟩)=true→
  (DataW.weightsEach C.prog (fn.params.toList++s.plain.varTypes C.prog) (ds++gs)).all (·≤reachBytes)=true→X W args→W.ShapedOpen C.prog→
  a.holds C.prog (lone (Frame.enter C.prog f args .normal) [] W)→
  Calls C.prog f args W fun e W'=>∃v,e=.returned v∧s.post enc C.prog fn apart fresh handsOn again W args v W') :
 ReturnsInHanded a C os f .any (fun w args=>(s.pre enc C.prog fn conds apart w args∧X w args)∧sizedMet enc C.prog fn (OpenSpec.ofChange s) apart w args) (s.post enc C.prog fn apart fresh handsOn again):=by
 refine returnsInHanded_of_calls own started noInit witness ?_
 intro w tape i _ hsh _ hok hpre hholds
 obtain⟨_,_,_,fn',hfn',_,_,_,_,hval⟩:=hok
 have e:fn'=fn:=Option.some.inj (hfn'.symm.trans hfn)
 subst e
 obtain⟨⟨⟨ds,gs,before,hw,hc⟩,hx⟩,hz⟩:=hpre
 have hw':=DataW.Whole.of_heap (w':=w.forCall tape i) (by rfl) hw
 refine(contract (w.forCall tape i) w.heap.size i.args ds gs before hval hw' hc (hz.weights hw) (hX _ _ _ (by rfl) hx) hsh hholds).mono fun e W' ⟨v,he,hp⟩=>?_
 subst he
 exact ChangeSpec.post_blind hp
theorem JD {W:World} (h:W.ShapedOpen Tryz.prog):kT W:=
 cell_of_shapedOpen_int (g:=0) (t:=3) (zero:=#[.int .i64 0]) h (of_decide_eq_true (by kernel_rfl)) (by kernel_rfl) rfl (by kernel_rfl) (by kernel_rfl) Tryz.underlying3
end
end Go.Proofs.YtbhiamcmiopnoaaGreatDoor
