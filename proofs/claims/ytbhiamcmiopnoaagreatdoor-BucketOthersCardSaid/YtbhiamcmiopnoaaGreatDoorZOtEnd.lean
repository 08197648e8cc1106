/- The statement BucketOthers (its tied card): whatever the input, the law returns true and its arguments read as they did. Conditions: none but the statement's own. The walk is in the text that is imported. -/
import Derived.Test.YtbhiamcmiopnoaaGreatDoorZOtA
import Derived.Test.YtbhiamcmiopnoaaGreatDoorCards
import Derived.Test.YtbhiamcmiopnoaaGreatDoorTie
import Derived.ProofKit
import Derived.OpenShut
import Derived.Carry
import Derived.Lay
import Derived.Lib.LaidTab
import Derived.SevenTiedAt
import Derived.Stop.LaidErr
import Derived.Test.YtbhiamcmiopnoaaGreatDoorZPathX
set_option maxRecDepth 100000
namespace Go.Proofs.YtbhiamcmiopnoaaGreatDoor.bucketOthers
open Go.ChangeShapes Go.WideShapes Go.ChangeAt Go.RowKit
open Go.ChangeMaps (open_string shut_string)
set_option linter.unusedVariables false
theorem own:ownKnob Tryz.prog.godebug=none:=by kernel_rfl
theorem laidOut:laidOutB Tryz.prog=true:=by kernel_rfl
theorem lifted (os:Os) (started:os.Started) (H:Type) (enc:TypeId×Value→H) :
 ReturnsInHanded {} Tryz.checked os 6 .any (fun w args=>(Rows.bucketOthersSpec.pre enc Tryz.prog Tryz.f6 [] false w args∧laidMetH Tryz.prog Rows.bucketOthersRow.laid w)∧sizedMet enc Tryz.prog Tryz.f6 (OpenSpec.ofChange Rows.bucketOthersSpec) false w args)
  (Rows.bucketOthersSpec.post enc Tryz.prog Tryz.f6 false true false false):=by
 refine lD (C:=Tryz.checked) (X:=fun w _=>laidMetH Tryz.prog Rows.bucketOthersRow.laid w) (fun _ _ _ hh h=>h.of_heap hh) own started (by kernel_rfl) Tryz.func6
  (ChangeSpec.witness_shaped (enc:=enc) (C:=Tryz.checked) (os:=os) (X:=fun w _=>laidMetH Tryz.prog Rows.bucketOthersRow.laid w) false (World.laidAll Tryz.prog os Rows.bucketOthersRow.laid) #[.slice none 0 0,.string ⟨#[]⟩,.string ⟨#[]⟩] 8 (World.laidAll_os _ _ _)
   (World.shaped_of_ZipB (by kernel_rfl) (by kernel_rfl)) (by kernel_rfl) (by kernel_rfl) (by kernel_rfl)
   (by rw [MakeChecks.laidMetH_plain _ _ _ (by kernel_rfl)];exact laidMet_laidAll _ (by kernel_rfl) (by kernel_rfl))) ?_
 intro W base args ds gs before hval0 hW hcnd _ hL hsh _
 have hval:∀(j:Nat) t v,Tryz.f6.params[j]? = some t→args[j]? = some v→Value.okWide Tryz.prog W .any base t v:=hval0
 have hW':=hW
 obtain⟨p,q,Qy,hV,rfl,hfz,hnd⟩:=hW
 have hA:DataW.TrodAll enc Tryz.prog W 0 (fun _=>true) true Tryz.f6.params.toList args.toList ds p:=Qy
 rw [Tryz.params6] at hA hval
 obtain⟨v0,Xd,d0,ds0,p0,q0,hargs,rfl,rfl,h0,r0⟩:=trodAll_cons hA
 obtain⟨v1,vs1,d1,ds1,p1,q1,rfl,rfl,rfl,h1,r1⟩:=trodAll_cons r0
 obtain⟨v2,vs2,d2,Yu,p2,q2,rfl,rfl,rfl,h2,r2⟩:=trodAll_cons r1
 obtain⟨rfl,rfl,rfl⟩:=trodAll_nil r2
 obtain rfl:args=#[v0,v1,v2]:=by cases args;simp_all
 obtain⟨rfl,rfl⟩:=trodVars_none hV
 have k0:=h0
 have TU:∀x∈p0,x.block<W.heap.size:=by obtain⟨m,hm⟩:=k0;exact DataW.trod_lt m _ _ _ hm
 obtain⟨a0,EH,cap0,rfl⟩:=okWide_slice Tryz.underlying50 (hval 0 50 v0 rfl rfl)
 obtain⟨z0,w0⟩:∃z,Cy W (.slice a0 EH cap0) z:=by
  obtain⟨m0,hm0⟩:=h0
  exact JC (hval 0 50 (.slice a0 EH cap0) rfl rfl) hm0
 have k1:=h1
 have Xe:∀x∈p1,x.block<W.heap.size:=by obtain⟨m,hm⟩:=k1;exact DataW.trod_lt m _ _ _ hm
 obtain⟨a1,e1,_,_,w1⟩:=open_string Tryz.underlying9 (hval 1 9 v1 rfl rfl) h1
 subst e1
 have k2:=h2
 have Xf:∀x∈p2,x.block<W.heap.size:=by obtain⟨m,hm⟩:=k2;exact DataW.trod_lt m _ _ _ hm
 obtain⟨a2,e2,_,_,w2⟩:=open_string Tryz.underlying9 (hval 2 9 v2 rfl rfl) h2
 subst e2
 clear Qy hval0
 rw [MakeChecks.laidMetH_plain _ _ _ (by kernel_rfl)] at hL
 refine(walk a0 EH cap0 z0 a1 a2 W (JD hsh) w0 w1 w2).mono fun e W' ⟨he,O6⟩=>?_
 subst he
 exact⟨_,rfl,_,_,_,[],p0++(p1++(p2++[])),[],hW',trodAll_mk1 (shut_bool Tryz.underlying4 _),(trodAll_cons_mk (Below.trod laidOut (by kernel_rfl) (of_decide_eq_true (by kernel_rfl)) k0 O6 TU) (trodAll_cons_mk (Below.trod laidOut (by kernel_rfl) (of_decide_eq_true (by kernel_rfl)) k1 O6 Xe) (trodAll_cons_mk (Below.trod laidOut (by kernel_rfl) (of_decide_eq_true (by kernel_rfl)) k2 O6 Xf) trodAll_mk0))),rfl,O6.frame _,fun h=>by cases h⟩
theorem over:Rows.BucketOthersSaid:=
 OpenClaim.holds_of_wide 6 Tryz.f6 rfl rfl rfl rfl rfl rfl rfl ⟨rfl,rfl,rfl,rfl,rfl⟩ rfl rfl rfl rfl rfl (by kernel_rfl) Tryz.func6 (by kernel_rfl)
  (of_decide_eq_true (by kernel_rfl)) (by unfold Func.isWrapper;first |(rw [if_pos (by decide +kernel)];kernel_rfl) |(rw [if_neg (by decide +kernel)];exact⟨rfl,rfl⟩))
  (fun os started H enc _=>lifted os started H enc)
theorem proved:Rows.BucketOthersCardSaid:=
 Claim7.holds_tied_plain_at .later [] [.data, .pinned] true (true, "03bbe051a251d29b92b37ff09bbc20f34e518b86d95078b479c71e11bcbd9ba5") false over (fun _ h => by cases h) (by kernel_rfl) (fun _ h => by cases h) bucketOthers_row_tie rfl ⟨rfl, rfl⟩ (by kernel_rfl) rfl
  (fun f fn hf hfn=>by
   obtain rfl : f = 6 := Option.some.inj ((show Tryz.prog.funcNamed "rootstock/rootstocklaw14.BucketOthers" = some 6 by kernel_rfl).symm.trans hf) |>.symm
   obtain rfl:fn=Tryz.f6:=(Option.some.inj (Tryz.func6.symm.trans hfn)).symm
   exact⟨by kernel_rfl,fun j t ht=>by
    rw [Tryz.params6] at ht
    have hm:t∈[50,9,9]:=by simpa using Array.mem_of_getElem? ht
    have hall:([50,9,9].all fun u=>!Tryz.prog.wantsStandIn u)=true:=by kernel_rfl
    exact(show Tryz.prog.wantsStandIn t=false by simpa using List.all_eq_true.1 hall t hm)⟩)
  (by kernel_rfl)
#print axioms proved
end Go.Proofs.YtbhiamcmiopnoaaGreatDoor.bucketOthers
