/- The statement BucketDrops (its tied card): whatever the input, the law returns true and its arguments read as they did. Conditions: none but the statement's own. The walk is in the text that is imported. -/
import Derived.Test.YtbhiamcmiopnoaaGreatDoorZDrA
import Derived.Test.YtbhiamcmiopnoaaGreatDoorCards
import Derived.Test.YtbhiamcmiopnoaaGreatDoorTie
import Derived.ProofKit
import Derived.OpenShut
import Derived.Carry
import Derived.Lay
import Derived.Lib.LaidTab
import Derived.SevenTiedAt
import Derived.Stop.LaidErr
import Derived.Test.YtbhiamcmiopnoaaGreatDoorZPathX
set_option maxRecDepth 100000
namespace Go.Proofs.YtbhiamcmiopnoaaGreatDoor.bucketDrops
open Go.ChangeShapes Go.WideShapes Go.ChangeAt Go.RowKit
open Go.ChangeMaps (open_string shut_string)
set_option linter.unusedVariables false
theorem own:ownKnob Tryz.prog.godebug=none:=by kernel_rfl
theorem laidOut:laidOutB Tryz.prog=true:=by kernel_rfl
theorem lifted (os:Os) (started:os.Started) (H:Type) (enc:TypeId×Value→H) :
 ReturnsInHanded {} Tryz.checked os 5 .any (fun w args=>(Rows.bucketDropsSpec.pre enc Tryz.prog Tryz.f5 [] false w args∧laidMetH Tryz.prog Rows.bucketDropsRow.laid w)∧sizedMet enc Tryz.prog Tryz.f5 (OpenSpec.ofChange Rows.bucketDropsSpec) false w args)
  (Rows.bucketDropsSpec.post enc Tryz.prog Tryz.f5 false true false false):=by
 refine lD (C:=Tryz.checked) (X:=fun w _=>laidMetH Tryz.prog Rows.bucketDropsRow.laid w) (fun _ _ _ hh h=>h.of_heap hh) own started (by kernel_rfl) Tryz.func5
  (ChangeSpec.witness_shaped (enc:=enc) (C:=Tryz.checked) (os:=os) (X:=fun w _=>laidMetH Tryz.prog Rows.bucketDropsRow.laid w) false (World.laidAll Tryz.prog os Rows.bucketDropsRow.laid) #[.slice none 0 0] 8 (World.laidAll_os _ _ _)
   (World.shaped_of_ZipB (by kernel_rfl) (by kernel_rfl)) (by kernel_rfl) (by kernel_rfl) (by kernel_rfl)
   (by rw [MakeChecks.laidMetH_plain _ _ _ (by kernel_rfl)];exact laidMet_laidAll _ (by kernel_rfl) (by kernel_rfl))) ?_
 intro W base args ds gs before hval0 hW hcnd _ hL hsh _
 have hval:∀(j:Nat) t v,Tryz.f5.params[j]? = some t→args[j]? = some v→Value.okWide Tryz.prog W .any base t v:=hval0
 have hW':=hW
 obtain⟨p,q,Qy,hV,rfl,hfz,hnd⟩:=hW
 have hA:DataW.TrodAll enc Tryz.prog W 0 (fun _=>true) true Tryz.f5.params.toList args.toList ds p:=Qy
 rw [Tryz.params5] at hA hval
 obtain⟨v0,Xd,d0,ds0,p0,q0,hargs,rfl,rfl,h0,r0⟩:=trodAll_cons hA
 obtain⟨rfl,rfl,rfl⟩:=trodAll_nil r0
 obtain rfl:args=#[v0]:=by cases args;simp_all
 obtain⟨rfl,rfl⟩:=trodVars_none hV
 have k0:=h0
 have TU:∀x∈p0,x.block<W.heap.size:=by obtain⟨m,hm⟩:=k0;exact DataW.trod_lt m _ _ _ hm
 obtain⟨a0,EH,cap0,rfl⟩:=okWide_slice Tryz.underlying50 (hval 0 50 v0 rfl rfl)
 obtain⟨z0,w0⟩:∃z,Cy W (.slice a0 EH cap0) z:=by
  obtain⟨m0,hm0⟩:=h0
  exact JC (hval 0 50 (.slice a0 EH cap0) rfl rfl) hm0
 clear Qy hval0
 rw [MakeChecks.laidMetH_plain _ _ _ (by kernel_rfl)] at hL
 refine(walk a0 EH cap0 z0 W (JD hsh) w0).mono fun e W' ⟨he,O6⟩=>?_
 subst he
 exact⟨_,rfl,_,_,_,[],_,[],hW',trodAll_mk1 (shut_bool Tryz.underlying4 _),(trodAll_cons_mk (Below.trod laidOut (by kernel_rfl) (of_decide_eq_true (by kernel_rfl)) k0 O6 TU) trodAll_mk0),rfl,O6.frame _,fun h=>by cases h⟩
theorem over:Rows.BucketDropsSaid:=
 OpenClaim.holds_of_wide 5 Tryz.f5 rfl rfl rfl rfl rfl rfl rfl ⟨rfl,rfl,rfl,rfl,rfl⟩ rfl rfl rfl rfl rfl (by kernel_rfl) Tryz.func5 (by kernel_rfl)
  (of_decide_eq_true (by kernel_rfl)) (by unfold Func.isWrapper;first |(rw [if_pos (by decide +kernel)];kernel_rfl) |(rw [if_neg (by decide +kernel)];exact⟨rfl,rfl⟩))
  (fun os started H enc _=>lifted os started H enc)
theorem proved:Rows.BucketDropsCardSaid:=
 Claim7.holds_tied_plain_at .later [] [.data, .pinned] true (true, "03bbe051a251d29b92b37ff09bbc20f34e518b86d95078b479c71e11bcbd9ba5") false over (fun _ h => by cases h) (by kernel_rfl) (fun _ h => by cases h) bucketDrops_row_tie rfl ⟨rfl, rfl⟩ (by kernel_rfl) rfl
  (fun f fn hf hfn=>by
   obtain rfl : f = 5 := Option.some.inj ((show Tryz.prog.funcNamed "rootstock/rootstocklaw14.BucketDrops" = some 5 by kernel_rfl).symm.trans hf) |>.symm
   obtain rfl:fn=Tryz.f5:=(Option.some.inj (Tryz.func5.symm.trans hfn)).symm
   exact⟨by kernel_rfl,fun j t ht=>by
    rw [Tryz.params5] at ht
    have hm:t∈[50]:=by simpa using Array.mem_of_getElem? ht
    have hall:([50].all fun u=>!Tryz.prog.wantsStandIn u)=true:=by kernel_rfl
    exact(show Tryz.prog.wantsStandIn t=false by simpa using List.all_eq_true.1 hall t hm)⟩)
  (by kernel_rfl)
#print axioms proved
end Go.Proofs.YtbhiamcmiopnoaaGreatDoor.bucketDrops
