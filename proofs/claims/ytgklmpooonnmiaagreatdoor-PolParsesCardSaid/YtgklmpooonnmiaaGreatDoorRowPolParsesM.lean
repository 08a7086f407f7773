/-
  For every text the policy that pol.Parse reads, or what it says is wrong and where, is the answer of the document (the law PolParses): no conditions beyond those of the given statement.
-/
import Derived.Test.YtgklmpooonnmiaaGreatDoorRows
import Derived.Test.YtgklmpooonnmiaaGreatDoorTie
import Derived.Test.YtgklmpooonnmiaaGreatDoorCards
import Derived.Test.YtgklmpooonnmiaaGreatDoorK36
import Derived.WalkKit
import Derived.ProofKit
import Derived.OpenShut
import Derived.ShutString
import Derived.LaidMore
import Derived.Carry
import Derived.Stop.Joined
import Derived.SevenTiedAt
namespace Go.Proofs.YtgklmpooonnmiaaGreatDoor.polParses
open Go.ChangeShapes Go.WideShapes Go.ChangeAt Go.RowKit
open Go.ChangeMaps (open_string shut_string)
set_option linter.unusedVariables false
theorem door_met (os:Os) (args:Array Value):laidMetH Tryz.prog [("errors.errorType", Rows.laid_errors_errorType),("warrant/utf.least", Rows.laid_warrant_utf_least)] ((World.doorLaid Tryz.prog 400 os).forCall (fun _ _=>0) ⟨#[],args,[]⟩).memory :=
 laidMetH_of_parts3 (fuel:=8) (laidMet_of_run' 8 (by kernel_rfl) (by kernel_rfl)) (by kernel_rfl) (by kernel_rfl)
set_option maxHeartbeats 4000000 in
set_option maxRecDepth 100000 in
theorem lifted (os:Os) (started:os.Started) (H:Type) (enc:TypeId × Value → H) :
  ReturnsInHanded {} Tryz.checked os 3 .any (fun w args=>(Rows.polParsesSpec.pre enc Tryz.prog Tryz.f3 [] false w args ∧ laidMetH Tryz.prog [("errors.errorType", Rows.laid_errors_errorType),("warrant/utf.least", Rows.laid_warrant_utf_least)] w) ∧ sizedMet enc Tryz.prog Tryz.f3 (OpenSpec.ofChange Rows.polParsesSpec) false w args)
   (Rows.polParsesSpec.post enc Tryz.prog Tryz.f3 false true false false):=by
 refine returnsInHanded_of_change_and (C:=Tryz.checked) (X:=fun w _=>laidMetH Tryz.prog [("errors.errorType", Rows.laid_errors_errorType),("warrant/utf.least", Rows.laid_warrant_utf_least)] w) (fun _ _ _ hh h=>h.of_heap hh) own started (by kernel_rfl) Tryz.func3
  (ChangeSpec.witness_shaped (enc:=enc) (C:=Tryz.checked) (os:=os) (X:=fun w _=>laidMetH Tryz.prog [("errors.errorType", Rows.laid_errors_errorType),("warrant/utf.least", Rows.laid_warrant_utf_least)] w) false (World.doorLaid Tryz.prog 400 os) #[.string ByteArray.empty] 8 rfl (World.shaped_of_RefB (by kernel_rfl) (by kernel_rfl)) (by kernel_rfl) (by kernel_rfl) (by kernel_rfl) (door_met os _)) ?_
 intro W base args ds gs before hval0 hW _ _ hL _
 have hval:∀ (j:Nat) t v,Tryz.f3.params[j]?=some t → args[j]?=some v → Value.okWide Tryz.prog W .any base t v:=hval0
 have hlt:∀ x ∈ before,x.block < W.heap.size:=fun x hx=>hW.lt x hx
 have hW':=hW
 obtain ⟨p,q,hA0,hV,rfl,hfz,hnd⟩:=hW
 have hA:DataW.TrodAll enc Tryz.prog W 0 (fun _=>true) true Tryz.f3.params.toList args.toList ds p:=hA0
 rw [Tryz.params3] at hA hval
 have hAk:=hA
 obtain ⟨v0,d0,rfl,rfl,h0⟩:=trodAll_one hA
 obtain ⟨rfl,rfl⟩:=trodVars_none hV
 have o0:=hval 0 9 v0 rfl rfl
 obtain ⟨s,rfl,rfl,rfl,ws⟩:=open_string Tryz.underlying9 o0 h0
 obtain ⟨g1,g2,g3⟩:=laid2_parts hL
 clear hA0 hval0 hval
 refine (parses_law W s ws g1 g2 g3).mono fun e W' ⟨he,hF⟩=>?_
 subst he
 exact ⟨_,rfl,_,_,_,[],_,[],hW',(trodAll_cons_mk (shut_bool Tryz.underlying4 _) trodAll_mk0),trodAll_kept laidOut hF.below _ (by kernel_rfl) hAk (fun x hx=>hlt x (by first | (simp at hx;done) | simpa using hx)),rfl,hF.below.frame _,fun h=>by cases h⟩
theorem over:Rows.PolParsesSaid :=
 OpenClaim.holds_of_wide 3 Tryz.f3 rfl rfl rfl rfl rfl rfl rfl ⟨rfl,rfl,rfl,rfl,rfl⟩ rfl rfl rfl rfl rfl (by kernel_rfl) Tryz.func3 (by kernel_rfl)
  (of_decide_eq_true (by kernel_rfl)) (by unfold Func.isWrapper;first | (rw [if_pos (by decide +kernel)];kernel_rfl) | (rw [if_neg (by decide +kernel)];exact ⟨rfl,rfl⟩))
  (fun os started H enc _=>lifted os started H enc)
theorem proved:Rows.PolParsesCardSaid :=
 Claim7.holds_tied_plain_at .later [] [.handle,.data] true (true, "f86795989425d06f0b6630f2068dc8aaaa877d8ff745a68a2628e50f0479da04") true
  over (fun _ h=>by cases h) (by kernel_rfl) (fun _ h=>by cases h) polParses_row_tie rfl ⟨rfl,rfl⟩ (by kernel_rfl) rfl
  (fun f fn hf hfn=>by
   obtain rfl:f=3:=Option.some.inj ((show Tryz.prog.funcNamed "warrant/warrantlaw12.PolParses" = some 3 by kernel_rfl).symm.trans hf) |>.symm
   obtain rfl:fn=Tryz.f3:=(Option.some.inj (Tryz.func3.symm.trans hfn)).symm
   exact ⟨by kernel_rfl,fun j t ht=>by
    rw [Tryz.params3] at ht
    have hm:t ∈ [9]:=by simpa using Array.mem_of_getElem? ht
    have hall:([9].all fun u=>!Tryz.prog.wantsStandIn u)=true:=by kernel_rfl
    exact (show Tryz.prog.wantsStandIn t=false by simpa using List.all_eq_true.1 hall t hm)⟩)
  (by kernel_rfl)
#print axioms proved
end Go.Proofs.YtgklmpooonnmiaaGreatDoor.polParses
