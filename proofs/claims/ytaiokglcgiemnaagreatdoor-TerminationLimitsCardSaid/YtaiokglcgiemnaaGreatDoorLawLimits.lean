/- The law TerminationLimits of the package relyguardlaw36: for every input that the given statement admits the law's function returns true, as its row and its tied card say. No condition beyond the given statement's own. -/
import Derived.Test.YtaiokglcgiemnaaGreatDoorTie
import Derived.Test.YtaiokglcgiemnaaGreatDoorCards
import Derived.Test.YtaiokglcgiemnaaGreatDoorEartAI
import Derived.Test.YtaiokglcgiemnaaGreatDoorEartAK
import Derived.Test.YtaiokglcgiemnaaGreatDoorEartAV
import Derived.Test.YtaiokglcgiemnaaGreatDoorEartAW
set_option linter.unusedVariables false
set_option linter.defProp false
set_option linter.unusedSimpArgs false
set_option maxRecDepth 100000
set_option maxHeartbeats 4000000
namespace Go.Proofs.YtaiokglcgiemnaaGreatDoor
open Go Rg Go.ChangeShapes Go.WideShapes Go.ChangeAt Go.WideMaps Go.WideElems Go.RowKit
namespace TerminationLimits
theorem kcj (os:Os) (started:os.Started) (H:Type) (enc:TypeId×Value->H):
 ReturnsInHanded {} Tryz.checked os 8 .any (fun w args=>(Rows.terminationLimitsSpec.pre enc Tryz.prog Tryz.f8 [] false w args/\laidMetH Tryz.prog rM w)/\sizedMet enc Tryz.prog Tryz.f8 (OpenSpec.ofChange Rows.terminationLimitsSpec) false w args)
  (Rows.terminationLimitsSpec.post enc Tryz.prog Tryz.f8 false true false false):=by
 refine returnsInHanded_of_change_and (C:=Tryz.checked) (X:=fun w _=>laidMetH Tryz.prog rM w) (fun _ _ _ S h=>h.of_heap S) own started (by kernel_rfl) Tryz.func8
  (ChangeSpec.witness_shaped (enc:=enc) (C:=Tryz.checked) (os:=os) (X:=fun w _=>laidMetH Tryz.prog rM w) false (World.doorLaid Tryz.prog 400 os)
    #[.agg #[.slice none 0 0,.slice none 0 0,.slice none 0 0,.slice none 0 0],.int .u8 0,.int .i64 0,.int .i64 0,.int .u8 0] 8 rfl
    (World.shaped_of_RefB (by kernel_rfl) (by kernel_rfl)) (by kernel_rfl) (by kernel_rfl) (by kernel_rfl) (Zq os _)) ?_
 intro W base args G gs before m k _ n P _;have e: ∀(j:Nat) t v,Tryz.f8.params[j]? =some t->args[j]? =some v->Value.okWide Tryz.prog W .any base t v:=m;have r:=k;obtain⟨p,q,o,Q,_,_,_⟩:=r;have a:DataW.TrodAll enc Tryz.prog W 0 (fun _=>true) true Tryz.f8.params.toList args.toList G p:=o;rw[Tryz.params8]at a e;obtain⟨args⟩:=args;obtain⟨v0,vs,A,es,p0,q0,rfl,rfl,K,a⟩:=Rg.trodAll_cons a;obtain⟨v1,vs,B,es,p1,q1,rfl,rfl,L,a⟩:=Rg.trodAll_cons a;obtain⟨v2,vs,D,es,p2,q2,rfl,rfl,M,a⟩:=Rg.trodAll_cons a;obtain⟨v3,vs,E,es,p3,q3,rfl,rfl,N,a⟩:=Rg.trodAll_cons a;obtain⟨v4,vs,F,es,p4,q4,rfl,rfl,O,a⟩:=Rg.trodAll_cons a;obtain⟨rfl,rfl⟩:=Rg.trodAll_nil a
 have d:(DataW.weightsEach Tryz.prog [27,5,3,3,5] [A,B,D,E,F]).all (· <=reachBytes)=true:=by
  obtain⟨rfl,rfl⟩:=trodVars_none Q;exact n
 obtain⟨w0,d⟩:=rj d;obtain⟨w1,d⟩:=rj d;obtain⟨w2,d⟩:=rj d;obtain⟨w3,d⟩:=rj d;obtain⟨w4,_⟩:=rj d;obtain⟨g,f,U⟩:=kce (μ:=fun _=>0) (HO:=fun _=>Option.none) (nm:=Seat.N.nm) lQ.prog (kbS lQ) (e 0 27 v0 rfl rfl) K w0;obtain⟨s,I,V⟩:=tX (μ:=fun _=>0) (HO:=fun _=>Option.none) (nm:=Seat.N.nm) lQ.u8 (S9 lQ) (e 1 5 v1 rfl rfl) L w1;obtain⟨u,_,Y⟩:=tX (μ:=fun _=>0) (HO:=fun _=>Option.none) (nm:=Seat.N.nm) lQ.int (fJ lQ) (e 2 3 v2 rfl rfl) M w2;obtain⟨y,_,Z⟩:=tX (μ:=fun _=>0) (HO:=fun _=>Option.none) (nm:=Seat.N.nm) lQ.int (fJ lQ) (e 3 3 v3 rfl rfl) N w3;obtain⟨z,J,r4⟩:=tX (μ:=fun _=>0) (HO:=fun _=>Option.none) (nm:=Seat.N.nm) lQ.u8 (S9 lQ) (e 4 5 v4 rfl rfl) O w4;have T:g.lite:=⟨f.lite.1,f.lite.2.1,f.lite.2.2.1,f.lite.2.2.2⟩
 have R:=kar (Vw X1 g T s I u y z J);refine Xv (fn:=Tryz.f8) (tb:=4) R (by kernel_rfl) (kag P) ?_ kb1 ?_ ?_ (by kernel_rfl) rfl k ?_
 ·refine WN rfl fun i x v c b=> ?_
  match i,c,b with
  | 0,c,b=>cases c;cases b;exact U
  | 1,c,b=>cases c;cases b;exact V
  | 2,c,b=>cases c;cases b;exact Y
  | 3,c,b=>cases c;cases b;exact Z
  | 4,c,b=>cases c;cases b;exact r4
 ·rw[Tryz.params8];intro t l;simp only[cq,ka,dQ]at l;rcases l with rfl | rfl | rfl | rfl | rfl<;>exact⟨by kernel_rfl,pW (by kernel_rfl)⟩
 ·rfl
 ·rintro rfl;rfl
end TerminationLimits
open TerminationLimits
theorem Vn:Rows.TerminationLimitsSaid:=
 OpenClaim.holds_of_wide 8 Tryz.f8 rfl rfl rfl rfl rfl rfl rfl ⟨rfl,rfl,rfl,rfl,rfl⟩ rfl rfl rfl rfl rfl (by as_aux_lemma=>kernel_rfl) Tryz.func8 (by unfold joinedFacts;(repeat' with_reducible refine Vj ?_ ?_)<;>as_aux_lemma=>kernel_rfl)
  (pW (by as_aux_lemma=>kernel_rfl)) (by as_aux_lemma=>unfold Func.isWrapper;first | (rw[ah (by decide+kernel)];kernel_rfl) | (rw[ac (by decide+kernel)];exact⟨rfl,rfl⟩))
  (fun os started H enc _=>kcj os started H enc)
theorem terminationLimits_card:Rows.TerminationLimitsCardSaid:=
 Claim7.holds_tied_plain_at .later [] [.data,.data,.data,.data] true Rows.terminationLimitsCard.stood.harness false
  Vn (fun _ h=>by cases h) (by kernel_rfl) (fun _ h=>by cases h) terminationLimits_row_tie rfl ⟨rfl,rfl⟩ (by kernel_rfl) rfl
  (fun f fn d c=>by
    obtain rfl:f=8:=o6 ((show Tryz.prog.funcNamed Rows.terminationLimitsRow.func=some 8 by kernel_rfl).symm.trans d) |>.symm;obtain rfl:fn=Tryz.f8:=(o6 (Tryz.func8.symm.trans c)).symm
    exact⟨by kernel_rfl,fun j t a=>by
     rw[Tryz.params8]at a;have e:t∈[27,5,3,3,5]:=by simpa using Array.mem_of_getElem? a
     have b:([27,5,3,3,5].all fun u=> !Tryz.prog.wantsStandIn u)=true:=by kernel_rfl
     exact(show Tryz.prog.wantsStandIn t=false by simpa using zN.1 b t e)⟩)
  (by kernel_rfl)
#print axioms terminationLimits_card
end Go.Proofs.YtaiokglcgiemnaaGreatDoor
