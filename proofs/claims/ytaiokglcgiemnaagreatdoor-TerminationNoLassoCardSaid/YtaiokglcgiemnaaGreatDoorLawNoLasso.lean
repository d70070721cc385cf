/- The law TerminationNoLasso of the package relyguardlaw36: for every input that the given statement admits the law's function returns true, as its row and its tied card say. No condition beyond the given statement's own. -/
import Derived.Test.YtaiokglcgiemnaaGreatDoorTie
import Derived.Test.YtaiokglcgiemnaaGreatDoorCards
import Derived.Test.YtaiokglcgiemnaaGreatDoorGartAI
import Derived.Test.YtaiokglcgiemnaaGreatDoorGartAK
import Derived.Test.YtaiokglcgiemnaaGreatDoorGartAV
import Derived.Test.YtaiokglcgiemnaaGreatDoorGartAW
set_option linter.unusedVariables false
set_option linter.defProp false
set_option linter.unusedSimpArgs false
set_option maxRecDepth 100000
set_option maxHeartbeats 4000000
namespace Go.Proofs.YtaiokglcgiemnaaGreatDoor
open Go Rg Go.ChangeShapes Go.WideShapes Go.ChangeAt Go.WideMaps Go.WideElems Go.RowKit
namespace TerminationNoLasso
theorem kcF (os:Os) (started:os.Started) (H:Type) (enc:TypeId×Value->H):
 ReturnsInHanded {} Tryz.checked os 7 .any (fun w args=>(Rows.terminationNoLassoSpec.pre enc Tryz.prog Tryz.f7 [] false w args/\laidMetH Tryz.prog rQ w)/\sizedMet enc Tryz.prog Tryz.f7 (OpenSpec.ofChange Rows.terminationNoLassoSpec) false w args)
  (Rows.terminationNoLassoSpec.post enc Tryz.prog Tryz.f7 false true false false):=by
 refine returnsInHanded_of_change_and (C:=Tryz.checked) (X:=fun w _=>laidMetH Tryz.prog rQ w) (fun _ _ _ O h=>h.of_heap O) own started (by kernel_rfl) Tryz.func7
  (ChangeSpec.witness_shaped (enc:=enc) (C:=Tryz.checked) (os:=os) (X:=fun w _=>laidMetH Tryz.prog rQ w) false (World.doorLaid Tryz.prog 400 os)
    #[.agg #[.slice none 0 0,.slice none 0 0,.slice none 0 0,.slice none 0 0],.int .u8 0,.int .i64 0,.int .i64 0] 8 rfl
    (World.shaped_of_RefB (by kernel_rfl) (by kernel_rfl)) (by kernel_rfl) (by kernel_rfl) (by kernel_rfl) (ZP os _)) ?_
 intro W base args E gs before m k _ n L _;have e: ∀(j:Nat) t v,Tryz.f7.params[j]? =some t->args[j]? =some v->Value.okWide Tryz.prog W .any base t v:=m;have r:=k;obtain⟨p,q,o,M,_,_,_⟩:=r;have a:DataW.TrodAll enc Tryz.prog W 0 (fun _=>true) true Tryz.f7.params.toList args.toList E p:=o;rw[Tryz.params7]at a e;obtain⟨args⟩:=args;obtain⟨v0,vs,z,es,p0,q0,rfl,rfl,G,a⟩:=Rg.trodAll_cons a;obtain⟨U,vs,A,es,p1,q1,rfl,rfl,I,a⟩:=Rg.trodAll_cons a;obtain⟨V,vs,B,es,p2,q2,rfl,rfl,J,a⟩:=Rg.trodAll_cons a;obtain⟨Y,vs,D,es,p3,q3,rfl,rfl,K,a⟩:=Rg.trodAll_cons a;obtain⟨rfl,rfl⟩:=Rg.trodAll_nil a
 have d:(DataW.weightsEach Tryz.prog [27,5,3,3] [z,A,B,D]).all (· <=reachBytes)=true:=by
  obtain⟨rfl,rfl⟩:=trodVars_none M;exact n
 obtain⟨Z,d⟩:=vn d;obtain⟨w1,d⟩:=vn d;obtain⟨w2,d⟩:=vn d;obtain⟨w3,_⟩:=vn d;obtain⟨g,f,Q⟩:=kcA (μ:=fun _=>0) (HO:=fun _=>Option.none) (nm:=Seat.N.nm) nO.prog (kcf nO) (e 0 27 v0 rfl rfl) G Z;obtain⟨s,F,R⟩:=zu (μ:=fun _=>0) (HO:=fun _=>Option.none) (nm:=Seat.N.nm) nO.u8 (kdc nO) (e 1 5 U rfl rfl) I w1;obtain⟨u,_,S⟩:=zu (μ:=fun _=>0) (HO:=fun _=>Option.none) (nm:=Seat.N.nm) nO.int (fO nO) (e 2 3 V rfl rfl) J w2;obtain⟨y,_,T⟩:=zu (μ:=fun _=>0) (HO:=fun _=>Option.none) (nm:=Seat.N.nm) nO.int (fO nO) (e 3 3 Y rfl rfl) K w3;have P:g.lite:=⟨f.lite.1,f.lite.2.1,f.lite.2.2.1,f.lite.2.2.2⟩
 have N:=kaP (TE Ys g P s F u y);refine XY (fn:=Tryz.f7) (tb:=4) N (by kernel_rfl) (kaE L) ?_ kcn ?_ ?_ (by kernel_rfl) rfl k ?_
 ·refine Xk rfl fun i x v c b=> ?_
  match i,c,b with
  | 0,c,b=>cases c;cases b;exact Q
  | 1,c,b=>cases c;cases b;exact R
  | 2,c,b=>cases c;cases b;exact S
  | 3,c,b=>cases c;cases b;exact T
 ·rw[Tryz.params7];intro t l;simp only[cj,ki,dU]at l;rcases l with rfl | rfl | rfl | rfl<;>exact⟨by kernel_rfl,nT (by kernel_rfl)⟩
 ·rfl
 ·rintro rfl;rfl
end TerminationNoLasso
open TerminationNoLasso
theorem TF:Rows.TerminationNoLassoSaid:=
 OpenClaim.holds_of_wide 7 Tryz.f7 rfl rfl rfl rfl rfl rfl rfl ⟨rfl,rfl,rfl,rfl,rfl⟩ rfl rfl rfl rfl rfl (by as_aux_lemma=>kernel_rfl) Tryz.func7 (by unfold joinedFacts;(repeat' with_reducible refine VP ?_ ?_)<;>as_aux_lemma=>kernel_rfl)
  (nT (by as_aux_lemma=>kernel_rfl)) (by as_aux_lemma=>unfold Func.isWrapper;first | (rw[ah (by decide+kernel)];kernel_rfl) | (rw[ac (by decide+kernel)];exact⟨rfl,rfl⟩))
  (fun os started H enc _=>kcF os started H enc)
theorem terminationNoLasso_card:Rows.TerminationNoLassoCardSaid:=
 Claim7.holds_tied_plain_at .later [] [.data,.data,.data,.data] true Rows.terminationNoLassoCard.stood.harness false
  TF (fun _ h=>by cases h) (by kernel_rfl) (fun _ h=>by cases h) terminationNoLasso_row_tie rfl ⟨rfl,rfl⟩ (by kernel_rfl) rfl
  (fun f fn d c=>by
    obtain rfl:f=7:=pa ((show Tryz.prog.funcNamed Rows.terminationNoLassoRow.func=some 7 by kernel_rfl).symm.trans d) |>.symm;obtain rfl:fn=Tryz.f7:=(pa (Tryz.func7.symm.trans c)).symm
    exact⟨by kernel_rfl,fun j t a=>by
     rw[Tryz.params7]at a;have e:t∈[27,5,3,3]:=by simpa using Array.mem_of_getElem? a
     have b:([27,5,3,3].all fun u=> !Tryz.prog.wantsStandIn u)=true:=by kernel_rfl
     exact(show Tryz.prog.wantsStandIn t=false by simpa using zN.1 b t e)⟩)
  (by kernel_rfl)
#print axioms terminationNoLasso_card
end Go.Proofs.YtaiokglcgiemnaaGreatDoor
