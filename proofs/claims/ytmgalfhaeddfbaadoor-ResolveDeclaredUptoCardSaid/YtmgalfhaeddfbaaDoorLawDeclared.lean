/- The law ResolveDeclared of the package relyguardlaw04: for every input of bulk at most 2^20 that the given statement admits the law's function returns true, as its row and its tied card say. No condition beyond the given statement's own. -/
import Derived.Test.YtmgalfhaeddfbaaDoorTie
import Derived.Test.YtmgalfhaeddfbaaDoorCards
import Derived.Test.YtmgalfhaeddfbaaDoorOartAI
import Derived.Test.YtmgalfhaeddfbaaDoorOartAK
import Derived.Test.YtmgalfhaeddfbaaDoorOartAQ
set_option linter.unusedVariables false
set_option linter.unusedSimpArgs false
set_option maxRecDepth 100000
set_option maxHeartbeats 4000000
namespace Go.Proofs.YtmgalfhaeddfbaaDoor
open Go Rg Go.ChangeShapes Go.WideShapes Go.ChangeAt Go.WideMaps Go.WideElems Go.RowKit
namespace ResolveDeclared
theorem zyC (os:Os) (started:os.Started) (H:Type) (enc:TypeId×Value->H) (F:Stop.Interp):
 ReturnsInHanded {} Tryd.checked os 3 .any ((Rows.OpenSpec.upto Rows.resolveDeclaredSpec).preRow enc Tryd.prog Tryd.f3 Rows.resolveDeclaredUptoRow.domain false Rows.resolveDeclaredUptoRow.laid)
  (((Rows.OpenSpec.upto Rows.resolveDeclaredSpec).at F).post enc Tryd.prog Tryd.f3 false true false false):=by
 refine returnsInHanded_of_row (C:=Tryd.checked) (s:=Rows.OpenSpec.upto Rows.resolveDeclaredSpec) own started (by kernel_rfl) Tryd.func3
  (witness_row_atRef (enc:=enc) (C:=Tryd.checked) false (World.doorLaid Tryd.prog 400 os) #[.agg #[.int .i64 0,.string (bs []),.string (bs []),.int .i64 0,.int .i64 0,.int .i64 0,.bool false,.slice none 0 0,.int .i64 0]] rfl (by kernel_rfl) (by kernel_rfl) (by kernel_rfl)
    (OpenSpec.preRow_of_cond 8 (x:=([.agg [.lit (.int .i64 0),.lit (.string []),.lit (.string []),.lit (.int .i64 0),.lit (.int .i64 0),.lit (.int .i64 0),.lit (.bool false),.nil,.lit (.int .i64 0)]],[],[])) (by kernel_rfl) (by kernel_rfl) (fun k hk=>by cases hk;kernel_rfl) (by kernel_rfl) (zu7 os _))) ?_
 intro W base args ds gs before KC hW _ Bw MN hL Bo _;have hk:=Bw _ rfl;obtain⟨m,hm⟩:=zNa Bo;have BP: ∀(j:Nat) t v,Tryd.f3.params[j]? =some t->args[j]? =some v->Value.okWide Tryd.prog W .any base t v:=KC;have Ot:=hW;obtain⟨p,q,OF,hV,_,_,_⟩:=Ot;have hA:DataW.TrodAll enc Tryd.prog W 0 (fun _=>true) true Tryd.f3.params.toList args.toList ds p:=OF;rw[Tryd.params3]at hA BP;obtain⟨args⟩:=args;obtain⟨v0,vs,d0,es,p0,q0,rfl,rfl,h0,hA⟩:=Rg.trodAll_cons hA;obtain⟨rfl,rfl⟩:=Rg.trodAll_nil hA
 have Gk:(DataW.weightsEach Tryd.prog [24] [d0]).all (· <=reachBytes)=true:=by
  obtain⟨rfl,rfl⟩:=trodVars_none hV;exact MN
 obtain⟨w0,_⟩:=zdu Gk;obtain⟨a0,g0,r0⟩:=zNn (μ:=fun _=>0) (HO:=fun _=>Option.none) (nm:=(Seat.N m).nm) zO7 zOC (BP 0 24 v0 rfl rfl) h0 w0 (zOZ hk (by simp));rw[Nd.enc_eq]at r0;have hd:=zwD (m:=m) (zRZ a0 g0);refine zqV (fn:=Tryd.f3) (tb:=4) hd (by kernel_rfl) (zw0 hL hm) ?_ zwP ?_ ?_ (by kernel_rfl) rfl hW ?_
 ·refine zmx rfl fun i x v hx hv=> ?_
  match i,hx,hv with
  | 0,hx,hv=>cases hx;cases hv;exact r0
 ·rw[Tryd.params3];intro t ht;simp only[List.mem_cons,List.not_mem_nil,or_false]at ht;rcases ht with rfl<;>exact⟨by kernel_rfl,of_decide_eq_true (by kernel_rfl)⟩
 ·rfl
 ·rintro rfl;rfl
end ResolveDeclared
open ResolveDeclared
theorem zRE:Rows.ResolveDeclaredUptoSaid:=
 OpenClaim.holds_of_cond 3 Tryd.f3 rfl rfl rfl rfl rfl rfl rfl ⟨rfl,rfl,rfl,rfl,rfl⟩ rfl rfl rfl rfl rfl (by as_aux_lemma=>kernel_rfl) Tryd.func3 (by unfold joinedFacts;(repeat' with_reducible refine zFg ?_ ?_)<;>as_aux_lemma=>kernel_rfl)
  (of_decide_eq_true (by as_aux_lemma=>kernel_rfl)) (by as_aux_lemma=>unfold Func.isWrapper;first | (rw[if_pos (by decide+kernel)];kernel_rfl) | (rw[if_neg (by decide+kernel)];exact⟨rfl,rfl⟩))
  (fun os started H enc _ F=>by rw[OpenClaim.pre_eq_preRow];exact zyC os started H enc F)
theorem resolveDeclaredUpto_card:Rows.ResolveDeclaredUptoCardSaid:=
 Claim7.holds_tied_plain_at .later [] [.data,.data,.data] true Rows.resolveDeclaredUptoCard.stood.harness true
  zRE (fun _ h=>by cases h) (by kernel_rfl) (fun _ h=>by cases h) resolveDeclaredUpto_row_tie rfl ⟨rfl,rfl⟩ (by kernel_rfl) rfl
  (fun f fn hf Ax=>by
    obtain rfl:f=3:=Option.some.inj ((show Tryd.prog.funcNamed Rows.resolveDeclaredUptoRow.func=some 3 by kernel_rfl).symm.trans hf) |>.symm;obtain rfl:fn=Tryd.f3:=(Option.some.inj (Tryd.func3.symm.trans Ax)).symm
    exact⟨by kernel_rfl,fun j t ht=>by
     rw[Tryd.params3]at ht;have hm:t∈[24]:=by simpa using Array.mem_of_getElem? ht
     have Aa:([24].all fun u=> !Tryd.prog.wantsStandIn u)=true:=by kernel_rfl
     exact(show Tryd.prog.wantsStandIn t=false by simpa using List.all_eq_true.1 Aa t hm)⟩)
  (by kernel_rfl)
#print axioms resolveDeclaredUpto_card
end Go.Proofs.YtmgalfhaeddfbaaDoor
