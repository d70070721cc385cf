/- The law ResolveQualified of the package relyguardlaw04: for every input of bulk at most 2^20 that the given statement admits the law's function returns true, as its row says. No condition beyond the given statement's own. -/
import Derived.Test.YtmgalfhaeddfbaaNartAI
import Derived.Test.YtmgalfhaeddfbaaNartAK
import Derived.Test.YtmgalfhaeddfbaaNartAP
set_option linter.unusedVariables false
set_option linter.unusedSimpArgs false
set_option maxRecDepth 100000
set_option maxHeartbeats 4000000
namespace Go.Proofs.Ytmgalfhaeddfbaa
open Go Rg Go.ChangeShapes Go.WideShapes Go.ChangeAt Go.WideMaps Go.WideElems Go.RowKit
namespace ResolveQualified
theorem zyC (os:Os) (started:os.Started) (H:Type) (enc:TypeId×Value->H):
 ReturnsInHanded {} Try.checked os 3 .any ((Rows.OpenSpec.upto Rows.resolveQualifiedSpec).pre6 enc Try.prog Try.f3 [] false)
  (Rows.resolveQualifiedSpec.post enc Try.prog Try.f3 false true false false):=by
 refine zNK (C:=Try.checked) own started (by kernel_rfl) Try.func3
  (OpenSpec.witness (enc:=enc) (C:=Try.checked) (os:=os) (s:=Rows.OpenSpec.upto Rows.resolveQualifiedSpec) rfl false
    ⟨#[],#[.agg #[.int .i64 0,.string (bs []),.string (bs []),.int .i64 0,.int .i64 0,.int .i64 0,.bool false,.slice none 0 0,.int .i64 0]],[]⟩ 8
    (by kernel_rfl) (by kernel_rfl) (by kernel_rfl)
    (x:=([.agg [.lit (.int .i64 0),.lit (.string []),.lit (.string []),.lit (.int .i64 0),.lit (.int .i64 0),.lit (.int .i64 0),.lit (.bool false),.nil,.lit (.int .i64 0)]],[],[])) (by kernel_rfl) (by kernel_rfl) (by kernel_rfl)) ?_
 intro W base args ds gs before KC hW MN hk Bo;obtain⟨m,hm⟩:=zNa Bo;have BP: ∀(j:Nat) t v,Try.f3.params[j]? =some t->args[j]? =some v->Value.okWide Try.prog W .any base t v:=KC;have Ot:=hW;obtain⟨p,q,OF,hV,_,_,_⟩:=Ot;have hA:DataW.TrodAll enc Try.prog W 0 (fun _=>true) true Try.f3.params.toList args.toList ds p:=OF;rw[Try.params3]at hA BP;obtain⟨args⟩:=args;obtain⟨v0,vs,d0,es,p0,q0,rfl,rfl,h0,hA⟩:=Rg.trodAll_cons hA;obtain⟨rfl,rfl⟩:=Rg.trodAll_nil hA
 have Gk:(DataW.weightsEach Try.prog [24] [d0]).all (· <=reachBytes)=true:=by
  obtain⟨rfl,rfl⟩:=trodVars_none hV;exact MN
 obtain⟨w0,_⟩:=zdu Gk;obtain⟨a0,g0,r0⟩:=zNn (μ:=fun _=>0) (HO:=fun _=>Option.none) (nm:=(Seat.N m).nm) zO7 zOC (BP 0 24 v0 rfl rfl) h0 w0 (zOZ hk (by simp));rw[Nd.enc_eq]at r0;have hd:=zwD (m:=m) (zRb a0 g0);refine zqV (fn:=Try.f3) (tb:=4) hd (by kernel_rfl) (zw0 hm) ?_ zwP ?_ ?_ (by kernel_rfl) rfl hW ?_
 ·refine zmx rfl fun i x v hx hv=> ?_
  match i,hx,hv with
  | 0,hx,hv=>cases hx;cases hv;exact r0
 ·rw[Try.params3];intro t ht;simp only[List.mem_cons,List.not_mem_nil,or_false]at ht;rcases ht with rfl<;>exact⟨by kernel_rfl,of_decide_eq_true (by kernel_rfl)⟩
 ·rfl
 ·rintro rfl;rfl
end ResolveQualified
open ResolveQualified
theorem resolveQualifiedUpto_holds:Rows.ResolveQualifiedUptoSaid:=
 OpenClaim.holds_of_cond 3 Try.f3 rfl rfl rfl rfl rfl rfl rfl ⟨rfl,rfl,rfl,rfl,rfl⟩ rfl rfl rfl rfl rfl (by as_aux_lemma=>kernel_rfl) Try.func3 (by unfold joinedFacts;(repeat' with_reducible refine zFg ?_ ?_)<;>as_aux_lemma=>kernel_rfl)
  (of_decide_eq_true (by as_aux_lemma=>kernel_rfl)) (by as_aux_lemma=>unfold Func.isWrapper;first | (rw[if_pos (by decide+kernel)];kernel_rfl) | (rw[if_neg (by decide+kernel)];exact⟨rfl,rfl⟩))
  (fun os started H enc _ _=>zyC os started H enc)
#print axioms resolveQualifiedUpto_holds
end Go.Proofs.Ytmgalfhaeddfbaa
