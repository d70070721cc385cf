/- The law ResolveExtension of the package relyguardlaw04: for every input of bulk at most 2^20 that the given statement admits the law's function returns true, as its row says. No condition beyond the given statement's own. -/
import Derived.Test.YtmgalfhaeddfbaaMartAI
import Derived.Test.YtmgalfhaeddfbaaMartAK
import Derived.Test.YtmgalfhaeddfbaaMartAP
set_option linter.unusedVariables false
set_option linter.unusedSimpArgs false
set_option maxRecDepth 100000
set_option maxHeartbeats 4000000
namespace Go.Proofs.Ytmgalfhaeddfbaa
open Go Rg Go.ChangeShapes Go.WideShapes Go.ChangeAt Go.WideMaps Go.WideElems Go.RowKit
namespace ResolveExtension
theorem zyC (os:Os) (started:os.Started) (H:Type) (enc:TypeId×Value->H):
 ReturnsInHanded {} Try.checked os 4 .any ((Rows.OpenSpec.upto Rows.resolveExtensionSpec).pre6 enc Try.prog Try.f4 [] false)
  (Rows.resolveExtensionSpec.post enc Try.prog Try.f4 false true false false):=by
 refine zNK (C:=Try.checked) own started (by kernel_rfl) Try.func4
  (OpenSpec.witness (enc:=enc) (C:=Try.checked) (os:=os) (s:=Rows.OpenSpec.upto Rows.resolveExtensionSpec) rfl false
    ⟨#[],#[.agg #[.int .i64 0,.string (bs []),.string (bs []),.int .i64 0,.int .i64 0,.int .i64 0,.bool false,.slice none 0 0,.int .i64 0],.agg #[.int .i64 0,.string (bs []),.string (bs []),.int .i64 0,.int .i64 0,.int .i64 0,.bool false,.slice none 0 0,.int .i64 0]],[]⟩ 8
    (by kernel_rfl) (by kernel_rfl) (by kernel_rfl)
    (x:=([.agg [.lit (.int .i64 0),.lit (.string []),.lit (.string []),.lit (.int .i64 0),.lit (.int .i64 0),.lit (.int .i64 0),.lit (.bool false),.nil,.lit (.int .i64 0)],.agg [.lit (.int .i64 0),.lit (.string []),.lit (.string []),.lit (.int .i64 0),.lit (.int .i64 0),.lit (.int .i64 0),.lit (.bool false),.nil,.lit (.int .i64 0)]],[],[])) (by kernel_rfl) (by kernel_rfl) (by kernel_rfl)) ?_
 intro W base args ds gs before KC hW MN hk Bo;obtain⟨m,hm⟩:=zNa Bo;have BP: ∀(j:Nat) t v,Try.f4.params[j]? =some t->args[j]? =some v->Value.okWide Try.prog W .any base t v:=KC;have Ot:=hW;obtain⟨p,q,OF,hV,_,_,_⟩:=Ot;have hA:DataW.TrodAll enc Try.prog W 0 (fun _=>true) true Try.f4.params.toList args.toList ds p:=OF;rw[Try.params4]at hA BP;obtain⟨args⟩:=args;obtain⟨v0,vs,d0,es,p0,q0,rfl,rfl,h0,hA⟩:=Rg.trodAll_cons hA;obtain⟨v1,vs,d1,es,p1,q1,rfl,rfl,h1,hA⟩:=Rg.trodAll_cons hA;obtain⟨rfl,rfl⟩:=Rg.trodAll_nil hA
 have Gk:(DataW.weightsEach Try.prog [24,24] [d0,d1]).all (· <=reachBytes)=true:=by
  obtain⟨rfl,rfl⟩:=trodVars_none hV;exact MN
 obtain⟨w0,Gk⟩:=zdu Gk;obtain⟨w1,_⟩:=zdu Gk;obtain⟨a0,g0,r0⟩:=zNn (μ:=fun _=>0) (HO:=fun _=>Option.none) (nm:=(Seat.N m).nm) zO7 zOC (BP 0 24 v0 rfl rfl) h0 w0 (zOZ hk (by simp));obtain⟨a1,g1,r1⟩:=zNn (μ:=fun _=>0) (HO:=fun _=>Option.none) (nm:=(Seat.N m).nm) zO7 zOC (BP 1 24 v1 rfl rfl) h1 w1 (zOZ hk (by simp));rw[Nd.enc_eq]at r0 r1;have hd:=zwD (m:=m) (zQL a0 a1 g0 g1);refine zqV (fn:=Try.f4) (tb:=4) hd (by kernel_rfl) (zw0 hm) ?_ zwP ?_ ?_ (by kernel_rfl) rfl hW ?_
 ·refine zmx rfl fun i x v hx hv=> ?_
  match i,hx,hv with
  | 0,hx,hv=>cases hx;cases hv;exact r0
  | 1,hx,hv=>cases hx;cases hv;exact r1
 ·rw[Try.params4];intro t ht;simp only[List.mem_cons,List.not_mem_nil,or_false]at ht;rcases ht with rfl | rfl<;>exact⟨by kernel_rfl,of_decide_eq_true (by kernel_rfl)⟩
 ·rfl
 ·rintro rfl;rfl
end ResolveExtension
open ResolveExtension
theorem resolveExtensionUpto_holds:Rows.ResolveExtensionUptoSaid:=
 OpenClaim.holds_of_cond 4 Try.f4 rfl rfl rfl rfl rfl rfl rfl ⟨rfl,rfl,rfl,rfl,rfl⟩ rfl rfl rfl rfl rfl (by as_aux_lemma=>kernel_rfl) Try.func4 (by unfold joinedFacts;(repeat' with_reducible refine zFg ?_ ?_)<;>as_aux_lemma=>kernel_rfl)
  (of_decide_eq_true (by as_aux_lemma=>kernel_rfl)) (by as_aux_lemma=>unfold Func.isWrapper;first | (rw[if_pos (by decide+kernel)];kernel_rfl) | (rw[if_neg (by decide+kernel)];exact⟨rfl,rfl⟩))
  (fun os started H enc _ _=>zyC os started H enc)
#print axioms resolveExtensionUpto_holds
end Go.Proofs.Ytmgalfhaeddfbaa
