/- The law TopWeakestClosure of the package relyguardtop: for every input that the given statement admits the law's function returns true, as its row and its tied card say. No condition beyond the given statement's own. -/
import Derived.Test.YtoidcnbdndioaaaGreatDoorTie
import Derived.Test.YtoidcnbdndioaaaGreatDoorCards
import Derived.Test.YtoidcnbdndioaaaGreatDoorKartAI
import Derived.Test.YtoidcnbdndioaaaGreatDoorKartAJ
import Derived.Test.YtoidcnbdndioaaaGreatDoorKartAS
set_option linter.unusedVariables false
set_option linter.unusedSimpArgs false
set_option maxRecDepth 100000
set_option maxHeartbeats 4000000
namespace Go.Proofs.YtoidcnbdndioaaaGreatDoor
open Go Rg Go.ChangeShapes Go.WideShapes Go.ChangeAt Go.WideMaps Go.WideElems Go.RowKit
namespace TopWeakestClosure
theorem zyC (os:Os) (started:os.Started) (H:Type) (enc:TypeId×Value->H):
 ReturnsInHanded {} Tryz.checked os 3 .any (fun w args=>(Rows.topWeakestClosureSpec.pre enc Tryz.prog Tryz.f3 [] false w args/\laidMetH Tryz.prog zsj w)/\sizedMet enc Tryz.prog Tryz.f3 (OpenSpec.ofChange Rows.topWeakestClosureSpec) false w args)
  (Rows.topWeakestClosureSpec.post enc Tryz.prog Tryz.f3 false true false false):=by
 refine returnsInHanded_of_change_and (C:=Tryz.checked) (X:=fun w _=>laidMetH Tryz.prog zsj w) (fun _ _ _ hh h=>h.of_heap hh) own started (by kernel_rfl) Tryz.func3
  (ChangeSpec.witness_shaped (enc:=enc) (C:=Tryz.checked) (os:=os) (X:=fun w _=>laidMetH Tryz.prog zsj w) false (World.doorLaid Tryz.prog 400 os)
    #[.agg #[.slice none 0 0,.slice none 0 0,.slice none 0 0,.slice none 0 0],.int .u8 0,.int .u8 0] 8 rfl
    (World.shaped_of_RefB (by kernel_rfl) (by kernel_rfl)) (by kernel_rfl) (by kernel_rfl) (by kernel_rfl) (zu7 os _)) ?_
 intro W base args ds gs before KC hW _ MN hL _;have BP: ∀(j:Nat) t v,Tryz.f3.params[j]? =some t->args[j]? =some v->Value.okWide Tryz.prog W .any base t v:=KC;have Ot:=hW;obtain⟨p,q,OF,hV,_,_,_⟩:=Ot;have hA:DataW.TrodAll enc Tryz.prog W 0 (fun _=>true) true Tryz.f3.params.toList args.toList ds p:=OF;rw[Tryz.params3]at hA BP;obtain⟨args⟩:=args;obtain⟨v0,vs,d0,es,p0,q0,rfl,rfl,h0,hA⟩:=Rg.trodAll_cons hA;obtain⟨v1,vs,d1,es,p1,q1,rfl,rfl,h1,hA⟩:=Rg.trodAll_cons hA;obtain⟨v2,vs,d2,es,p2,q2,rfl,rfl,h2,hA⟩:=Rg.trodAll_cons hA;obtain⟨rfl,rfl⟩:=Rg.trodAll_nil hA
 have Gk:(DataW.weightsEach Tryz.prog [27,5,5] [d0,d1,d2]).all (· <=reachBytes)=true:=by
  obtain⟨rfl,rfl⟩:=trodVars_none hV;exact MN
 obtain⟨w0,Gk⟩:=zdu Gk;obtain⟨w1,Gk⟩:=zdu Gk;obtain⟨w2,_⟩:=zdu Gk;obtain⟨a0,g0,r0⟩:=zy5 (μ:=fun _=>0) (HO:=fun _=>Option.none) (nm:=Seat.N.nm) zjU.prog (zws zjU) (BP 0 27 v0 rfl rfl) h0 w0;obtain⟨a1,g1,r1⟩:=zlX (μ:=fun _=>0) (HO:=fun _=>Option.none) (nm:=Seat.N.nm) zjU.u8 (zyi zjU) (BP 1 5 v1 rfl rfl) h1 w1;obtain⟨a2,g2,r2⟩:=zlX (μ:=fun _=>0) (HO:=fun _=>Option.none) (nm:=Seat.N.nm) zjU.u8 (zyi zjU) (BP 2 5 v2 rfl rfl) h2 w2;have hl:a0.lite7:=⟨g0.lite.2.1,g0.lite.2.2.1,g0.lite.2.2.2⟩
 have hd:=zwD (zNS a0 hl a1 a2 g1 g2);refine zqV (fn:=Tryz.f3) (tb:=4) hd (by kernel_rfl) (zw0 hL) ?_ zwP ?_ ?_ (by kernel_rfl) rfl hW ?_
 ·refine zmx rfl fun i x v hx hv=> ?_
  match i,hx,hv with
  | 0,hx,hv=>cases hx;cases hv;exact r0
  | 1,hx,hv=>cases hx;cases hv;exact r1
  | 2,hx,hv=>cases hx;cases hv;exact r2
 ·rw[Tryz.params3];intro t ht;simp only[List.mem_cons,List.not_mem_nil,or_false]at ht;rcases ht with rfl | rfl | rfl<;>exact⟨by kernel_rfl,of_decide_eq_true (by kernel_rfl)⟩
 ·rfl
 ·rintro rfl;rfl
end TopWeakestClosure
open TopWeakestClosure
theorem zG2:Rows.TopWeakestClosureSaid:=
 OpenClaim.holds_of_wide 3 Tryz.f3 rfl rfl rfl rfl rfl rfl rfl ⟨rfl,rfl,rfl,rfl,rfl⟩ rfl rfl rfl rfl rfl (by as_aux_lemma=>kernel_rfl) Tryz.func3 (by unfold joinedFacts;(repeat' with_reducible refine zFg ?_ ?_)<;>as_aux_lemma=>kernel_rfl)
  (of_decide_eq_true (by as_aux_lemma=>kernel_rfl)) (by as_aux_lemma=>unfold Func.isWrapper;first | (rw[if_pos (by decide+kernel)];kernel_rfl) | (rw[if_neg (by decide+kernel)];exact⟨rfl,rfl⟩))
  (fun os started H enc _=>zyC os started H enc)
theorem topWeakestClosure_card:Rows.TopWeakestClosureCardSaid:=
 Claim7.holds_tied_plain_at .later [] [.data,.data] true Rows.topWeakestClosureCard.stood.harness false
  zG2 (fun _ h=>by cases h) (by kernel_rfl) (fun _ h=>by cases h) topWeakestClosure_row_tie rfl ⟨rfl,rfl⟩ (by kernel_rfl) rfl
  (fun f fn hf Ax=>by
    obtain rfl:f=3:=Option.some.inj ((show Tryz.prog.funcNamed Rows.topWeakestClosureRow.func=some 3 by kernel_rfl).symm.trans hf) |>.symm;obtain rfl:fn=Tryz.f3:=(Option.some.inj (Tryz.func3.symm.trans Ax)).symm
    exact⟨by kernel_rfl,fun j t ht=>by
     rw[Tryz.params3]at ht;have hm:t∈[27,5,5]:=by simpa using Array.mem_of_getElem? ht
     have Aa:([27,5,5].all fun u=> !Tryz.prog.wantsStandIn u)=true:=by kernel_rfl
     exact(show Tryz.prog.wantsStandIn t=false by simpa using zN.1 Aa t hm)⟩)
  (by kernel_rfl)
#print axioms topWeakestClosure_card
end Go.Proofs.YtoidcnbdndioaaaGreatDoor
