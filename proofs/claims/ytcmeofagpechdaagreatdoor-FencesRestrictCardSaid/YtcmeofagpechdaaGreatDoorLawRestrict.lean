/- The law FencesRestrict of the package relyguardlaw31: for every input that the given statement admits the law's function returns true, as its row and its tied card say. No condition beyond the given statement's own. -/
import Derived.Test.YtcmeofagpechdaaGreatDoorTie
import Derived.Test.YtcmeofagpechdaaGreatDoorCards
import Derived.Test.YtcmeofagpechdaaGreatDoorRartAQ
import Derived.Test.YtcmeofagpechdaaGreatDoorRartAT
import Derived.Test.YtcmeofagpechdaaGreatDoorRartBJ
import Derived.Test.YtcmeofagpechdaaGreatDoorRartBO
set_option linter.unusedVariables false
set_option linter.unusedSimpArgs false
set_option maxRecDepth 100000
namespace Go.Proofs.YtcmeofagpechdaaGreatDoor
open Go Rg Go.ChangeShapes Go.WideShapes Go.ChangeAt Go.WideMaps Go.WideElems Go.RowKit
namespace FencesRestrict
theorem zxk (os:Os) (started:os.Started) (H:Type) (enc:TypeId×Value->H):
 ReturnsInHanded {} Tryz.checked os 8 .any (fun w args=>(Rows.fencesRestrictSpec.pre enc Tryz.prog Tryz.f8 [] false w args/\laidMetH Tryz.prog zg5 w)/\sizedMet enc Tryz.prog Tryz.f8 (OpenSpec.ofChange Rows.fencesRestrictSpec) false w args)
  (Rows.fencesRestrictSpec.post enc Tryz.prog Tryz.f8 false true false false):=by
 refine returnsInHanded_of_change_and (C:=Tryz.checked) (X:=fun w _=>laidMetH Tryz.prog zg5 w) (fun _ _ _ hh h=>h.of_heap hh) own started (by kernel_rfl) Tryz.func8
  (ChangeSpec.witness_shaped (enc:=enc) (C:=Tryz.checked) (os:=os) (X:=fun w _=>laidMetH Tryz.prog zg5 w) false (World.doorLaid Tryz.prog 400 os)
    #[.agg #[.slice none 0 0,.slice none 0 0,.slice none 0 0,.slice none 0 0],.slice none 0 0,.slice none 0 0,.int .u8 0] 8 rfl
    (World.shaped_of_RefB (by kernel_rfl) (by kernel_rfl)) (by kernel_rfl) (by kernel_rfl) (by kernel_rfl) (door_met os _)) ?_
 intro W base args ds gs before hval0 hW _ hwt0 hL _;have hval: ∀(j:Nat) t v,Tryz.f8.params[j]? =some t->args[j]? =some v->Value.okWide Tryz.prog W .any base t v:=hval0;have hW':=hW;obtain⟨p,q,hA0,hV,_,_,_⟩:=hW';have hA:DataW.TrodAll enc Tryz.prog W 0 (fun _=>true) true Tryz.f8.params.toList args.toList ds p:=hA0;rw[Tryz.params8]at hA hval;obtain⟨args⟩:=args;obtain⟨v0,vs,d0,es,p0,q0,rfl,rfl,h0,hA⟩:=Rg.trodAll_cons hA;obtain⟨v1,vs,d1,es,p1,q1,rfl,rfl,h1,hA⟩:=Rg.trodAll_cons hA;obtain⟨v2,vs,d2,es,p2,q2,rfl,rfl,h2,hA⟩:=Rg.trodAll_cons hA;obtain⟨v3,vs,d3,es,p3,q3,rfl,rfl,h3,hA⟩:=Rg.trodAll_cons hA;obtain⟨rfl,rfl⟩:=Rg.trodAll_nil hA
 have hwt:(DataW.weightsEach Tryz.prog [27,39,39,5] [d0,d1,d2,d3]).all (· <=reachBytes)=true:=by
  obtain⟨rfl,rfl⟩:=trodVars_none hV;exact hwt0
 obtain⟨w0,hwt⟩:=zcv hwt;obtain⟨w1,hwt⟩:=zcv hwt;obtain⟨w2,hwt⟩:=zcv hwt;obtain⟨w3,_⟩:=zcv hwt;obtain⟨a0,g0,r0⟩:=zn8 (μ:=fun _=>0) (HO:=fun _=>Option.none) (nm:=Seat.N.nm) ty_ok.prog (rd_prog ty_ok) (hval 0 27 v0 rfl rfl) h0 w0;obtain⟨a1,g1,r1⟩:=zwU (μ:=fun _=>0) (HO:=fun _=>Option.none) (nm:=Seat.N.nm) ty_okP.bytes (rd_bytes ty_okP) (hval 1 39 v1 rfl rfl) h1 w1;obtain⟨a2,g2,r2⟩:=zwU (μ:=fun _=>0) (HO:=fun _=>Option.none) (nm:=Seat.N.nm) ty_okP.bytes (rd_bytes ty_okP) (hval 2 39 v2 rfl rfl) h2 w2;obtain⟨a3,g3,r3⟩:=zo4 (μ:=fun _=>0) (HO:=fun _=>Option.none) (nm:=Seat.N.nm) ty_ok.u8 (rd_u8 ty_ok) (hval 3 5 v3 rfl rfl) h3 w3;have hl:a0.lite:=⟨g0.lite.1,g0.lite.2.1,g0.lite.2.2.1,g0.lite.2.2.2⟩
 have hd:=zkH (lawRes31_den head31e_den a0 hl a1 g1 a2 g2 _ g3);refine zfQ (fn:=Tryz.f8) (tb:=4) hd (by kernel_rfl) (glob_ok hL) ?_ zk9 ?_ ?_ (by kernel_rfl) rfl hW ?_
 ·refine zd0 rfl fun i x v hx hv=> ?_
  match i,hx,hv with
  | 0,hx,hv=>cases hx;cases hv;exact r0
  | 1,hx,hv=>cases hx;cases hv;exact r1
  | 2,hx,hv=>cases hx;cases hv;exact r2
  | 3,hx,hv=>cases hx;cases hv;exact r3
 ·rw[Tryz.params8];intro t ht;simp only[List.mem_cons,List.not_mem_nil,or_false]at ht;rcases ht with rfl | rfl | rfl | rfl<;>exact⟨by kernel_rfl,of_decide_eq_true (by kernel_rfl)⟩
 ·rfl
 ·rintro rfl;rfl
end FencesRestrict
open FencesRestrict
theorem zx4:Rows.FencesRestrictSaid:=
 OpenClaim.holds_of_wide 8 Tryz.f8 rfl rfl rfl rfl rfl rfl rfl ⟨rfl,rfl,rfl,rfl,rfl⟩ rfl rfl rfl rfl rfl (by kernel_rfl) Tryz.func8 (by kernel_rfl)
  (of_decide_eq_true (by kernel_rfl)) (by unfold Func.isWrapper;first | (rw[if_pos (by decide+kernel)];kernel_rfl) | (rw[if_neg (by decide+kernel)];exact⟨rfl,rfl⟩))
  (fun os started H enc _=>zxk os started H enc)
theorem fencesRestrict_card:Rows.FencesRestrictCardSaid:=
 Claim7.holds_tied_plain_at .later [] [.data] true Rows.fencesRestrictCard.stood.harness false
  zx4 (fun _ h=>by cases h) (by kernel_rfl) (fun _ h=>by cases h) fencesRestrict_row_tie rfl ⟨rfl,rfl⟩ (by kernel_rfl) rfl
  (fun f fn hf hfn=>by
    obtain rfl:f=8:=Option.some.inj ((show Tryz.prog.funcNamed Rows.fencesRestrictRow.func=some 8 by kernel_rfl).symm.trans hf) |>.symm;obtain rfl:fn=Tryz.f8:=(Option.some.inj (Tryz.func8.symm.trans hfn)).symm
    exact⟨by kernel_rfl,fun j t ht=>by
     rw[Tryz.params8]at ht;have hm:t∈[27,39,39,5]:=by simpa using Array.mem_of_getElem? ht
     have hall:([27,39,39,5].all fun u=> !Tryz.prog.wantsStandIn u)=true:=by kernel_rfl
     exact(show Tryz.prog.wantsStandIn t=false by simpa using List.all_eq_true.1 hall t hm)⟩)
  (by kernel_rfl)
#print axioms fencesRestrict_card
end Go.Proofs.YtcmeofagpechdaaGreatDoor
