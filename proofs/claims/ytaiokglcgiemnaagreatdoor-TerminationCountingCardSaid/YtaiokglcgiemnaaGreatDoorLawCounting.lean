/- The law TerminationCounting of the package relyguardlaw36: for every input that the given statement admits the law's function returns true, as its row and its tied card say. No condition beyond the given statement's own. -/
import Derived.Test.YtaiokglcgiemnaaGreatDoorTie
import Derived.Test.YtaiokglcgiemnaaGreatDoorCards
import Derived.Test.YtaiokglcgiemnaaGreatDoorCartAI
import Derived.Test.YtaiokglcgiemnaaGreatDoorCartAK
import Derived.Test.YtaiokglcgiemnaaGreatDoorCartAR
import Derived.Test.YtaiokglcgiemnaaGreatDoorCartAT
set_option linter.unusedVariables false
set_option linter.unusedSimpArgs false
set_option maxRecDepth 100000
set_option maxHeartbeats 4000000
namespace Go.Proofs.YtaiokglcgiemnaaGreatDoor
open Go Rg Go.ChangeShapes Go.WideShapes Go.ChangeAt Go.WideMaps Go.WideElems Go.RowKit
namespace TerminationCounting
theorem zpE (os:Os) (started:os.Started) (H:Type) (enc:TypeId×Value->H):
 ReturnsInHanded {} Tryz.checked os 5 .any (fun w args=>(Rows.terminationCountingSpec.pre enc Tryz.prog Tryz.f5 [] false w args/\laidMetH Tryz.prog zk9 w)/\sizedMet enc Tryz.prog Tryz.f5 (OpenSpec.ofChange Rows.terminationCountingSpec) false w args)
  (Rows.terminationCountingSpec.post enc Tryz.prog Tryz.f5 false true false false):=by
 refine returnsInHanded_of_change_and (C:=Tryz.checked) (X:=fun w _=>laidMetH Tryz.prog zk9 w) (fun _ _ _ hh h=>h.of_heap hh) own started (by kernel_rfl) Tryz.func5
  (ChangeSpec.witness_shaped (enc:=enc) (C:=Tryz.checked) (os:=os) (X:=fun w _=>laidMetH Tryz.prog zk9 w) false (World.doorLaid Tryz.prog 400 os)
    #[.agg #[.slice none 0 0,.slice none 0 0,.slice none 0 0,.slice none 0 0],.int .u8 0,.slice none 0 0,.int .i64 0,.int .i64 0] 8 rfl
    (World.shaped_of_RefB (by kernel_rfl) (by kernel_rfl)) (by kernel_rfl) (by kernel_rfl) (by kernel_rfl) (zCF os _)) ?_
 intro W base args ds gs before JH hW _ LP hL _;have BD: ∀(j:Nat) t v,Tryz.f5.params[j]? =some t->args[j]? =some v->Value.okWide Tryz.prog W .any base t v:=JH;have Ns:=hW;obtain⟨p,q,N1,hV,_,_,_⟩:=Ns;have hA:DataW.TrodAll enc Tryz.prog W 0 (fun _=>true) true Tryz.f5.params.toList args.toList ds p:=N1;rw[Tryz.params5]at hA BD;obtain⟨args⟩:=args;obtain⟨v0,vs,d0,es,p0,q0,rfl,rfl,h0,hA⟩:=Rg.trodAll_cons hA;obtain⟨v1,vs,d1,es,p1,q1,rfl,rfl,h1,hA⟩:=Rg.trodAll_cons hA;obtain⟨v2,vs,d2,es,p2,q2,rfl,rfl,h2,hA⟩:=Rg.trodAll_cons hA;obtain⟨v3,vs,d3,es,p3,q3,rfl,rfl,h3,hA⟩:=Rg.trodAll_cons hA;obtain⟨v4,vs,d4,es,p4,q4,rfl,rfl,h4,hA⟩:=Rg.trodAll_cons hA;obtain⟨rfl,rfl⟩:=Rg.trodAll_nil hA
 have GG:(DataW.weightsEach Tryz.prog [27,5,46,3,3] [d0,d1,d2,d3,d4]).all (· <=reachBytes)=true:=by
  obtain⟨rfl,rfl⟩:=trodVars_none hV;exact LP
 obtain⟨w0,GG⟩:=zbx GG;obtain⟨w1,GG⟩:=zbx GG;obtain⟨w2,GG⟩:=zbx GG;obtain⟨w3,GG⟩:=zbx GG;obtain⟨w4,_⟩:=zbx GG;obtain⟨a0,g0,r0⟩:=zp6 (μ:=fun _=>0) (HO:=fun _=>Option.none) (nm:=Seat.N.nm) zA0.prog (zC0 zA0) (BD 0 27 v0 rfl rfl) h0 w0;obtain⟨a1,g1,r1⟩:=ziC (μ:=fun _=>0) (HO:=fun _=>Option.none) (nm:=Seat.N.nm) zA0.u8 (zDn zA0) (BD 1 5 v1 rfl rfl) h1 w1;obtain⟨a2,g2,r2⟩:=zp7 (μ:=fun _=>0) (HO:=fun _=>Option.none) (nm:=Seat.N.nm) zB2.bytes (zCA zB2) (BD 2 46 v2 rfl rfl) h2 w2;obtain⟨a3,_,r3⟩:=ziC (μ:=fun _=>0) (HO:=fun _=>Option.none) (nm:=Seat.N.nm) zA0.int (zAz zA0) (BD 3 3 v3 rfl rfl) h3 w3;obtain⟨a4,_,r4⟩:=ziC (μ:=fun _=>0) (HO:=fun _=>Option.none) (nm:=Seat.N.nm) zA0.int (zAz zA0) (BD 4 3 v4 rfl rfl) h4 w4;have hl:a0.lite:=⟨g0.lite.1,g0.lite.2.1,g0.lite.2.2.1,g0.lite.2.2.2⟩
 have hd:=zon (zzY zBR a0 hl a1 g1 a2 g2 a3 a4);refine zka (fn:=Tryz.f5) (tb:=4) hd (by kernel_rfl) (zC6 hL) ?_ zou ?_ ?_ (by kernel_rfl) rfl hW ?_
 ·refine zg7 rfl fun i x v hx hv=> ?_
  match i,hx,hv with
  | 0,hx,hv=>cases hx;cases hv;exact r0
  | 1,hx,hv=>cases hx;cases hv;exact r1
  | 2,hx,hv=>cases hx;cases hv;exact r2
  | 3,hx,hv=>cases hx;cases hv;exact r3
  | 4,hx,hv=>cases hx;cases hv;exact r4
 ·rw[Tryz.params5];intro t ht;simp only[List.mem_cons,List.not_mem_nil,or_false]at ht;rcases ht with rfl | rfl | rfl | rfl | rfl<;>exact⟨by kernel_rfl,of_decide_eq_true (by kernel_rfl)⟩
 ·rfl
 ·rintro rfl;rfl
end TerminationCounting
open TerminationCounting
theorem zb5:Rows.TerminationCountingSaid:=
 OpenClaim.holds_of_wide 5 Tryz.f5 rfl rfl rfl rfl rfl rfl rfl ⟨rfl,rfl,rfl,rfl,rfl⟩ rfl rfl rfl rfl rfl (by as_aux_lemma=>kernel_rfl) Tryz.func5 (by as_aux_lemma=>kernel_rfl)
  (of_decide_eq_true (by as_aux_lemma=>kernel_rfl)) (by as_aux_lemma=>unfold Func.isWrapper;first | (rw[if_pos (by decide+kernel)];kernel_rfl) | (rw[if_neg (by decide+kernel)];exact⟨rfl,rfl⟩))
  (fun os started H enc _=>zpE os started H enc)
theorem terminationCounting_card:Rows.TerminationCountingCardSaid:=
 Claim7.holds_tied_plain_at .later [] [.data,.data,.data,.data] true Rows.terminationCountingCard.stood.harness false
  zb5 (fun _ h=>by cases h) (by kernel_rfl) (fun _ h=>by cases h) terminationCounting_row_tie rfl ⟨rfl,rfl⟩ (by kernel_rfl) rfl
  (fun f fn hf Au=>by
    obtain rfl:f=5:=Option.some.inj ((show Tryz.prog.funcNamed Rows.terminationCountingRow.func=some 5 by kernel_rfl).symm.trans hf) |>.symm;obtain rfl:fn=Tryz.f5:=(Option.some.inj (Tryz.func5.symm.trans Au)).symm
    exact⟨by kernel_rfl,fun j t ht=>by
     rw[Tryz.params5]at ht;have hm:t∈[27,5,46,3,3]:=by simpa using Array.mem_of_getElem? ht
     have Aa:([27,5,46,3,3].all fun u=> !Tryz.prog.wantsStandIn u)=true:=by kernel_rfl
     exact(show Tryz.prog.wantsStandIn t=false by simpa using zN.1 Aa t hm)⟩)
  (by kernel_rfl)
#print axioms terminationCounting_card
end Go.Proofs.YtaiokglcgiemnaaGreatDoor
