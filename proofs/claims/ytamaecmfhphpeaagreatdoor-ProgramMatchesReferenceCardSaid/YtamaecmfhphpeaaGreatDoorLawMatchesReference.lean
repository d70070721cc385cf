/- The law ProgramMatchesReference of the package relyguardlaw07: for every input that the given statement admits the law's function returns true, as its row and its tied card say. No condition beyond the given statement's own. -/
import Derived.Test.YtamaecmfhphpeaaGreatDoorTie
import Derived.Test.YtamaecmfhphpeaaGreatDoorCards
import Derived.Test.YtamaecmfhphpeaaGreatDoorPartAR
import Derived.Test.YtamaecmfhphpeaaGreatDoorPartAU
import Derived.Test.YtamaecmfhphpeaaGreatDoorPartBG
set_option maxRecDepth 100000
namespace Go.Proofs.YtamaecmfhphpeaaGreatDoor
open Go Rg Go.ChangeShapes Go.WideShapes Go.ChangeAt Go.WideMaps Go.WideElems Go.RowKit
theorem stepEnc (s:Step):s.enc=[ti s.kind,ti s.fr,ti s.to,ti s.guard.op,ti s.guard.w,ti s.guard.n, .sl (s.guard.kids.map Expr.enc), .sl (s.set.map Assign.enc),tb s.release,ti s.target,ti s.module]:=by
 simp [Step.enc,Expr.enc_eq]
namespace ProgramMatchesReference
theorem lifted (os:Os) (started:os.Started) (H:Type) (enc:TypeId×Value->H) :
 ReturnsInHanded {} Tryz.checked os 3 .any (fun w args=>(Rows.programMatchesReferenceSpec.pre enc Tryz.prog Tryz.f3 [] false w args/\laidMetH Tryz.prog laid1 w)/\sizedMet enc Tryz.prog Tryz.f3 (OpenSpec.ofChange Rows.programMatchesReferenceSpec) false w args)
  (Rows.programMatchesReferenceSpec.post enc Tryz.prog Tryz.f3 false true false false):=by
 refine returnsInHanded_of_change_and (C:=Tryz.checked) (X:=fun w _=>laidMetH Tryz.prog laid1 w) (fun _ _ _ hh h=>h.of_heap hh) own started (by kernel_rfl) Tryz.func3
  (ChangeSpec.witness_shaped (enc:=enc) (C:=Tryz.checked) (os:=os) (X:=fun w _=>laidMetH Tryz.prog laid1 w) false (World.doorLaid Tryz.prog 400 os)
    #[.agg #[.slice none 0 0, .slice none 0 0, .slice none 0 0, .slice none 0 0], .agg #[.int .i64 0, .int .i64 0, .int .i64 0, .int .i64 0, .int .i64 0, .int .i64 0, .slice none 0 0, .slice none 0 0, .bool false, .int .i64 0, .int .i64 0], .int .i64 0, .int .i64 0] 8 rfl
    (World.shaped_of_RefB (by kernel_rfl) (by kernel_rfl)) (by kernel_rfl) (by kernel_rfl) (by kernel_rfl) (door_met os _)) ?_
 intro W base args ds gs before hval0 hW _ hwt0 hL _
 have hval : ∀ (j:Nat) t v,Tryz.f3.params[j]? = some t->args[j]? = some v->Value.okWide Tryz.prog W .any base t v:=hval0
 have hW' := hW
 obtain ⟨p,q,hA0,hV,_,_,_⟩:=hW'
 have hA:DataW.TrodAll enc Tryz.prog W 0 (fun _=>true) true Tryz.f3.params.toList args.toList ds p:=hA0
 rw [Tryz.params3] at hA hval
 obtain ⟨args⟩:=args
 obtain ⟨v0,vs,d0,es,p0,q0,rfl,rfl,h0,hA⟩:=Rg.trodAll_cons hA
 obtain ⟨v1,vs,d1,es,p1,q1,rfl,rfl,h1,hA⟩:=Rg.trodAll_cons hA
 obtain ⟨v2,vs,d2,es,p2,q2,rfl,rfl,h2,hA⟩:=Rg.trodAll_cons hA
 obtain ⟨v3,vs,d3,es,p3,q3,rfl,rfl,h3,hA⟩:=Rg.trodAll_cons hA
 obtain ⟨rfl,rfl⟩:=Rg.trodAll_nil hA
 have hwt:(DataW.weightsEach Tryz.prog [27,33,3,3] [d0,d1,d2,d3]).all (· <= reachBytes)=true:=by
  obtain ⟨rfl,rfl⟩:=trodVars_none hV
  exact hwt0
 obtain ⟨w0,hwt⟩:=weights_cons hwt
 obtain ⟨w1,hwt⟩:=weights_cons hwt
 obtain ⟨w2,hwt⟩:=weights_cons hwt
 obtain ⟨w3,_⟩:=weights_cons hwt
 obtain ⟨a0,g0,r0⟩:=arg_st (μ:=fun _=>0) (HO:=fun _=>Option.none) (nm:=Seat.N.nm) ty_ok.prog (rd_prog ty_ok) (hval 0 27 v0 rfl rfl) h0 w0
 obtain ⟨a1,_,r1⟩:=arg_st (μ:=fun _=>0) (HO:=fun _=>Option.none) (nm:=Seat.N.nm) ty_ok.step (rd_step ty_ok) (hval 1 33 v1 rfl rfl) h1 w1
 obtain ⟨a2,_,r2⟩:=arg_int (μ:=fun _=>0) (HO:=fun _=>Option.none) (nm:=Seat.N.nm) ty_ok.int (rd_i ty_ok) (hval 2 3 v2 rfl rfl) h2 w2
 obtain ⟨a3,_,r3⟩:=arg_int (μ:=fun _=>0) (HO:=fun _=>Option.none) (nm:=Seat.N.nm) ty_ok.int (rd_i ty_ok) (hval 3 3 v3 rfl rfl) h3 w3
 rw [stepEnc] at r1
 have hl:a0.lite7:=⟨g0.lite.2.1,g0.lite.2.2.1,g0.lite.2.2.2⟩
 have hd:=pure_ok (lawMatches_den a0 hl a1 a2 a3)
 refine calls_true (fn:=Tryz.f3) (tb:=4) hd (by kernel_rfl) (glob_ok hL) ?_ laidOut ?_ ?_ (by kernel_rfl) rfl hW ?_
 ·refine repArgs_list rfl fun i x v hx hv => ?_
  match i,hx,hv with
  | 0,hx,hv=>cases hx; cases hv; exact r0
  | 1,hx,hv=>cases hx; cases hv; exact r1
  | 2,hx,hv=>cases hx; cases hv; exact r2
  | 3,hx,hv=>cases hx; cases hv; exact r3
 ·rw [Tryz.params3]
  intro t ht
  simp only [List.mem_cons,List.not_mem_nil,or_false] at ht
  rcases ht with rfl | rfl | rfl | rfl <;> exact ⟨by kernel_rfl,of_decide_eq_true (by kernel_rfl)⟩
 ·rfl
 ·rintro rfl; rfl
end ProgramMatchesReference
open ProgramMatchesReference
theorem programMatchesReference_holds:Rows.ProgramMatchesReferenceSaid :=
 OpenClaim.holds_of_wide 3 Tryz.f3 rfl rfl rfl rfl rfl rfl rfl ⟨rfl,rfl,rfl,rfl,rfl⟩ rfl rfl rfl rfl rfl (by kernel_rfl) Tryz.func3 (by kernel_rfl)
  (of_decide_eq_true (by kernel_rfl)) (by unfold Func.isWrapper; first | (rw [if_pos (by decide +kernel)]; kernel_rfl) | (rw [if_neg (by decide +kernel)]; exact ⟨rfl,rfl⟩))
  (fun os started H enc _=>lifted os started H enc)
theorem programMatchesReference_card:Rows.ProgramMatchesReferenceCardSaid :=
 Claim7.holds_tied_plain_at .later [] [.data, .data, .data, .data, .data] true Rows.programMatchesReferenceCard.stood.harness false
  programMatchesReference_holds (fun _ h=>by cases h) (by kernel_rfl) (fun _ h=>by cases h) programMatchesReference_row_tie rfl ⟨rfl,rfl⟩ (by kernel_rfl) rfl
  (fun f fn hf hfn=>by
    obtain rfl:f=3:=Option.some.inj ((show Tryz.prog.funcNamed Rows.programMatchesReferenceRow.func=some 3 by kernel_rfl).symm.trans hf) |>.symm
    obtain rfl:fn=Tryz.f3:=(Option.some.inj (Tryz.func3.symm.trans hfn)).symm
    exact ⟨by kernel_rfl,fun j t ht=>by
     rw [Tryz.params3] at ht
     have hm:t∈[27,33,3,3]:=by simpa using Array.mem_of_getElem? ht
     have hall:([27,33,3,3].all fun u => !Tryz.prog.wantsStandIn u)=true:=by kernel_rfl
     exact (show Tryz.prog.wantsStandIn t=false by simpa using List.all_eq_true.1 hall t hm)⟩)
  (by kernel_rfl)
#print axioms programMatchesReference_card
end Go.Proofs.YtamaecmfhphpeaaGreatDoor
