/- The law ConflictOrder of the package relyguardlaw30: for every input that the given statement admits the law's function returns true, as its row and its tied card say. No condition beyond the given statement's own. -/
import Derived.Test.YtcgkpboneipghaaGreatDoorTie
import Derived.Test.YtcgkpboneipghaaGreatDoorCards
import Derived.Test.YtcgkpboneipghaaGreatDoorPartAQ
import Derived.Test.YtcgkpboneipghaaGreatDoorPartAT
import Derived.Test.YtcgkpboneipghaaGreatDoorPartBH
set_option maxRecDepth 100000
namespace Go.Proofs.YtcgkpboneipghaaGreatDoor
open Go Rg Go.ChangeShapes Go.WideShapes Go.ChangeAt Go.WideMaps Go.WideElems Go.RowKit
namespace ConflictOrder
theorem mem_sane {p:Prog} (h:p.inMem):p.sane:=by
 have hb:reachBytes<2^48:=by decide
 have hb2:reachBytes<2^50:=by decide
 refine ⟨Nat.lt_of_le_of_lt h.nCells hb,Nat.lt_of_le_of_lt h.nModules hb,Nat.lt_of_le_of_lt h.nLocks hb,Nat.lt_of_le_of_lt h.nThreads hb,fun c hc=>Nat.lt_of_le_of_lt (h.cells c hc) hb2,fun m hm => ?_,fun x hx => ?_,fun x hx s hs => ?_,fun x hx l hl => ?_⟩
 ·have:=h.modules m hm
  exact ⟨Nat.lt_of_le_of_lt this.1 hb2,Nat.lt_of_le_of_lt this.2.1 hb2,Nat.lt_of_le_of_lt this.2.2 hb⟩
 ·have:=h.threads x hx
  exact ⟨Nat.lt_of_le_of_lt this.name hb2,Nat.lt_of_le_of_lt this.asserts hb,Nat.lt_of_le_of_lt this.modules hb,Nat.lt_of_le_of_lt this.steps hb,Nat.lt_of_le_of_lt this.loops hb⟩
 ·exact Nat.lt_of_le_of_lt ((h.threads x hx).sets s hs) hb
 ·exact Nat.lt_of_le_of_lt ((h.threads x hx).bodies l hl) hb
theorem lifted (os:Os) (started:os.Started) (H:Type) (enc:TypeId×Value->H) :
 ReturnsInHanded {} Tryz.checked os 7 .any (fun w args=>(Rows.conflictOrderSpec.pre enc Tryz.prog Tryz.f7 [] false w args/\laidMetH Tryz.prog laid1 w)/\sizedMet enc Tryz.prog Tryz.f7 (OpenSpec.ofChange Rows.conflictOrderSpec) false w args)
  (Rows.conflictOrderSpec.post enc Tryz.prog Tryz.f7 false true false false):=by
 refine returnsInHanded_of_change_and (C:=Tryz.checked) (X:=fun w _=>laidMetH Tryz.prog laid1 w) (fun _ _ _ hh h=>h.of_heap hh) own started (by kernel_rfl) Tryz.func7
  (ChangeSpec.witness_shaped (enc:=enc) (C:=Tryz.checked) (os:=os) (X:=fun w _=>laidMetH Tryz.prog laid1 w) false (World.doorLaid Tryz.prog 400 os)
    #[.agg #[.slice none 0 0, .slice none 0 0, .slice none 0 0, .slice none 0 0], .int .u8 0, .int .u8 0, .int .i64 0] 8 rfl
    (World.shaped_of_RefB (by kernel_rfl) (by kernel_rfl)) (by kernel_rfl) (by kernel_rfl) (by kernel_rfl) (door_met os _)) ?_
 intro W base args ds gs before hval0 hW _ hwt0 hL _
 have hval : ∀ (j:Nat) t v,Tryz.f7.params[j]? = some t->args[j]? = some v->Value.okWide Tryz.prog W .any base t v:=hval0
 have hW' := hW
 obtain ⟨p,q,hA0,hV,_,_,_⟩:=hW'
 have hA:DataW.TrodAll enc Tryz.prog W 0 (fun _=>true) true Tryz.f7.params.toList args.toList ds p:=hA0
 rw [Tryz.params7] at hA hval
 obtain ⟨args⟩:=args
 obtain ⟨v0,vs,d0,es,p0,q0,rfl,rfl,h0,hA⟩:=Rg.trodAll_cons hA
 obtain ⟨v1,vs,d1,es,p1,q1,rfl,rfl,h1,hA⟩:=Rg.trodAll_cons hA
 obtain ⟨v2,vs,d2,es,p2,q2,rfl,rfl,h2,hA⟩:=Rg.trodAll_cons hA
 obtain ⟨v3,vs,d3,es,p3,q3,rfl,rfl,h3,hA⟩:=Rg.trodAll_cons hA
 obtain ⟨rfl,rfl⟩:=Rg.trodAll_nil hA
 have hwt:(DataW.weightsEach Tryz.prog [27,5,5,3] [d0,d1,d2,d3]).all (· <= reachBytes)=true:=by
  obtain ⟨rfl,rfl⟩:=trodVars_none hV
  exact hwt0
 obtain ⟨w0,hwt⟩:=weights_cons hwt
 obtain ⟨w1,hwt⟩:=weights_cons hwt
 obtain ⟨w2,hwt⟩:=weights_cons hwt
 obtain ⟨w3,_⟩:=weights_cons hwt
 obtain ⟨a0,g0,r0⟩:=arg_st (μ:=fun _=>0) (HO:=fun _=>Option.none) (nm:=Seat.N.nm) ty_ok.prog (rd_prog ty_ok) (hval 0 27 v0 rfl rfl) h0 w0
 obtain ⟨a1,g1,r1⟩:=arg_int (μ:=fun _=>0) (HO:=fun _=>Option.none) (nm:=Seat.N.nm) ty_ok.u8 (rd_u8 ty_ok) (hval 1 5 v1 rfl rfl) h1 w1
 obtain ⟨a2,g2,r2⟩:=arg_int (μ:=fun _=>0) (HO:=fun _=>Option.none) (nm:=Seat.N.nm) ty_ok.u8 (rd_u8 ty_ok) (hval 2 5 v2 rfl rfl) h2 w2
 obtain ⟨a3,_,r3⟩:=arg_int (μ:=fun _=>0) (HO:=fun _=>Option.none) (nm:=Seat.N.nm) ty_ok.int (rd_i ty_ok) (hval 3 3 v3 rfl rfl) h3 w3
 have hl:a0.lite7:=⟨g0.lite.2.1,g0.lite.2.2.1,g0.lite.2.2.2⟩
 have hs:=mem_sane g0
 have hd:=pure_ok (lawOrder30_den a0 hs hl a1 a2 g1 g2 a3)
 refine calls_true (fn:=Tryz.f7) (tb:=4) hd (by kernel_rfl) (glob_ok hL) ?_ laidOut ?_ ?_ (by kernel_rfl) rfl hW ?_
 ·refine repArgs_list rfl fun i x v hx hv => ?_
  match i,hx,hv with
  | 0,hx,hv=>cases hx; cases hv; exact r0
  | 1,hx,hv=>cases hx; cases hv; exact r1
  | 2,hx,hv=>cases hx; cases hv; exact r2
  | 3,hx,hv=>cases hx; cases hv; exact r3
 ·rw [Tryz.params7]
  intro t ht
  simp only [List.mem_cons,List.not_mem_nil,or_false] at ht
  rcases ht with rfl | rfl | rfl | rfl <;> exact ⟨by kernel_rfl,of_decide_eq_true (by kernel_rfl)⟩
 ·rfl
 ·rintro rfl; rfl
end ConflictOrder
open ConflictOrder
theorem conflictOrder_holds:Rows.ConflictOrderSaid :=
 OpenClaim.holds_of_wide 7 Tryz.f7 rfl rfl rfl rfl rfl rfl rfl ⟨rfl,rfl,rfl,rfl,rfl⟩ rfl rfl rfl rfl rfl (by kernel_rfl) Tryz.func7 (by kernel_rfl)
  (of_decide_eq_true (by kernel_rfl)) (by unfold Func.isWrapper; first | (rw [if_pos (by decide +kernel)]; kernel_rfl) | (rw [if_neg (by decide +kernel)]; exact ⟨rfl,rfl⟩))
  (fun os started H enc _=>lifted os started H enc)
theorem conflictOrder_card:Rows.ConflictOrderCardSaid :=
 Claim7.holds_tied_plain_at .later [] [.data] true Rows.conflictOrderCard.stood.harness false
  conflictOrder_holds (fun _ h=>by cases h) (by kernel_rfl) (fun _ h=>by cases h) conflictOrder_row_tie rfl ⟨rfl,rfl⟩ (by kernel_rfl) rfl
  (fun f fn hf hfn=>by
    obtain rfl:f=7:=Option.some.inj ((show Tryz.prog.funcNamed Rows.conflictOrderRow.func=some 7 by kernel_rfl).symm.trans hf) |>.symm
    obtain rfl:fn=Tryz.f7:=(Option.some.inj (Tryz.func7.symm.trans hfn)).symm
    exact ⟨by kernel_rfl,fun j t ht=>by
     rw [Tryz.params7] at ht
     have hm:t∈[27,5,5,3]:=by simpa using Array.mem_of_getElem? ht
     have hall:([27,5,5,3].all fun u => !Tryz.prog.wantsStandIn u)=true:=by kernel_rfl
     exact (show Tryz.prog.wantsStandIn t=false by simpa using List.all_eq_true.1 hall t hm)⟩)
  (by kernel_rfl)
#print axioms conflictOrder_card
end Go.Proofs.YtcgkpboneipghaaGreatDoor
