/- Part of the proof of laws of relyguardtop. No condition. -/
import Derived.Stop.Joined
import Derived.ProofKit
import Derived.LaidMore
import Derived.Test.YtbkhffpideppnaaGreatDoorIartAI
import Derived.Test.YtbkhffpideppnaaGreatDoorIartAM
import Derived.Test.YtbkhffpideppnaaGreatDoorIartAP
import Derived.Test.YtbkhffpideppnaaGreatDoorIartAK
import Derived.Test.YtbkhffpideppnaaGreatDoorIartAN
import Derived.Test.YtbkhffpideppnaaGreatDoorIartAO
set_option linter.unusedSimpArgs false
set_option linter.unusedVariables false
section
set_option maxRecDepth 100000
namespace Go.Proofs.YtbkhffpideppnaaGreatDoor
open Go Rg Go.ChangeShapes Go.WideShapes Go.ChangeAt Go.WideMaps Go.WideElems Go.RowKit
theorem own:ownKnob Tryz.prog.godebug=none:=by kernel_rfl
theorem zwP:laidOutB Tryz.prog=true:=by kernel_rfl
def ty:Tys:=⟨3,4,9,5,58,129,57,55,105,22,102,95,97,65,108,66,68,25,60,23,63,24,27,180,218,91,93,54⟩
theorem zxN:ty.Ok Tryz.prog:=⟨⟨⟨by kernel_rfl,by kernel_rfl,by kernel_rfl,by kernel_rfl,by kernel_rfl,by kernel_rfl,by kernel_rfl,by kernel_rfl,by kernel_rfl,by kernel_rfl,by kernel_rfl,by kernel_rfl,by kernel_rfl,by kernel_rfl,by kernel_rfl,by kernel_rfl,by kernel_rfl,by kernel_rfl,by kernel_rfl,by kernel_rfl,by kernel_rfl,by kernel_rfl⟩,by kernel_rfl⟩,by kernel_rfl,by kernel_rfl,by kernel_rfl,by kernel_rfl,by kernel_rfl⟩
theorem zxM:ty.OkP Tryz.prog:=zxN.toOkP
theorem zjU:ty.Ok0 Tryz.prog:=zxM.toOk0
abbrev zsj:List (String×DataW Unit):=Rows.topShrunkViolatesRow.laid
def zJJ (W:World) (m:Int):Prop:=W.cell? ⟨1,0,none⟩=some (.int .i64 m)/\1<W.heap.size/\ ∃e,W.shape? 1=some (e,1)
theorem zGG:zfl Tryz.prog 28 ty.choice=true:=by kernel_rfl
theorem zw0 {W:World} {m:Int} (h:laidMetH Tryz.prog zsj W) (hm:zJJ W m):zpW (Seat.N m) (fun r=>r<W.heap.size) W:=by
 intro k j x hx
 match k,hx with
 | 0, hx => exact zpt (nm := "relyguard/expr.masks") (g := 0) (k := 0) (t := 188) (e := 3) (ls := [.int .i64 0, .int .i64 1, .int .i64 3, .int .i64 7, .int .i64 15, .int .i64 31, .int .i64 63, .int .i64 127, .int .i64 255]) (by kernel_rfl) h (zL (i := 3) rfl) (by kernel_rfl) (by kernel_rfl) (by kernel_rfl) (.inr ⟨.i64, by kernel_rfl⟩) (by kernel_rfl) (by kernel_rfl) rfl rfl j x hx
 | 1,hx=>exact(by have h0:([]:List T)[j]? =some x:=hx;rw[List.getElem?_nil]at h0;cases h0)
 | 2, hx => exact zpt (nm := "internal/strconv.uint64pow10") (g := 2) (k := 2) (t := 243) (e := 229) (ls := [.int .u64 1, .int .u64 10, .int .u64 100, .int .u64 1000, .int .u64 10000, .int .u64 100000, .int .u64 1000000, .int .u64 10000000, .int .u64 100000000, .int .u64 1000000000, .int .u64 10000000000, .int .u64 100000000000, .int .u64 1000000000000, .int .u64 10000000000000, .int .u64 100000000000000, .int .u64 1000000000000000, .int .u64 10000000000000000, .int .u64 100000000000000000, .int .u64 1000000000000000000, .int .u64 10000000000000000000]) (by kernel_rfl) h (zL (i := 2) rfl) (by kernel_rfl) (by kernel_rfl) (by kernel_rfl) (.inr ⟨.u64, by kernel_rfl⟩) (by kernel_rfl) (by kernel_rfl) rfl rfl j x hx
 | 3,hx=>
   have h0:([.int .i64 m]:List T)[j]? =some x:=hx
   match j,h0 with
   | 0,h0=>
     obtain rfl:T.int .i64 m=x:=Option.some.inj h0
     exact⟨hm.2.1,hm.2.2,_,hm.1,.int .i64 m⟩
   | j+1,h0=>simp at h0
 | k+4,hx=>exact(by have h0:([]:List T)[j]? =some x:=hx;rw[List.getElem?_nil]at h0;cases h0)
theorem inv {m:Int}:Seat.I.Ok (Seat.N m):=zMR (fun q k h=>by
 split at h
 ·cases h;rename_i hq;exact⟨hq.symm,(by intro h;cases h),rfl⟩
 ·split at h
  ·cases h;rename_i hq;exact⟨hq.symm,(by intro h;cases h),rfl⟩
  ·cases h) (fun k h=>if_pos (Nat.lt_trans h (by decide+kernel))) (fun k t h=>by
 simp only[List.mem_cons,List.not_mem_nil,or_false,Prod.mk.injEq]at h
 rcases h with⟨rfl,rfl⟩ | ⟨rfl,rfl⟩<;>rfl)
theorem zBf {m:Int}:ztu Tryz.prog Seat.I (Seat.N m) Rg.Γ:=fun g fn h=>Seat.all (g,fn) (zkG h)
theorem zwD {m:Int} {g:Nat} {av:List V} {r:V} (h:Den Rg.Γ Rg.G g av=some r):zjO Tryz.prog (Seat.N m) g av r:=
 zte inv zBf (by kernel_rfl) (fun _ _ _=>Iff.rfl) (zhC.1 h)
theorem zIg {W:World} (h:W.ShapedOpen Tryz.prog): ∃m,zJJ W m:=by
 obtain⟨m,hm⟩:=Tryz.laysM145.s1_3 W h;obtain⟨cs,hh,hs,_⟩:=h.1 1 #[.int .i64 0] 3 (of_decide_eq_true (by kernel_rfl)) (by kernel_rfl);exact⟨m,hm,(Array.getElem?_eq_some_iff.1 hh).1,3,by simp[World.shape?,hh,hs]⟩
theorem zIm {H:Type} {enc:TypeId×Value->H} {a:Assume} {C:Checked} {os:Os} {f:FuncId} {fn:Func} {s:ChangeSpec} {conds:List PathCond} {apart fresh G1 again:Bool} {X:World->Array Value->Prop}
 (hX: ∀(w w':World) (args:Array Value),w.heap=w'.heap->X w args->X w' args)
 (own:ownKnob C.prog.godebug=none) (started:os.Started) (noInit:C.prog.inits.idxOf? f=none) (Ax:C.prog.funcs[f]? =some fn)
 (witness: ∃(w:World) (tape:Tape) (i:Input),w.os=os/\(w.forCall tape i).Shaped C.prog/\i.vars=[]/\Input.okWide C.prog (w.forCall tape i) .any w.heap.size f i/\
   ((s.pre enc C.prog fn conds apart (w.forCall tape i).memory i.args/\X (w.forCall tape i).memory i.args)/\sizedMet enc C.prog fn (OpenSpec.ofChange s) apart (w.forCall tape i).memory i.args)/\a.holds C.prog (lone (Frame.enter C.prog f i.args .normal) [] (w.forCall tape i)))
 (contract: ∀(W:World) (base:Nat) (args:Array Value) (ds gs:List (DataW H)) (before:List MemPlace),
   (∀(j:Nat) t v,fn.params[j]? =some t->args[j]? =some v->Value.okWide C.prog W .any base t v)->
   DataW.Whole enc C.prog fn.params.toList s.vars apart W args.toList ds gs before->
   conds.all (PathCond.test C.prog ⟨fn.params.toList,ds,s.plain.varTypes C.prog,gs⟩)=true->
   (DataW.weightsEach C.prog (fn.params.toList++s.plain.varTypes C.prog) (ds++gs)).all (· <=reachBytes)=true->X W args->
   W.ShapedOpen C.prog->
   Calls C.prog f args W fun e W'=> ∃v,e= .returned v/\s.post enc C.prog fn apart fresh G1 again W args v W'):
 ReturnsInHanded a C os f .any (fun w args=>(s.pre enc C.prog fn conds apart w args/\X w args)/\sizedMet enc C.prog fn (OpenSpec.ofChange s) apart w args) (s.post enc C.prog fn apart fresh G1 again):=by
 refine returnsInHanded_of_calls own started noInit witness ?_;intro w tape i _ Bo _ Bm CA S6;obtain⟨_,_,_,fn',BT,_,_,_,_,BP⟩:=Bm;have e:fn'=fn:=Option.some.inj (BT.symm.trans Ax);subst e;obtain⟨⟨⟨ds,gs,before,hw,hc⟩,hx⟩,hz⟩:=CA;have Aw:=DataW.Whole.of_heap (w':=w.forCall tape i) (by rfl) hw;refine(contract (w.forCall tape i) w.heap.size i.args ds gs before BP Aw hc (hz.weights hw) (hX _ _ _ (by rfl) hx) Bo).mono fun e W' ⟨v,he,hp⟩=> ?_
 subst he;exact ChangeSpec.post_blind hp
theorem zHY {p:Prog} (h:p.inMem):p.sane:=by
 have hb:reachBytes<2^48:=by decide
 have BM:reachBytes<2^50:=by decide
 refine⟨Nat.lt_of_le_of_lt h.nCells hb,Nat.lt_of_le_of_lt h.nModules hb,Nat.lt_of_le_of_lt h.nLocks hb,Nat.lt_of_le_of_lt h.nThreads hb,fun c hc=>Nat.lt_of_le_of_lt (h.cells c hc) BM,fun m hm=> ?_,fun x hx=> ?_,fun x hx s hs=> ?_,fun x hx l hl=> ?_⟩
 ·have:=h.modules m hm;exact⟨Nat.lt_of_le_of_lt this.1 BM,Nat.lt_of_le_of_lt this.2.1 BM,Nat.lt_of_le_of_lt this.2.2 hb⟩
 ·have:=h.threads x hx;exact⟨Nat.lt_of_le_of_lt this.name BM,Nat.lt_of_le_of_lt this.asserts hb,Nat.lt_of_le_of_lt this.modules hb,Nat.lt_of_le_of_lt this.steps hb,Nat.lt_of_le_of_lt this.loops hb⟩
 ·exact Nat.lt_of_le_of_lt ((h.threads x hx).sets s hs) hb
 ·exact Nat.lt_of_le_of_lt ((h.threads x hx).bodies l hl) hb
section
variable {H:Type} {enc:TypeId×Value->H} {P:Program} {W:World} {nm:Nat->Nat} {y:Tys}
theorem zHi {t:TypeId} (hy:y.Ok P) (h:zfl P t y.choice=true) (n:Nat):Rd enc P W nm n t (fun l:List Choice=>[.sl (l.map Choice.enc)]) (fun l=>l.length<=reachBytes):=
 (zjX h n fun m _=>zHC hy m).conv fun l h=>⟨l,h.1,rfl⟩
end
theorem zu7 (os:Os) (args:Array Value):laidMetH Tryz.prog zsj ((World.doorLaid Tryz.prog 400 os).forCall (fun _ _=>0) ⟨#[],args,[]⟩).memory:=
 laidMetH_of_parts3 (fuel:=8) (laidMet_of_run' 8 (by kernel_rfl) (by kernel_rfl)) (by kernel_rfl) (by kernel_rfl)
end Go.Proofs.YtbkhffpideppnaaGreatDoor
end
section
namespace Rg
open Go
structure Evt where
 p:Prog
 at_:Int
 ch:Choice
 bf:Config
 af:Config
abbrev Evt.row (e:Evt):List T:=[.sl (e.p.cells.map Cell.enc),.sl (e.p.modules.map Contract.enc),.sl (e.p.locks.map Lock.enc),.sl (e.p.threads.map Thread.enc),ti e.at_,ti e.ch.thread,ti e.ch.step,ti e.ch.cell,
 ints e.bf.mem,ints e.bf.at_,.sl (e.bf.buf.map fun b=>[.sl (b.map Entry.enc)]),ints e.af.mem,ints e.af.at_,.sl (e.af.buf.map fun b=>[.sl (b.map Entry.enc)])]
abbrev evV (e:Evt):V:=.t (.ip e.row)
structure Viol where
 at_:Int
 kind:Int
 module:Int
 thread:Int
 item:Int
def Viol.enc (v:Viol):List T:=[ti v.at_,ti v.kind,ti v.module,ti v.thread,ti v.item]
structure EvS (e:Evt) (x:Thread) (s:Step) (t i:Nat):Prop where
 at0:0<=e.at_
 ht:e.ch.thread=t
 hi:e.ch.step=i
 hx:e.p.threads[t]? =some x
 hs:x.steps[i]? =some s
def zKo (e:Evt):Bool:=decide (0<=e.at_)&&decide (e.ch.step≠ -1)
def zKy (e:Evt):Bool:=zKo e&&zo7 e.bf&&zo7 e.af
theorem zL7 (b:List Entry):Den Γ G 498 [.t (.sl (b.map Entry.enc))]=some (vb (decide (b≠[]))):=by
 (refine zag Γ498 rfl ?_;dsimp only[zNb])
 cases b with
 | nil=>simp -dsimp -implicitDefEqProofs only[go_sem,seval]
 | cons a r=>
   have:(((a::r).length:Nat):Int)>0:=by simp
   simp -dsimp -implicitDefEqProofs only[go_sem,seval,this];simp
theorem zME (bs:List (List Entry)) (hl:bs.length<2^48):Den Γ G 499 [.t (.sl (bs.map fun b=>[.sl (b.map Entry.enc)])),.t (.fn 498 [] [])]=some (vi (match bs.findIdx? (fun b=>decide (b≠[]))with | some i=>i | none=> -1)):=by
 (refine zag Γ499 rfl ?_;dsimp only[zNa])
 simp -dsimp -implicitDefEqProofs only[go_sem,seval];refine zaT 524080 bs.length (fun i f=>(f 8).v=vi i/\ ∀x∈bs.take i,x=[]) rfl rfl ⟨by simp -dsimp -implicitDefEqProofs only[go_sem,seval],by simp⟩ ?_;rintro i f u kk bb hi ⟨h8,Aa⟩;have hw:=zan i (by omega)
 by_cases Ad:i<bs.length
 ·have Af:=eq_true Ad;obtain⟨b,hb,_⟩:=zai Ad;have hq:=zL7 b
  by_cases Fv:b=[]
  ·subst Fv;have KN:Den Γ G 498 [.t (.sl [])]=some (vb false):=hq;simp -dsimp -implicitDefEqProofs only[go_sem,seval,h8,Af,hb,KN];refine⟨by omega,by simp -dsimp -implicitDefEqProofs only[go_sem,seval,hw],fun x hx=> ?_⟩;rw[zaf hb]at hx;rcases List.mem_append.1 hx with hx | hx
   ·exact Aa x hx
   ·exact List.mem_singleton.1 hx
  ·rw[decide_eq_true Fv]at hq;simp -dsimp -implicitDefEqProofs only[go_sem,seval,h8,Af,hb,hq]
   have:bs.findIdx? (fun b=>decide (b≠[]))=some i:=by
    rw[List.findIdx?_eq_some_iff_getElem];have HG:bs[i]=b:=by rw[zI Ad]at hb;exact Option.some.inj hb
    refine⟨Ad,by rw[HG];exact decide_eq_true Fv,fun j hj=> ?_⟩;have:=Aa bs[j] (by rw[List.mem_take_iff_getElem];exact⟨j,by omega,rfl⟩);simp[this]
   rw[this]
 ·have Af:=eq_false Ad;have:i=bs.length:=by omega
  subst this;simp -dsimp -implicitDefEqProofs only[go_sem,seval,h8,Af];rw[List.take_length]at Aa;have:bs.findIdx? (fun b=>decide (b≠[]))=none:=by rw[List.findIdx?_eq_none_iff];intro x hx;simp[Aa x hx]
  rw[this]
theorem zKJ (c:Config) (hl:c.buf.length<2^48):Den Γ G 494 [(.agg [.t (ints (c).mem),.t (ints (c).at_),.t (.sl ((c).buf.map (fun b=>[.sl (b.map Entry.enc)])))])]=some (vb (zo7 c)):=by
 have h1:=zME c.buf hl
 have h2:Den Γ G 497 [.t (.sl (c.buf.map fun b=>[.sl (b.map Entry.enc)])),.t (.fn 498 [] [])]=some (vb !(zo7 c)):=by
  (refine zag Γ497 rfl ?_;dsimp only[zNc])
  simp -dsimp -implicitDefEqProofs only[go_sem,seval,h1]
  cases h:c.buf.findIdx? (fun b=>decide (b≠[]))with
  | none=>
    rw[List.findIdx?_eq_none_iff]at h
    have:zo7 c=true:=by
     rw[zo7,zN];intro x hx;have:=h x hx;simpa using this
    simp[this]
  | some i=>
    have:zo7 c=false:=by
     rw[List.findIdx?_eq_some_iff_getElem]at h;obtain⟨hi,hp,_⟩:=h;rw[zo7,List.all_eq_false];exact⟨_,List.getElem_mem hi,by simpa using hp⟩
    simp[this]
 (refine zag Γ494 rfl ?_;dsimp only[zNf])
 simp -dsimp -implicitDefEqProofs only[go_sem,seval,h2];rw[Bool.not_not]
theorem zLD (e:Expr) (m:List Int):Den Γ G 495 [(.agg [.t (ti (e).op),.t (ti (e).w),.t (ti (e).n),.t (.sl ((e).kids.map (Expr.enc)))]),.t (ints m)]=some (vb (decide (e.eval m m≠0))):=by
 have h:=zd4 e m m
 (refine zag Γ495 rfl ?_;dsimp only[zNe])
 simp -dsimp -implicitDefEqProofs only[go_sem,seval,h]
theorem zKU (e:Evt):Den Γ G 496 [evV e]=some (vb (zKo e)):=by
 (refine zag Γ496 rfl ?_;dsimp only[zNd])
 by_cases h:e.at_>=0
 ·by_cases h2:e.ch.step= -1
  ·simp -dsimp -implicitDefEqProofs only[go_sem,seval,h,h2];simp[zKo,h,h2]
  ·simp -dsimp -implicitDefEqProofs only[go_sem,seval,h,h2];simp[zKo,h,h2]
 ·simp -dsimp -implicitDefEqProofs only[go_sem,seval,h];simp[zKo,show ¬0<=e.at_ by omega]
theorem zK4 (e:Evt) (h1:e.bf.buf.length<2^48) (h2:e.af.buf.length<2^48):Den Γ G 491 [evV e]=some (vb (zKy e)):=by
 have a1:=zKU e;have a2:=zKJ e.bf h1;have a3:=zKJ e.af h2;unfold zKy
 (refine zag Γ491 rfl ?_;dsimp only[zNi])
 cases h3:zKo e
 ·rw[h3]at a1;simp -dsimp -implicitDefEqProofs only[go_sem,seval,a1];rfl
 rw[h3]at a1;cases h4:zo7 e.bf
 ·rw[h4]at a2;simp -dsimp -implicitDefEqProofs only[go_sem,seval,a1,a2];rfl
 rw[h4]at a2;simp -dsimp -implicitDefEqProofs only[go_sem,seval,a1,a2,a3]
theorem zKH (e:Evt) {x:Thread} {s:Step} {t i:Nat} (h:EvS e x s t i):Den Γ G 492 [evV e]=some (zS s):=by
 obtain⟨h0,ht,hi,hx,hs⟩:=h;have t1:t<e.p.threads.length:=(zH.1 hx).1;have t2:i<x.steps.length:=(zH.1 hs).1
 (refine zag Γ492 rfl ?_;dsimp only[zNh])
 simp -dsimp -implicitDefEqProofs only[go_sem,seval,ht,hi,hx,hs]
def zKE (e:Evt) (s:Step) (k:Int):Viol:=⟨e.at_,k,s.module,e.ch.thread,e.ch.step⟩
theorem zLm (e:Evt) {x:Thread} {s:Step} {t i:Nat} (h:EvS e x s t i) (k:Int):Den Γ G 493 [evV e,vi k]=some (.agg ((zKE e s k).enc.map V.t)):=by
 have h1:=zKH e h
 (refine zag Γ493 rfl ?_;dsimp only[zNg])
 simp -dsimp -implicitDefEqProofs only[go_sem,seval,h1];rfl
end Rg
end
section
namespace Rg
open Go
def zKS (e:Evt):Option Step:=(e.p.threads[e.ch.thread.toNat]?).bind fun x=>x.steps[e.ch.step.toNat]?
theorem EvS.step {e:Evt} {x:Thread} {s:Step} {t i:Nat} (h:EvS e x s t i):zKS e=some s:=by
 rw[zKS,h.ht,h.hi,Int.toNat_natCast,h.hx,zD,Int.toNat_natCast,h.hs]
structure EvOk (e:Evt):Prop where
 hf:zak e.p=true
 hs:e.p.sane
 af:IsB e.p e.af
 bf:0<=e.at_->IsB e.p e.bf
 th:0<=e.at_-> ∃(t:Nat) (x:Thread) (a:Nat),e.ch.thread=t/\e.p.threads[t]? =some x/\e.af.at_[t]? =some (a:Int)/\(a:Int)<x.points
 st:0<=e.at_->e.ch.step≠ -1-> ∃x s t i,EvS e x s t i
theorem zKp {p:Prog} (hf:zak p=true) {t i:Nat} {x:Thread} {s:Step} (hx:p.threads[t]? =some x) (hs:x.steps[i]? =some s): ∃m,0<=s.module/\s.module<p.modules.length/\p.modules[s.module.toNat]? =some m:=by
 have h1:=(zhJ (zg4 hf hx)).2.2.2;have h2:=zsL h1 i s hs;unfold zaS at h2;split at h2
 ·simp at h2
 ·rename_i hb;simp only[zdW,Bool.or_eq_true,not_or,Bool.not_eq_true',Bool.not_eq_false]at hb;have h3:=hb.1.1.2;simp only[inR,decide_eq_true_eq]at h3;exact⟨_,h3.1,h3.2,zI (by omega)⟩
theorem zMd {p:Prog} (hf:zak p=true) {j:Nat} {m:Contract} (h:p.modules[j]? =some m):m.guar.valid p.cells true=true/\m.guar.w=1/\(m.rely.absent=true\/(m.rely.valid p.cells true=true/\m.rely.w=1)):=by
 have h1:=zsL (zam hf).2.2.1 j m h;rw[Nat.zero_add]at h1;unfold zdH at h1;split at h1
 ·simp at h1
 ·split at h1
  ·simp at h1
  ·split at h1
   ·simp at h1
   ·rename_i hb;simp only[Bool.or_eq_true,zF,not_or,not_and,Bool.not_eq_true',Bool.not_eq_false,zaR,decide_eq_true_eq]at hb;refine⟨hb.2.1.1,hb.2.1.2,?_⟩;cases hr:m.rely.absent
    ·exact .inr ⟨(hb.1 hr).1.1,(hb.1 hr).1.2⟩
    ·exact .inl rfl
def zKO (p:Prog) (c:Int):Bool:=match p.cells[c.toNat]? with
 | some y=>decide (y.thread= -1)
 | none=>false
def zMg (p:Prog) (m:Contract) (s:Step):Bool:=s.set.any fun a=>zKO p a.cell&& !m.frame.contains a.cell
def zKB (e:Evt):List Viol:=match zKy e,zKS e with
 | true,some s=>match e.p.modules[s.module.toNat]? with
   | some m=>if zMg e.p m s then [zKE e s 4]else []
   | none=>[]
 | _,_=>[]
def zKW (e:Evt):List Viol:=match zKy e,zKS e with
 | true,some s=>match e.p.modules[s.module.toNat]? with
   | some m=>if m.guar.eval e.bf.mem e.af.mem=0 then [zKE e s 3]else []
   | none=>[]
 | _,_=>[]
def zKl (l:List Viol):T:=.sl (l.map Viol.enc)
theorem zLc {e:Evt} (h:EvOk e):e.af.buf.length<2^48/\(0<=e.at_->e.bf.buf.length<2^48):=by
 obtain⟨⟨_,_,_,m4⟩,_⟩:=zal (zam h.hf).1;have:=h.af.lb;refine⟨by omega,fun h0=> ?_⟩;have:=(h.bf h0).lb;omega
theorem zKQ {e:Evt} (h:zKy e=true):0<=e.at_/\e.ch.step≠ -1:=by
 simp only[zKy,zKo,zF,decide_eq_true_eq]at h;exact⟨h.1.1.1,h.1.1.2⟩
theorem zLE (e:Evt) (h:EvOk e) (h0:0<=e.at_):Den Γ G 486 [evV e]=some (.t (zKl (zKB e))):=by
 obtain⟨b1,b2⟩:=zLc h;have AE:=zK4 e (b2 h0) b1
 (refine zag Γ486 rfl ?_;dsimp only[zNn])
 cases hb:zKy e
 ·rw[hb]at AE;simp -dsimp -implicitDefEqProofs only[go_sem,seval,AE];simp[zKl,zKB,hb]
 rw[hb]at AE;obtain⟨x,s,t,i,hS⟩:=h.st h0 (zKQ hb).2;obtain⟨m,m0,m1,hm⟩:=zKp h.hf hS.hx hS.hs;have Fe:=zKH e hS;have LN:=zLm e hS 4;simp only[zKE,Viol.enc,List.map_cons,List.map_nil]at LN;have D8:m∈e.p.modules:=zL hm;have H5:m.frame.length<2^48:=(h.hs.mname m D8).2.2;have BA:s.set.length<2^48:=h.hs.sets x (zL hS.hx) s (zL hS.hs);have hF:zKB e=if zMg e.p m s then [zKE e s 4]else []:=by simp only[zKB,hb,hS.step,hm]
 rw[hF];simp -dsimp -implicitDefEqProofs only[go_sem,seval,AE,Fe,m0,m1,hm];refine zaq 2251799780130884 s.set.length (fun j f hh z=>(f 25).v=vi j/\zMg e.p m s=(s.set.drop j).any fun a=>zKO e.p a.cell&& !m.frame.contains a.cell) rfl ⟨by simp -dsimp -implicitDefEqProofs only[go_sem,seval],rfl⟩ ?_;rintro j f u hh z bb hj ⟨g25,hq⟩;have hw:=zan j (by omega)
 by_cases AN:j<s.set.length
 ·have Ba:=eq_true AN;obtain⟨a,ha,Cp⟩:=zai AN;have hr:=((zb7 h.hf hS.hx hS.hs).rng.2 a Cp).1;simp only[inR,decide_eq_true_eq]at hr;obtain⟨c0,c1⟩:=hr;obtain⟨y,hy,_⟩:=zai (show a.cell.toNat<e.p.cells.length by omega);have E0:=zff m.frame a.cell H5;have Bo:zKO e.p a.cell=decide (y.thread= -1):=by simp only[zKO,hy]
  have GW:=zdo ha
  by_cases IP:y.thread= -1
  ·cases CG:m.frame.contains a.cell
   ·rw[CG]at E0;have hO:zMg e.p m s=true:=by rw[hq,GW,List.any_cons,Bo,CG,IP];rfl
    rw[hO];simp -dsimp -implicitDefEqProofs only[go_sem,seval,g25,Ba,ha,c0,c1,hy,IP,E0,LN];rfl
   ·rw[CG]at E0;simp -dsimp -implicitDefEqProofs only[go_sem,seval,g25,Ba,ha,c0,c1,hy,IP,E0];exact⟨AN,by simp -dsimp -implicitDefEqProofs only[go_sem,seval,hw],by rw[hq,GW,List.any_cons,Bo,CG];simp⟩
  ·simp -dsimp -implicitDefEqProofs only[go_sem,seval,g25,Ba,ha,c0,c1,hy,IP];exact⟨AN,by simp -dsimp -implicitDefEqProofs only[go_sem,seval,hw],by rw[hq,GW,List.any_cons,Bo,decide_eq_false IP];rfl⟩
 ·have Ba:=eq_false AN;have:j=s.set.length:=by omega
  subst this;simp -dsimp -implicitDefEqProofs only[go_sem,seval,g25,Ba];rw[hq,List.drop_length];rfl
theorem zLZ (e:Evt) (h:EvOk e) (h0:0<=e.at_):Den Γ G 487 [evV e]=some (.t (zKl (zKW e))):=by
 obtain⟨b1,b2⟩:=zLc h;have AE:=zK4 e (b2 h0) b1
 (refine zag Γ487 rfl ?_;dsimp only[zNm])
 cases hb:zKy e
 ·rw[hb]at AE;simp -dsimp -implicitDefEqProofs only[go_sem,seval,AE];simp[zKl,zKW,hb]
 rw[hb]at AE;obtain⟨x,s,t,i,hS⟩:=h.st h0 (zKQ hb).2;obtain⟨m,m0,m1,hm⟩:=zKp h.hf hS.hx hS.hs;have Fe:=zKH e hS;have LN:=zLm e hS 3;simp only[zKE,Viol.enc,List.map_cons,List.map_nil]at LN;have Ak:=zd4 m.guar e.bf.mem e.af.mem;have hF:zKW e=if m.guar.eval e.bf.mem e.af.mem=0 then [zKE e s 3]else []:=by simp only[zKW,hb,hS.step,hm]
 rw[hF]
 by_cases h1:m.guar.eval e.bf.mem e.af.mem=0
 ·rw[h1]at Ak;rw[if_pos h1];simp -dsimp -implicitDefEqProofs only[go_sem,seval,AE,Fe,m0,m1,hm,Ak,LN];rfl
 ·simp -dsimp -implicitDefEqProofs only[go_sem,seval,AE,Fe,m0,m1,hm,Ak,h1];rfl
theorem zaF.r6 {h:Nat->Option O} {x:Nat} {v:V} {sz:Nat} {rows:List (List V)} (o:zaF h x v sz rows) (a0 a1 a2 a3 a4 a5:Nat) (b:Option O):Rg.rowsS (updC h (x+a0+a1+a2+a3+a4+a5) b) v=some rows:=(o.upd (by omega) b).rowsS
theorem zaF.r7 {h:Nat->Option O} {x:Nat} {v:V} {sz:Nat} {rows:List (List V)} (o:zaF h x v sz rows) (a0 a1 a2 a3 a4 a5 a6:Nat) (b:Option O):Rg.rowsS (updC h (x+a0+a1+a2+a3+a4+a5+a6) b) v=some rows:=(o.upd (by omega) b).rowsS
theorem zaF.r8 {h:Nat->Option O} {x:Nat} {v:V} {sz:Nat} {rows:List (List V)} (o:zaF h x v sz rows) (a0 a1 a2 a3 a4 a5 a6 a7:Nat) (b:Option O):Rg.rowsS (updC h (x+a0+a1+a2+a3+a4+a5+a6+a7) b) v=some rows:=(o.upd (by omega) b).rowsS
theorem zaF.r9 {h:Nat->Option O} {x:Nat} {v:V} {sz:Nat} {rows:List (List V)} (o:zaF h x v sz rows) (a0 a1 a2 a3 a4 a5 a6 a7 a8:Nat) (b:Option O):Rg.rowsS (updC h (x+a0+a1+a2+a3+a4+a5+a6+a7+a8) b) v=some rows:=(o.upd (by omega) b).rowsS
theorem zaF.r10 {h:Nat->Option O} {x:Nat} {v:V} {sz:Nat} {rows:List (List V)} (o:zaF h x v sz rows) (a0 a1 a2 a3 a4 a5 a6 a7 a8 a9:Nat) (b:Option O):Rg.rowsS (updC h (x+a0+a1+a2+a3+a4+a5+a6+a7+a8+a9) b) v=some rows:=(o.upd (by omega) b).rowsS
theorem zaF.r11 {h:Nat->Option O} {x:Nat} {v:V} {sz:Nat} {rows:List (List V)} (o:zaF h x v sz rows) (a0 a1 a2 a3 a4 a5 a6 a7 a8 a9 a10:Nat) (b:Option O):Rg.rowsS (updC h (x+a0+a1+a2+a3+a4+a5+a6+a7+a8+a9+a10) b) v=some rows:=(o.upd (by omega) b).rowsS
theorem zaF.r12 {h:Nat->Option O} {x:Nat} {v:V} {sz:Nat} {rows:List (List V)} (o:zaF h x v sz rows) (a0 a1 a2 a3 a4 a5 a6 a7 a8 a9 a10 a11:Nat) (b:Option O):Rg.rowsS (updC h (x+a0+a1+a2+a3+a4+a5+a6+a7+a8+a9+a10+a11) b) v=some rows:=(o.upd (by omega) b).rowsS
def zKn (l:List Viol):List (List V):=l.map fun v=>v.enc.map V.t
theorem zKh (l:List Viol):(zKn l).length=l.length:=by simp[zKn]
theorem zKi (l:List Viol):((zKn l).all fun r=>decide (r.length=5))=true:=by simp[zKn,Viol.enc]
theorem zKq (l:List Viol) (v:Viol):zKn (l++[v])=zKn l++[v.enc.map V.t]:=by simp[zKn]
theorem zL6 (l:List Viol):zKn l=(l.map Viol.enc).map (·.map V.t):=by simp[zKn]
theorem zMh (l:List Viol): ∀e∈l.map Viol.enc,∀t∈e,T.norm t=t:=by
 intro e he t ht;obtain⟨v,_,rfl⟩:=List.mem_map.1 he;simp only[Viol.enc,List.mem_cons,List.not_mem_nil,or_false]at ht;rcases ht with rfl | rfl | rfl | rfl | rfl<;>rfl
theorem zKR {h:Nat->Option O} {x:Nat} {v:V} {l:List Viol} (o:zaF h x v 5 (zKn l)):Rg.reify h v=some (.t (zKl l)):=by
 rw[zL6]at o;exact o.reify (zMh l)
def zKG (f:Nat->Option Viol) (j:Nat):List Viol:=(List.range j).filterMap f
theorem zKu {f:Nat->Option Viol} {j:Nat} (h:f j=none):zKG f (j+1)=zKG f j:=by
 simp[zKG,List.range_succ,List.filterMap_append,h]
theorem zKr {f:Nat->Option Viol} {j:Nat} {v:Viol} (h:f j=some v):zKG f (j+1)=zKG f j++[v]:=by
 simp[zKG,List.range_succ,List.filterMap_append,h]
theorem zKI (f:Nat->Option Viol) (j:Nat):(zKG f j).length<=j:=by
 have:=List.length_filterMap_le f (List.range j);simpa[zKG]using this
def zKv (e:Evt) (t:Nat):Option Viol:=match e.p.threads[t]?,e.bf.at_[t]? with
 | some x,some n=>if(t:Int)=e.ch.thread\/n= -1 then none else match x.modules[n.toNat]? with
   | some m=>match e.p.modules[m.toNat]? with
     | some c=>if c.rely.op≠0/\c.rely.eval e.bf.mem e.af.mem=0 then some ⟨e.at_,5,m,t,n⟩else none
     | none=>none
   | none=>none
 | _,_=>none
def zLp (e:Evt):List Viol:=if zKy e=true/\zKB e=[]/\zKW e=[]then zKG (zKv e) e.p.threads.length else []
theorem zKt {p:Prog} (hf:zak p=true) {t:Nat} {x:Thread} (hx:p.threads[t]? =some x):
 (x.asserts.length:Int)=x.points/\(x.modules.length:Int)=x.points/\(∀m∈x.modules,0<=m/\m<p.modules.length)/\(∀a∈x.asserts,a.valid p.cells false=true/\a.w=1):=by
 have h:=zg4 hf hx;obtain⟨_,h1,h2,_⟩:=zhJ h;refine⟨h1,h2,?_,?_⟩
 ·unfold zap at h;split at h
  ·simp at h
  ·split at h
   ·simp at h
   ·split at h
    ·simp at h
    ·split at h
     ·simp at h
     ·rename_i hm;intro m D8;simp only[Bool.not_eq_true',Bool.not_eq_false,zN]at hm;have:=hm m D8;simpa[inR]using this
 ·unfold zap at h;split at h
  ·simp at h
  ·split at h
   ·simp at h
   ·split at h
    ·simp at h
    ·split at h
     ·simp at h
     ·split at h
      ·simp at h
      ·rename_i ha;intro a Cp;simp only[Bool.not_eq_true',Bool.not_eq_false,zN]at ha;have:=ha a Cp;simp only[zaR,zF,decide_eq_true_eq]at this;exact this.1
theorem zLA {l:List Viol}:(((l.map Viol.enc).length:Nat):Int)=(l.length:Int):=by simp
theorem zMA (e:Evt) (h:EvOk e) (h0:0<=e.at_):Den Γ G 488 [evV e]=some (.t (zKl (zLp e))):=by
 obtain⟨b1,b2⟩:=zLc h;have AE:=zK4 e (b2 h0) b1;have AG:=zLE e h h0;have Tr:=zLZ e h h0;unfold zKl at AG Tr
 (refine zag Γ488 rfl ?_;dsimp only[zNl])
 cases hb:zKy e
 ·rw[hb]at AE;simp -dsimp -implicitDefEqProofs only[go_sem,seval,AE];simp[zKl,zLp,hb]
 rw[hb]at AE
 by_cases hF:zKB e=[]
 rotate_left
 ·have e1:(((zKB e).length:Nat):Int)>0:=by
   have:(zKB e).length≠0:=fun q=>hF (List.eq_nil_of_length_eq_zero q)
   omega
  simp -dsimp -implicitDefEqProofs only[go_sem,seval,AE,AG,zLA,e1];simp[zKl,zLp,hF]
 rw[hF]at AG
 by_cases hG:zKW e=[]
 rotate_left
 ·have e1:(((zKW e).length:Nat):Int)>0:=by
   have:(zKW e).length≠0:=fun q=>hG (List.eq_nil_of_length_eq_zero q)
   omega
  simp -dsimp -implicitDefEqProofs only[go_sem,seval,AE,AG,Tr,zLA,e1];simp[zKl,zLp,hG]
 rw[hG]at Tr;rw[show zLp e=zKG (zKv e) e.p.threads.length by simp only[zLp,hb,hF,hG,and_self,if_true]];have hB:=h.bf h0;obtain⟨⟨_,_,_,l4⟩,_⟩:=zal (zam h.hf).1;simp -dsimp -implicitDefEqProofs only[go_sem,seval,AE,AG,Tr];refine zaq 316912650057057350373102060024 e.p.threads.length (fun i f h x=>(f 30).v=vi i/\zaF h x (f 3).v 5 (zKn (zKG (zKv e) i))) rfl ⟨by simp -dsimp -implicitDefEqProofs only[go_sem,seval],.inl ⟨by simp -dsimp -implicitDefEqProofs only[go_sem,seval],rfl⟩⟩ ?_;rintro i f u H z bb hi ⟨g30,hO⟩;have hw:=zan i (by omega);have Gn:=zKI (zKv e) i
 by_cases AV:i<e.p.threads.length
 ·have DB:=eq_true AV;obtain⟨x,hx,C1⟩:=zai AV;obtain⟨n,hn,_⟩:=zai (show i<e.bf.at_.length by rw[hB.la];exact AV);obtain⟨n0,n1,_⟩:=hB.at_ i n x hn hx;obtain⟨_,ml,mr,_⟩:=zKt h.hf hx
  by_cases ht:(i:Int)=e.ch.thread
  ·have Ld:zKv e i=none:=by simp only[zKv,hx,hn,ht,true_or,if_true]
   have HI:=ht.symm;simp -dsimp -implicitDefEqProofs only[go_sem,seval,g30,DB,hx,hn,HI];exact⟨AV,by simp -dsimp -implicitDefEqProofs only[go_sem,seval,hw],by rw[zKu Ld];simp -dsimp -implicitDefEqProofs only[go_sem,seval];exact hO.le (by omega)⟩
  have Hw:=eq_false ht
  by_cases Fj:n= -1
  ·have Ld:zKv e i=none:=by simp only[zKv,hx,hn,Fj,or_true,if_true]
   simp -dsimp -implicitDefEqProofs only[go_sem,seval,g30,DB,hx,hn,Hw,Fj];exact⟨AV,by simp -dsimp -implicitDefEqProofs only[go_sem,seval,hw],by rw[zKu Ld];simp -dsimp -implicitDefEqProofs only[go_sem,seval];exact hO.le (by omega)⟩
  have Fh:=eq_false Fj;have p0:0<=n:=by omega
  have p1:n<(x.modules.length:Int):=by omega
  obtain⟨m,hm,D8⟩:=zai (show n.toNat<x.modules.length by omega);obtain⟨q0,q1⟩:=mr m D8;obtain⟨c,hc,_⟩:=zai (show m.toNat<e.p.modules.length by omega);have Ak:=zd4 c.rely e.bf.mem e.af.mem
  by_cases Ao:c.rely.op=0
  ·have Ld:zKv e i=none:=by simp[zKv,hx,hn,ht,Fj,hm,hc,Ao]
   simp -dsimp -implicitDefEqProofs only[go_sem,seval,g30,DB,hx,hn,Hw,Fh,p0,p1,hm,q0,q1,hc,Ao];exact⟨AV,by simp -dsimp -implicitDefEqProofs only[go_sem,seval,hw],by rw[zKu Ld];simp -dsimp -implicitDefEqProofs only[go_sem,seval];exact hO.le (by omega)⟩
  have Tj:=eq_false Ao
  by_cases hE:c.rely.eval e.bf.mem e.af.mem=0
  ·have Dw:zKv e i=some ⟨e.at_,5,m,i,n⟩:=by simp[zKv,hx,hn,ht,Fj,hm,hc,Ao,hE]
   rw[hE]at Ak;have v1:=hO.valOf;have v2:=hO.r2;have v3:=hO.r3;have v4:=hO.r4;have v5:=hO.r5;have v6:=hO.r6;have v7:=hO.r7;have v8:=hO.r8;have v9:=hO.r9;simp -dsimp -implicitDefEqProofs only[go_sem,seval,g30,DB,hx,hn,Hw,Fh,p0,p1,hm,q0,q1,hc,Tj,Ak,v1,v2,v3,v4,v5,v6,v7,v8,v9];refine zav (hO.upd (by omega) _) (by omega) (by rw[zKh];omega) (by decide) rfl (zKi _) ?_;intro v hp hP Bp Aq;have w1:=hP.valOf;simp -dsimp -implicitDefEqProofs only[go_sem,seval,w1,g30];refine⟨AV,by simp -dsimp -implicitDefEqProofs only[go_sem,seval,hw],?_⟩;simp -dsimp -implicitDefEqProofs only[go_sem,seval];rw[zKr Dw,zKq];exact hP.le (by omega)
  ·have Ld:zKv e i=none:=by simp[zKv,hx,hn,ht,Fj,hm,hc,Ao,hE]
   have OA:=eq_false hE;simp -dsimp -implicitDefEqProofs only[go_sem,seval,g30,DB,hx,hn,Hw,Fh,p0,p1,hm,q0,q1,hc,Tj,Ak,OA];exact⟨AV,by simp -dsimp -implicitDefEqProofs only[go_sem,seval,hw],by rw[zKu Ld];simp -dsimp -implicitDefEqProofs only[go_sem,seval];exact hO.le (by omega)⟩
 ·have DB:=eq_false AV;have:i=e.p.threads.length:=by omega
  subst this;have v1:=hO.valOf;have Bh:=zKR hO;have v5:=hO.resVal;simp only[Rg.resVal]at v5;simp -dsimp -implicitDefEqProofs only[go_sem,seval,g30,DB,v1,v5];exact Bh
def zKx (e:Evt) (l:Lock):Int:=match zKo e,zKS e with
 | true,some s=>s.module
 | _,_=>if 0<=e.at_ then(match e.p.threads[e.ch.thread.toNat]?,e.af.at_[e.ch.thread.toNat]? with
   | some x,some a=>x.modules.getD a.toNat 0
   | _,_=>0)else l.module
def zKA (e:Evt) (i:Nat):Option Viol:=match e.p.locks[i]? with
 | some l=>if e.af.mem.getD l.cell.toNat 0≠0\/l.inv.eval e.af.mem e.af.mem≠0 then none else some ⟨e.at_,2,zKx e l,if 0<=e.at_ then e.ch.thread else -1,i⟩
 | none=>none
def zK7 (e:Evt):List Viol:=if zo7 e.af=true then zKG (zKA e) e.p.locks.length else []
def zKw (e:Evt) (x:Thread) (t:Nat) (n:Int):Int:=match zKo e,zKS e with
 | true,some s=>if(t:Int)=e.ch.thread\/(s.kind=6/\s.target=t)then s.module else x.modules.getD n.toNat 0
 | _,_=>x.modules.getD n.toNat 0
def zKY (e:Evt) (t:Nat):Option Viol:=match e.p.threads[t]?,e.af.at_[t]? with
 | some x,some n=>if n= -1 then none else match x.asserts[n.toNat]? with
   | some a=>if a.eval e.af.mem e.af.mem≠0 then none else some ⟨e.at_,1,zKw e x t n,t,n⟩
   | none=>none
 | _,_=>none
def zKF (e:Evt):List Viol:=if zo7 e.af=true then zKG (zKY e) e.p.threads.length else []
theorem zLF {p:Prog} (hf:zak p=true) {j:Nat} {l:Lock} (h:p.locks[j]? =some l):0<=l.cell/\l.cell<p.cells.length/\0<=l.module/\l.module<p.modules.length/\l.inv.valid p.cells false=true/\l.inv.w=1:=by
 have h1:=zsL (zam hf).2.2.2.1 j l h;rw[Nat.zero_add]at h1;unfold zcM at h1;split at h1
 ·simp at h1
 ·rename_i hb;split at h1
  ·simp at h1
  ·split at h1
   ·simp at h1
   ·rename_i hc;simp only[Bool.or_eq_true,not_or,Bool.not_eq_true',Bool.not_eq_false,zar,zF,decide_eq_true_eq,inR,zaR]at hb hc;obtain⟨⟨⟨⟨c0,c1⟩,_⟩,_⟩,m0⟩:=hb;refine⟨c0,?_,m0.1,m0.2,hc.1.1,hc.1.2⟩;split at c1
    ·rename_i y hy;have:=(zH.1 hy).1;omega
    ·simp at c1
theorem zMc (e:Evt) (h:EvOk e):Den Γ G 489 [evV e]=some (.t (zKl (zK7 e))):=by
 obtain⟨b1,b2⟩:=zLc h;have hq:=zKJ e.af b1;have My:=zKU e
 (refine zag Γ489 rfl ?_;dsimp only[zNk])
 cases hb:zo7 e.af
 ·rw[hb]at hq;simp -dsimp -implicitDefEqProofs only[go_sem,seval,hq];simp[zKl,zK7,hb]
 rw[hb]at hq;rw[show zK7 e=zKG (zKA e) e.p.locks.length by simp only[zK7,hb,if_true]];obtain⟨⟨_,_,l3,l4⟩,_⟩:=zal (zam h.hf).1;simp -dsimp -implicitDefEqProofs only[go_sem,seval,hq];refine zaq 79228162514264337593543426168 e.p.locks.length (fun i f h x=>(f 19).v=vi i/\zaF h x (f 3).v 5 (zKn (zKG (zKA e) i))) rfl ⟨by simp -dsimp -implicitDefEqProofs only[go_sem,seval],.inl ⟨by simp -dsimp -implicitDefEqProofs only[go_sem,seval],rfl⟩⟩ ?_;rintro i f u H z bb hi ⟨g19,hO⟩;have hw:=zan i (by omega);have Gn:=zKI (zKA e) i
 by_cases AV:i<e.p.locks.length
 ·have DB:=eq_true AV;obtain⟨l,hl,Hy⟩:=zai AV;obtain⟨c0,c1,m0,m1,_,_⟩:=zLF h.hf hl;have c2:l.cell<(e.af.mem.length:Int):=by rw[h.af.lm];exact c1
  obtain⟨v,hv,_⟩:=zai (show l.cell.toNat<e.af.mem.length by omega);have FD:e.af.mem.getD l.cell.toNat 0=v:=by rw[zK,hv];rfl
  have L3:=zLD l.inv e.af.mem
  by_cases Fz:v=0
  rotate_left
  ·have Ld:zKA e i=none:=by simp only[zKA,hl,FD];rw[if_pos (.inl Fz)]
   have AX:=eq_false Fz;simp -dsimp -implicitDefEqProofs only[go_sem,seval,g19,DB,hl,c0,c2,hv,AX];exact⟨AV,by simp -dsimp -implicitDefEqProofs only[go_sem,seval,hw],by rw[zKu Ld];simp -dsimp -implicitDefEqProofs only[go_sem,seval];exact hO.le (by omega)⟩
  subst Fz
  by_cases hE:l.inv.eval e.af.mem e.af.mem=0
  rotate_left
  ·have Ld:zKA e i=none:=by simp[zKA,hl,hE]
   rw[decide_eq_true hE]at L3;simp -dsimp -implicitDefEqProofs only[go_sem,seval,g19,DB,hl,c0,c2,hv,L3];exact⟨AV,by simp -dsimp -implicitDefEqProofs only[go_sem,seval,hw],by rw[zKu Ld];simp -dsimp -implicitDefEqProofs only[go_sem,seval];exact hO.le (by omega)⟩
  have Tx:e.af.mem.getD l.cell.toNat 0=0:=FD
  have Dw:zKA e i=some ⟨e.at_,2,zKx e l,if 0<=e.at_ then e.ch.thread else -1,i⟩:=by
   simp only[zKA,hl,Tx,hE,ne_eq,not_true_eq_false,or_self,if_false]
  rw[show decide (l.inv.eval e.af.mem e.af.mem≠0)=false by simp[hE]]at L3;have v1:=hO.valOf;have v2:=hO.r2;have v3:=hO.r3;have v4:=hO.r4;have v5:=hO.r5;have v6:=hO.r6;have v7:=hO.r7;have v8:=hO.r8;have v9:=hO.r9;have v10:=hO.r10;have v11:=hO.r11;have v12:=hO.r12
  by_cases DH:e.at_>=0
  ·have HA:=eq_true DH;obtain⟨t,x,a,ht,hx,ha,FI⟩:=h.th DH;obtain⟨_,ml,mr,_⟩:=zKt h.hf hx;have t1:t<e.p.threads.length:=(zH.1 hx).1;have t2:t<e.af.at_.length:=(zH.1 ha).1;have a1:a<x.modules.length:=by omega
   obtain⟨m,hm,_⟩:=zai a1;cases AE:zKo e
   ·have H3:zKx e l=m:=by
     simp only[zKx,AE,if_pos DH,ht,Int.toNat_natCast,hx,ha];rw[zK,hm];rfl
    rw[H3,if_pos DH]at Dw;rw[AE]at My;simp -dsimp -implicitDefEqProofs only[go_sem,seval,g19,DB,hl,c0,c2,hv,L3,HA,ht,hx,ha,hm,t1,t2,a1,My,v1,v2,v3,v4,v5,v6,v7,v8,v9,v10,v11,v12];refine zav (hO.upd (by omega) _) (by omega) (by rw[zKh];omega) (by decide) rfl (zKi _) ?_;intro v hp hP Bp Aq;have w1:=hP.valOf;simp -dsimp -implicitDefEqProofs only[go_sem,seval,w1,g19];refine⟨AV,by simp -dsimp -implicitDefEqProofs only[go_sem,seval,hw],?_⟩;simp -dsimp -implicitDefEqProofs only[go_sem,seval];rw[zKr Dw,zKq];rw[ht];exact hP.le (by omega)
   ·have Az:e.ch.step≠ -1:=by
     simp only[zKo,zF,decide_eq_true_eq]at AE;exact AE.2
    obtain⟨x',s,t',i',hS⟩:=h.st DH Az;have Fe:=zKH e hS;have H3:zKx e l=s.module:=by simp only[zKx,AE,hS.step]
    rw[H3,if_pos DH]at Dw;rw[AE]at My;simp -dsimp -implicitDefEqProofs only[go_sem,seval,g19,DB,hl,c0,c2,hv,L3,HA,ht,hx,ha,hm,t1,t2,a1,My,Fe,v1,v2,v3,v4,v5,v6,v7,v8,v9,v10,v11,v12];refine zav (hO.upd (by omega) _) (by omega) (by rw[zKh];omega) (by decide) rfl (zKi _) ?_;intro v hp hP Bp Aq;have w1:=hP.valOf;simp -dsimp -implicitDefEqProofs only[go_sem,seval,w1,g19];refine⟨AV,by simp -dsimp -implicitDefEqProofs only[go_sem,seval,hw],?_⟩;simp -dsimp -implicitDefEqProofs only[go_sem,seval];rw[zKr Dw,zKq];rw[ht];exact hP.le (by omega)
  ·have HA:=eq_false DH;have AE:zKo e=false:=by simp[zKo,show ¬0<=e.at_ from DH]
   have H3:zKx e l=l.module:=by simp only[zKx,AE];rw[if_neg DH]
   rw[H3,if_neg DH]at Dw;rw[AE]at My;simp -dsimp -implicitDefEqProofs only[go_sem,seval,g19,DB,hl,c0,c2,hv,L3,HA,My,v1,v2,v3,v4,v5,v6,v7,v8,v9,v10,v11,v12];refine zav (hO.upd (by omega) _) (by omega) (by rw[zKh];omega) (by decide) rfl (zKi _) ?_;intro v hp hP Bp Aq;have w1:=hP.valOf;simp -dsimp -implicitDefEqProofs only[go_sem,seval,w1,g19];refine⟨AV,by simp -dsimp -implicitDefEqProofs only[go_sem,seval,hw],?_⟩;simp -dsimp -implicitDefEqProofs only[go_sem,seval];rw[zKr Dw,zKq];exact hP.le (by omega)
 ·have DB:=eq_false AV;have:i=e.p.locks.length:=by omega
  subst this;have v1:=hO.valOf;have Bh:=zKR hO;have v5:=hO.resVal;simp only[Rg.resVal]at v5;simp -dsimp -implicitDefEqProofs only[go_sem,seval,g19,DB,v1,v5];exact Bh
theorem zLM (e:Evt) (h:EvOk e):Den Γ G 490 [evV e]=some (.t (zKl (zKF e))):=by
 obtain⟨b1,b2⟩:=zLc h;have hq:=zKJ e.af b1;have My:=zKU e
 (refine zag Γ490 rfl ?_;dsimp only[zNj])
 cases hb:zo7 e.af
 ·rw[hb]at hq;simp -dsimp -implicitDefEqProofs only[go_sem,seval,hq];simp[zKl,zKF,hb]
 rw[hb]at hq;rw[show zKF e=zKG (zKY e) e.p.threads.length by simp only[zKF,hb,if_true]];obtain⟨⟨_,_,l3,l4⟩,_⟩:=zal (zam h.hf).1;simp -dsimp -implicitDefEqProofs only[go_sem,seval,hq];refine zaq 9903520314283042199191945464 e.p.threads.length (fun i f h x=>(f 20).v=vi i/\zaF h x (f 3).v 5 (zKn (zKG (zKY e) i))) rfl ⟨by simp -dsimp -implicitDefEqProofs only[go_sem,seval],.inl ⟨by simp -dsimp -implicitDefEqProofs only[go_sem,seval],rfl⟩⟩ ?_;rintro i f u H z bb hi ⟨g20,hO⟩;have hw:=zan i (by omega);have Gn:=zKI (zKY e) i
 by_cases AV:i<e.p.threads.length
 ·have DB:=eq_true AV;obtain⟨x,hx,C1⟩:=zai AV;have H4:i<e.af.at_.length:=by rw[h.af.la];exact AV
  obtain⟨n,hn,_⟩:=zai H4;obtain⟨n0,n1,_⟩:=h.af.at_ i n x hn hx;obtain⟨al,ml,mr,_⟩:=zKt h.hf hx
  by_cases Fj:n= -1
  ·have Ld:zKY e i=none:=by simp[zKY,hx,hn,Fj]
   simp -dsimp -implicitDefEqProofs only[go_sem,seval,g20,DB,H4,hx,hn,Fj];exact⟨AV,by simp -dsimp -implicitDefEqProofs only[go_sem,seval,hw],by rw[zKu Ld];simp -dsimp -implicitDefEqProofs only[go_sem,seval];exact hO.le (by omega)⟩
  have Fh:=eq_false Fj;have p0:0<=n:=by omega
  have p1:n<(x.modules.length:Int):=by omega
  have p2:n<(x.asserts.length:Int):=by omega
  obtain⟨m,hm,_⟩:=zai (show n.toNat<x.modules.length by omega);obtain⟨a,ha,_⟩:=zai (show n.toNat<x.asserts.length by omega);have L3:=zLD a e.af.mem
  by_cases hE:a.eval e.af.mem e.af.mem=0
  rotate_left
  ·have Ld:zKY e i=none:=by simp[zKY,hx,hn,Fj,ha,hE]
   rw[decide_eq_true hE]at L3;simp -dsimp -implicitDefEqProofs only[go_sem,seval,g20,DB,H4,hx,hn,Fh,p0,p1,p2,ha,L3];exact⟨AV,by simp -dsimp -implicitDefEqProofs only[go_sem,seval,hw],by rw[zKu Ld];simp -dsimp -implicitDefEqProofs only[go_sem,seval];exact hO.le (by omega)⟩
  have Dw:zKY e i=some ⟨e.at_,1,zKw e x i n,i,n⟩:=by
   simp only[zKY,hx,hn,Fj,if_false,ha,hE,ne_eq,not_true_eq_false]
  have Ku:x.modules.getD n.toNat 0=m:=by rw[zK,hm];rfl
  rw[show decide (a.eval e.af.mem e.af.mem≠0)=false by simp[hE]]at L3;have v1:=hO.valOf;have v2:=hO.r2;have v3:=hO.r3;have v4:=hO.r4;have v5:=hO.r5;have v6:=hO.r6;have v7:=hO.r7;have v8:=hO.r8;have v9:=hO.r9;have v10:=hO.r10;have v11:=hO.r11;have v12:=hO.r12;cases AE:zKo e
  ·have H3:zKw e x i n=m:=by simp only[zKw,AE];exact Ku
   rw[H3]at Dw;rw[AE]at My;simp -dsimp -implicitDefEqProofs only[go_sem,seval,g20,DB,H4,hx,hn,Fh,p0,p1,p2,ha,L3,hm,My,v1,v2,v3,v4,v5,v6,v7,v8,v9,v10,v11,v12];refine zav (hO.upd (by omega) _) (by omega) (by rw[zKh];omega) (by decide) rfl (zKi _) ?_;intro v hp hP Bp Aq;have w1:=hP.valOf;simp -dsimp -implicitDefEqProofs only[go_sem,seval,w1,g20];refine⟨AV,by simp -dsimp -implicitDefEqProofs only[go_sem,seval,hw],?_⟩;simp -dsimp -implicitDefEqProofs only[go_sem,seval];rw[zKr Dw,zKq];exact hP.le (by omega)
  ·have Gu:=AE;simp only[zKo,zF,decide_eq_true_eq]at Gu;obtain⟨x',s,t',i',hS⟩:=h.st Gu.1 Gu.2;have Fe:=zKH e hS;rw[AE]at My
   by_cases hc:(i:Int)=e.ch.thread
   ·have H3:zKw e x i n=s.module:=by simp only[zKw,AE,hS.step,hc,true_or,if_true]
    rw[H3]at Dw;have TC:=eq_true hc;simp -dsimp -implicitDefEqProofs only[go_sem,seval,g20,DB,H4,hx,hn,Fh,p0,p1,p2,ha,L3,hm,My,Fe,TC,v1,v2,v3,v4,v5,v6,v7,v8,v9,v10,v11,v12];refine zav (hO.upd (by omega) _) (by omega) (by rw[zKh];omega) (by decide) rfl (zKi _) ?_;intro v hp hP Bp Aq;have w1:=hP.valOf;simp -dsimp -implicitDefEqProofs only[go_sem,seval,w1,g20];refine⟨AV,by simp -dsimp -implicitDefEqProofs only[go_sem,seval,hw],?_⟩;simp -dsimp -implicitDefEqProofs only[go_sem,seval];rw[zKr Dw,zKq];exact hP.le (by omega)
   have Dr:=eq_false hc
   by_cases hk:s.kind=6
   ·by_cases Tp:s.target=(i:Int)
    ·have H3:zKw e x i n=s.module:=by simp only[zKw,AE,hS.step,hk,Tp,and_self,or_true,if_true]
     rw[H3]at Dw;simp -dsimp -implicitDefEqProofs only[go_sem,seval,g20,DB,H4,hx,hn,Fh,p0,p1,p2,ha,L3,hm,My,Fe,Dr,hk,Tp,v1,v2,v3,v4,v5,v6,v7,v8,v9,v10,v11,v12];refine zav (hO.upd (by omega) _) (by omega) (by rw[zKh];omega) (by decide) rfl (zKi _) ?_;intro v hp hP Bp Aq;have w1:=hP.valOf;simp -dsimp -implicitDefEqProofs only[go_sem,seval,w1,g20];refine⟨AV,by simp -dsimp -implicitDefEqProofs only[go_sem,seval,hw],?_⟩;simp -dsimp -implicitDefEqProofs only[go_sem,seval];rw[zKr Dw,zKq];exact hP.le (by omega)
    ·have Tu:=eq_false Tp
     have H3:zKw e x i n=m:=by
      simp only[zKw,AE,hS.step,hc,Tp,and_false,or_self,if_false];exact Ku
     rw[H3]at Dw;simp -dsimp -implicitDefEqProofs only[go_sem,seval,g20,DB,H4,hx,hn,Fh,p0,p1,p2,ha,L3,hm,My,Fe,Dr,hk,Tu,v1,v2,v3,v4,v5,v6,v7,v8,v9,v10,v11,v12];refine zav (hO.upd (by omega) _) (by omega) (by rw[zKh];omega) (by decide) rfl (zKi _) ?_;intro v hp hP Bp Aq;have w1:=hP.valOf;simp -dsimp -implicitDefEqProofs only[go_sem,seval,w1,g20];refine⟨AV,by simp -dsimp -implicitDefEqProofs only[go_sem,seval,hw],?_⟩;simp -dsimp -implicitDefEqProofs only[go_sem,seval];rw[zKr Dw,zKq];exact hP.le (by omega)
   ·have AT:=eq_false hk
    have H3:zKw e x i n=m:=by
     simp only[zKw,AE,hS.step,hc,hk,false_and,or_self,if_false];exact Ku
    rw[H3]at Dw;simp -dsimp -implicitDefEqProofs only[go_sem,seval,g20,DB,H4,hx,hn,Fh,p0,p1,p2,ha,L3,hm,My,Fe,Dr,AT,v1,v2,v3,v4,v5,v6,v7,v8,v9,v10,v11,v12];refine zav (hO.upd (by omega) _) (by omega) (by rw[zKh];omega) (by decide) rfl (zKi _) ?_;intro v hp hP Bp Aq;have w1:=hP.valOf;simp -dsimp -implicitDefEqProofs only[go_sem,seval,w1,g20];refine⟨AV,by simp -dsimp -implicitDefEqProofs only[go_sem,seval,hw],?_⟩;simp -dsimp -implicitDefEqProofs only[go_sem,seval];rw[zKr Dw,zKq];exact hP.le (by omega)
 ·have DB:=eq_false AV;have:i=e.p.threads.length:=by omega
  subst this;have v1:=hO.valOf;have Bh:=zKR hO;have v5:=hO.resVal;simp only[Rg.resVal]at v5;simp -dsimp -implicitDefEqProofs only[go_sem,seval,g20,DB,v1,v5];exact Bh
def chk (e:Evt):Nat->List Viol
 | 0=>zKB e
 | 1=>zKW e
 | 2=>zLp e
 | 3=>zK7 e
 | _=>zKF e
theorem zMu (e:Evt) (h:EvOk e) {i:Nat} (hi:i<5) (h0:i<3->0<=e.at_):Den Γ G (486+i) [evV e]=some (.t (zKl (chk e i))):=by
 match i,hi,h0 with
 | 0,_,h0=>exact zLE e h (h0 (by omega))
 | 1,_,h0=>exact zLZ e h (h0 (by omega))
 | 2,_,h0=>exact zMA e h (h0 (by omega))
 | 3,_,_=>exact zMc e h
 | 4,_,_=>exact zLM e h
def zMG (e:Evt):List V:=e.row.map V.t
def zL3 (e:Evt):List V:=[.t (.sl (e.p.cells.map Cell.enc)),.t (.sl (e.p.modules.map Contract.enc)),.t (.sl (e.p.locks.map Lock.enc)),.t (.sl (e.p.threads.map Thread.enc)),vi e.at_,vi e.ch.thread,vi e.ch.step,vi e.ch.cell,
 .t .nils,.t .nils,.t .nils,.t (ints e.af.mem),.t (ints e.af.at_),.t (.sl (e.af.buf.map fun b=>[.sl (b.map Entry.enc)]))]
def EvR (e:Evt) (R:List V):Prop:=R=zMG e\/(e.bf=⟨[],[],[]⟩/\R=zL3 e)
theorem zLI {e:Evt} {g:Nat} {L:List Viol} (hg:Den Γ G g [evV e]=some (.t (zKl L))) {h:Nat->Option O} {ke n:Nat} {frz:Bool} {R:List V} (hR:EvR e R) (hk:h ke=some (.rows 14 [R] frz)):
 ∃r h' n',DenR Γ G 500 [.t (.fn g [] []),.mp ke 0 0] h n=some (r,h',n')/\r= .t (zKl L)/\n<=n'/\(∃frz',h' ke=some (.rows 14 [R] frz'))/\ ∀q,q≠ke->h' q=h q:=by
 rcases hR with rfl | ⟨hb,rfl⟩
 ·unfold zMG at hk⊢;simp only[List.map_cons,List.map_nil]at hk⊢
  (refine zay Γ500 rfl ?_;dsimp only[zM2])
  simp -dsimp -implicitDefEqProofs only[go_sem,seval,hk,hg];refine zs5 hk (by simp[zba,zca,hk]) fun h' Az RL=> ?_
  simp -dsimp -implicitDefEqProofs only[go_sem,seval];refine⟨rfl,by simp -dsimp -implicitDefEqProofs only[go_sem,seval];omega,RL,Az⟩
 ·unfold zL3 at hk⊢
  have B9:Den Γ G g [.t (.ip [.sl (e.p.cells.map Cell.enc),.sl (e.p.modules.map Contract.enc),.sl (e.p.locks.map Lock.enc),.sl (e.p.threads.map Thread.enc),ti e.at_,ti e.ch.thread,ti e.ch.step,ti e.ch.cell,
   .sl [],.sl [],.sl [],ints e.af.mem,ints e.af.at_,.sl (e.af.buf.map fun b=>[.sl (b.map Entry.enc)])])]=some (.t (zKl L)):=by
   have h2:=hg;unfold evV Evt.row at h2;rw[hb]at h2;exact h2
  (refine zay Γ500 rfl ?_;dsimp only[zM2])
  simp -dsimp -implicitDefEqProofs only[go_sem,seval,hk,B9];refine zs5 hk (by simp[zba,zca,hk]) fun h' Az RL=> ?_
  simp -dsimp -implicitDefEqProofs only[go_sem,seval];refine⟨rfl,by simp -dsimp -implicitDefEqProofs only[go_sem,seval];omega,RL,Az⟩
theorem zLS (h:Nat->Option O) (n:Nat):
 ∃r h' n',DenR Γ G 485 [] h n=some (r,h',n')/\r= .agg [.ifc 20000 (.t (.fn 486 [] [])),.ifc 20000 (.t (.fn 487 [] [])),.ifc 20000 (.t (.fn 488 [] [])),.ifc 20000 (.t (.fn 489 [] [])),.ifc 20000 (.t (.fn 490 [] []))]/\h'=h/\n<=n':=by
 (refine zay Γ485 rfl ?_;dsimp only[zNo])
 simp -dsimp -implicitDefEqProofs only[go_sem,seval];exact⟨rfl,rfl,by simp -dsimp -implicitDefEqProofs only[go_sem,seval];omega⟩
def zKz (p:Prog) (run:List Choice) (cs:List Config) (i:Nat):Evt:=
 ⟨p,(i:Int)-1,if i=0 then⟨0,0,0⟩else run.getD (i-1) ⟨0,0,0⟩,if i=0 then⟨[],[],[]⟩else cs.getD (i-1) ⟨[],[],[]⟩,cs.getD i ⟨[],[],[]⟩⟩
def zLw (e:Evt) (a:Nat):Nat->List Viol
 | 0=>[]
 | j+1=>zLw e a j++chk e (a+j)
def zKD (p:Prog) (run:List Choice) (cs:List Config) (i:Nat):List Viol:=
 if i=0 then zLw (zKz p run cs i) 3 2 else zLw (zKz p run cs i) 0 5
def zKj (p:Prog) (run:List Choice) (cs:List Config):Nat->List Viol
 | 0=>[]
 | i+1=>zKj p run cs i++zKD p run cs i
section
@[go_sem ↓]theorem zM7 {d:Bool} {p:Nat} {l:List ROp} {Q:M->Prop} {sl:Nat->Slot} {u:Nat->Bool} {h:Nat->Option O} {n b:Nat} (t x:Nat) (mt:List (Nat×Nat)) (args:List Opd) (w:W4 _ _ _ _):
 wO Γ G d p (⟨none,some t,.call true (.m mt x) args⟩::l) Q ⟨sl,u,h,n,b⟩ w=
  fnY (zaW G sl (.m mt x)) (fun g a c=>zhE (fun vs=>zvK (u t) (DenR Γ G g (a++vs++c) h n) (fun r h' n'=>wO Γ G d (p+1) l Q ⟨updC sl t ⟨r,none,none⟩,u,h',n',b⟩ ⟨0⟩) ⟨0⟩) ⟨0⟩ (zdE G sl args))
   (fun k=>zhE (fun vs=>zvK (u t) (DenY Γ G k vs h n) (fun r h' n'=>wO Γ G d (p+1) l Q ⟨updC sl t ⟨r,none,none⟩,u,h',n',b⟩ ⟨0⟩) ⟨0⟩) ⟨0⟩ (zdE G sl args)) ⟨0⟩ ⟨0⟩:=by
 unfold wO;rw[zaX];rw[zbs];simp only[ziE,za2,zgD]
 cases zaW G sl (.m mt x)with
 | none=>cases zdE G sl args<;>rfl
 | some v=>
   simp only[zD,fnY]
   cases zfC v with
   | none=>
     simp only
     cases ztL v with
     | none=>cases zdE G sl args<;>rfl
     | some k=>
       simp only
       cases zdE G sl args with
       | none=>rfl
       | some vs=>
         simp only[zhE,true_and];have e:=zvo (Γ:=Γ) (G:=G) (d:=d) (t:=t) (l:=l) (p:=p) (Q:=Q) (sl:=sl) (u:=u) (h:=h) (n:=n) (b:=b) (k:=k) (vs:=vs);unfold wO at e;rw[zaX]at e
         exact e
   | some q=>
     obtain⟨g,a,c⟩:=q;simp only
     cases zdE G sl args with
     | none=>rfl
     | some vs=>
       simp only[zhE,if_true];have e:=zpM (Γ:=Γ) (G:=G) (d:=d) (t:=t) (l:=l) (p:=p) (Q:=Q) (sl:=sl) (u:=u) (h:=h) (n:=n) (b:=b) (g:=g) (vs:=a++vs++c);unfold wO at e;rw[zaX]at e;exact e
end
abbrev zNB:List (List V):=[[.ifc 20000 (.t (.fn 486 [] []))],[.ifc 20000 (.t (.fn 487 [] []))],[.ifc 20000 (.t (.fn 488 [] []))],[.ifc 20000 (.t (.fn 489 [] []))],[.ifc 20000 (.t (.fn 490 [] []))]]
theorem zMt (e:Evt) (h:EvOk e) (i:Nat):(chk e i).length<=4:=by
 obtain⟨⟨_,_,l3,l4⟩,_⟩:=zal (zam h.hf).1
 match i with
 | 0=>simp only[chk,zKB];split<;>(try split)<;>(try split)<;>simp
 | 1=>simp only[chk,zKW];split<;>(try split)<;>(try split)<;>simp
 | 2=>
   simp only[chk,zLp];split
   ·exact Nat.le_trans (zKI _ _) (by omega)
   ·simp
 | 3=>
   simp only[chk,zK7];split
   ·exact Nat.le_trans (zKI _ _) (by omega)
   ·simp
 | i+4=>
   simp only[chk,zKF];split
   ·exact Nat.le_trans (zKI _ _) (by omega)
   ·simp
theorem zLv (e:Evt) (h:EvOk e) (a:Nat): ∀j,(zLw e a j).length<=4*j
 | 0=>by simp[zLw]
 | j+1=>by
   rw[zLw,zM];have:=zLv e h a j;have:=zMt e h (a+j);omega
theorem zK2 (h:Nat->Option O) (L:List Viol):rowsS h (.t (zKl L))=some (zKn L):=by
 simp[zKl,rowsS,zKn]
theorem zK6 (a b:List Viol):zKn (a++b)=zKn a++zKn b:=by simp[zKn]
theorem zMv (q:Nat) (hq:q<5):zNB[q]? =some [.ifc 20000 (.t (.fn (486+q) [] []))]:=by
 match q,hq with
 | 0,_=>rfl
 | 1,_=>rfl
 | 2,_=>rfl
 | 3,_=>rfl
 | 4,_=>rfl
theorem zLz (p:Prog) (run:List Choice) (cs:List Config) (hn:cs.length<=run.length+1) (hl:run.length<=200) (Bm: ∀i,i<cs.length->EvOk (zKz p run cs i)):
 Den Γ G 479 [(zP p),.t (.sl (run.map Choice.enc)),.t (.sl (cs.map Config.enc))]=some (.t (zKl (zKj p run cs cs.length))):=by
 (refine zag Γ479 rfl ?_;dsimp only[zNt])
 simp -dsimp -implicitDefEqProofs only[go_sem,seval];refine zas (zLS _ _) ?_;rintro _ _ n' ⟨rfl,rfl,Jt⟩;simp -dsimp -implicitDefEqProofs only[go_sem,seval];refine zaq 2305843009213456000 cs.length (fun i f h x=>(f 18).v=vi i/\zaF h x (f 7).v 5 (zKn (zKj p run cs i))/\(zKj p run cs i).length<=20*i/\h 4=some (.rows 1 zNB false)/\5<=x) rfl ⟨by simp -dsimp -implicitDefEqProofs only[go_sem,seval],.inl ⟨by simp -dsimp -implicitDefEqProofs only[go_sem,seval],rfl⟩,by simp[zKj],by simp -dsimp -implicitDefEqProofs only[go_sem,seval],by simp -dsimp -implicitDefEqProofs only[go_sem,seval];omega⟩ ?_;rintro i f u H z bb hi ⟨g18,hO,Ac,h4,hz⟩;have hw:=zan i (by omega)
 by_cases AV:i<cs.length
 ·have DB:=eq_true AV;obtain⟨c,hc,_⟩:=zai AV;have hE:=Bm i AV;have Tl:=fun j=>zMt _ hE j
  have FP:IntKind.i64.wrap ((i:Int)-1)=(i:Int)-1:=zaH (by omega);have Tm:(zKz p run cs i).af=c:=by simp only[zKz,zK,hc,Option.getD_some]
  by_cases Dq:i=0
  ·subst Dq;have Fn:((0:Int)<(cs.length:Int))=True:=eq_true (by omega);have Ts:IntKind.i64.wrap (-1)= -1:=rfl;have RK:zKj p run cs (0+1)=zKj p run cs 0++zLw (zKz p run cs 0) 3 2:=by simp only[zKj,zKD,if_true]
   simp -dsimp -implicitDefEqProofs only[go_sem,seval,g18,Fn,DB,hc,Ts,h4];refine zaq 1151795604700020864 2 (fun j f h x=>(f 50).v=vi j/\zaF h x (f 7).v 5 (zKn (zKj p run cs 0++zLw (zKz p run cs 0) 3 j))/\h 4=some (.rows 1 zNB false)/\(∃frz,h (z+1+6+5)=some (.rows 14 [zL3 (zKz p run cs 0)] frz))/\z+1+6+6<=x) rfl ?_ ?_
   ·refine⟨by simp -dsimp -implicitDefEqProofs only[go_sem,seval],?_,by simp -dsimp -implicitDefEqProofs only[go_sem,seval];exact h4,⟨false,?_⟩,by simp -dsimp -implicitDefEqProofs only[go_sem,seval];omega⟩
    ·simp -dsimp -implicitDefEqProofs only[go_sem,seval];simp only[zLw,List.append_nil];exact(hO.upd (q:=z+1+6+5) (by omega) _).le (by omega)
    ·simp -dsimp -implicitDefEqProofs only[go_sem,seval];simp only[zL3,zKz,if_true,zK,hc,Option.getD_some];rfl
   rintro j f2 u2 H2 z2 bb2 hj ⟨g50,Cz,SY,⟨frz,Ej⟩,Fb⟩;have C9:=zan j (by omega);have By:=zLv _ hE 3 j
   by_cases AN:j<2
   ·have Ba:((j:Int)<2)=True:=eq_true (by omega);have Ag:=zMv (3+j) (by omega);have L2:=zMu _ hE (i:=3+j) (by omega) (fun h=>absurd h (by omega));have w1:=Cz.valOf;simp -dsimp -implicitDefEqProofs only[go_sem,seval,g50,Ba,SY,Ag,w1];refine zas (zLI L2 (.inr ⟨rfl,rfl⟩) Ej) ?_;rintro r h3 n3 ⟨rfl,N1,⟨frz',Tf⟩,Aq⟩;have HP:zbg (f2 7).v (z+1+6+5):=Cz.offAt fun rs h=>by rw[Ej]at h;cases h
    have SS:zbg (f2 7).v 4:=Cz.offAt fun rs h=>by rw[SY]at h;cases h
    have Hl:zaF h3 z2 (f2 7).v 5 (zKn (zKj p run cs 0++zLw (zKz p run cs 0) 3 j)):=Cz.keep (Nat.le_refl _) fun q q1 q2=>Aq q (by rintro rfl;exact q2 HP)
    have r1:=Hl.rowsS;have r2:=zK2 h3 (chk (zKz p run cs 0) (3+j));have v1:=Hl.valOf;simp -dsimp -implicitDefEqProofs only[go_sem,seval,r1,r2,v1];refine zpb Hl (by omega) (by rw[zKh,zKh,zM];have:=Tl (3+j);omega) (by decide) (zKi _) (zKi _) ?_;intro v hp hP AT AF;have w1:=hP.valOf;simp -dsimp -implicitDefEqProofs only[go_sem,seval,w1,g50];refine⟨by omega,by simp -dsimp -implicitDefEqProofs only[go_sem,seval,C9],?_,?_,?_,?_⟩
    ·simp -dsimp -implicitDefEqProofs only[go_sem,seval];rw[<- zK6,zQ]at hP;exact hP.le (by omega)
    ·simp -dsimp -implicitDefEqProofs only[go_sem,seval];rw[AT 4 (by omega) SS,Aq 4 (by omega)];exact SY
    ·simp -dsimp -implicitDefEqProofs only[go_sem,seval];exact⟨frz',by rw[AT _ (by omega) HP];exact Tf⟩
    ·simp -dsimp -implicitDefEqProofs only[go_sem,seval];omega
   ·have:j=2:=by omega
    subst this;simp -dsimp -implicitDefEqProofs only[go_sem,seval,g50,g18];refine⟨AV,by simp -dsimp -implicitDefEqProofs only[go_sem,seval],?_,?_,?_,?_⟩
    ·simp -dsimp -implicitDefEqProofs only[go_sem,seval];rw[RK];exact Cz.le (by omega)
    ·rw[RK,zM];omega
    ·simp -dsimp -implicitDefEqProofs only[go_sem,seval];exact SY
    ·simp -dsimp -implicitDefEqProofs only[go_sem,seval];omega
  ·have B8:=Dq;have Dq:(i:Int)>0:=by omega
   have RK:zKj p run cs (i+1)=zKj p run cs i++zLw (zKz p run cs i) 0 5:=by simp only[zKj,zKD,if_neg B8]
   obtain⟨y,hy,_⟩:=zai (show i-1<run.length by omega);obtain⟨d,hd,_⟩:=zai (show i-1<cs.length by omega);have t1:((i:Int)-1).toNat=i-1:=by omega
   have t2:0<=(i:Int)-1:=by omega
   have t3:(i:Int)-1<(run.length:Int):=by omega
   have t4:(i:Int)-1<(cs.length:Int):=by omega
   simp -dsimp -implicitDefEqProofs only[go_sem,seval,g18,DB,hc,FP,Dq,t1,t2,t3,t4,hy,hd,h4];refine zaq 1151795604700020864 5 (fun j f h x=>(f 50).v=vi j/\zaF h x (f 7).v 5 (zKn (zKj p run cs i++zLw (zKz p run cs i) 0 j))/\h 4=some (.rows 1 zNB false)/\(∃frz,h (z+1+6+5)=some (.rows 14 [zMG (zKz p run cs i)] frz))/\z+1+6+6<=x) rfl ?_ ?_
   ·refine⟨by simp -dsimp -implicitDefEqProofs only[go_sem,seval],?_,by simp -dsimp -implicitDefEqProofs only[go_sem,seval];exact h4,⟨false,?_⟩,by simp -dsimp -implicitDefEqProofs only[go_sem,seval];omega⟩
    ·simp -dsimp -implicitDefEqProofs only[go_sem,seval];simp only[zLw,List.append_nil];refine hO.keep (by omega) fun q hq _=> ?_
     have:q≠z+1+6+5:=by omega
     simp only[zaC,zaA,zaa,if_neg this]
    ·simp -dsimp -implicitDefEqProofs only[go_sem,seval];simp only[zMG,Evt.row,List.map_cons,List.map_nil,zKz,if_neg B8,zK,hc,hy,hd,Option.getD_some]
   rintro j f2 u2 H2 z2 bb2 hj ⟨g50,Cz,SY,⟨frz,Ej⟩,Fb⟩;have C9:=zan j (by omega);have By:=zLv _ hE 0 j
   by_cases AN:j<5
   ·have Ba:((j:Int)<5)=True:=eq_true (by omega);have Ag:=zMv j (by omega);have L2:=zMu _ hE (i:=j) (by omega) (fun _=>by simp only[zKz];omega);have w1:=Cz.valOf;simp -dsimp -implicitDefEqProofs only[go_sem,seval,g50,Ba,SY,Ag,w1];refine zas (zLI L2 (.inl rfl) Ej) ?_;rintro r h3 n3 ⟨rfl,N1,⟨frz',Tf⟩,Aq⟩;have HP:zbg (f2 7).v (z+1+6+5):=Cz.offAt fun rs h=>by rw[Ej]at h;cases h
    have SS:zbg (f2 7).v 4:=Cz.offAt fun rs h=>by rw[SY]at h;cases h
    have Hl:zaF h3 z2 (f2 7).v 5 (zKn (zKj p run cs i++zLw (zKz p run cs i) 0 j)):=Cz.keep (Nat.le_refl _) fun q q1 q2=>Aq q (by rintro rfl;exact q2 HP)
    have r1:=Hl.rowsS;have r2:=zK2 h3 (chk (zKz p run cs i) j);have v1:=Hl.valOf;simp -dsimp -implicitDefEqProofs only[go_sem,seval,r1,r2,v1];refine zpb Hl (by omega) (by rw[zKh,zKh,zM];have:=Tl j;omega) (by decide) (zKi _) (zKi _) ?_;intro v hp hP AT AF;have w1:=hP.valOf;simp -dsimp -implicitDefEqProofs only[go_sem,seval,w1,g50];refine⟨by omega,by simp -dsimp -implicitDefEqProofs only[go_sem,seval,C9],?_,?_,?_,?_⟩
    ·simp -dsimp -implicitDefEqProofs only[go_sem,seval];rw[<- zK6,zQ]at hP;rw[show zLw (zKz p run cs i) 0 (j+1)=zLw (zKz p run cs i) 0 j++chk (zKz p run cs i) j by rw[zLw,Nat.zero_add]];exact hP.le (by omega)
    ·simp -dsimp -implicitDefEqProofs only[go_sem,seval];rw[AT 4 (by omega) SS,Aq 4 (by omega)];exact SY
    ·simp -dsimp -implicitDefEqProofs only[go_sem,seval];exact⟨frz',by rw[AT _ (by omega) HP];exact Tf⟩
    ·simp -dsimp -implicitDefEqProofs only[go_sem,seval];omega
   ·have:j=5:=by omega
    subst this;simp -dsimp -implicitDefEqProofs only[go_sem,seval,g50,g18,hw];refine⟨AV,by simp -dsimp -implicitDefEqProofs only[go_sem,seval],?_,?_,?_,?_⟩
    ·simp -dsimp -implicitDefEqProofs only[go_sem,seval];rw[RK];exact Cz.le (by omega)
    ·rw[RK,zM];omega
    ·simp -dsimp -implicitDefEqProofs only[go_sem,seval];exact SY
    ·simp -dsimp -implicitDefEqProofs only[go_sem,seval];omega
 ·have DB:=eq_false AV;have:i=cs.length:=by omega
  subst this;have v1:=hO.valOf;have Bh:=zKR hO;have v5:=hO.resVal;simp only[Rg.resVal]at v5;simp -dsimp -implicitDefEqProofs only[go_sem,seval,g18,DB,v1,v5];exact Bh
def zGj (l:List Config):List (List V):=l.map zue
theorem zGo (l:List Config):(zGj l).length=l.length:=by simp[zGj]
theorem zGE (l:List Config):((zGj l).all fun r=>decide (r.length=3))=true:=by simp[zGj,zue]
theorem zHB (l:List Config) (c:Config):zGj (l++[c])=zGj l++[zue c]:=by simp[zGj]
theorem zIk {h:Nat->Option O} {n ky k12:Nat} {env:Nat->V} {vL:V} {lst:List Config} {c:Config} (hk:h ky=some (.loop env [40,41] zGs .ready)) (e12:env 12= .mp k12 0 0)
 (h12:h k12=some (.rows 1 [[vL]] false)) (oL:zaF h n vL 3 (zGj lst)) (FZ:lst.length<2^30) (by_:ky<n) (bL:k12<n):
 ∃h' n',DenY Γ G ky [.agg (zue c),vi 0] h n=some (vb true,h',n')/\h' ky=some (.loop env [40,41] zGs .ready)/\(∃vL',h' k12=some (.rows 1 [[vL']] false)/\zaF h' n' vL' 3 (zGj (lst++[c]))/\(∀j,j<n->zbg vL' j))/\n<=n'/\
  (∀j,j<n->j≠ky->j≠k12->zbg vL j->h' j=h j):=by
 have:=zjy (Γ:=Γ) (G:=G) (vs:=[.agg (zue c),vi 0]) (n:=n) (P:=fun ex h' n'=>ex= .normal/\h' ky=some (.loop env [40,41] zGs .busy)/\(∃vL',h' k12=some (.rows 1 [[vL']] false)/\zaF h' n' vL' 3 (zGj (lst++[c]))/\(∀j,j<n->zbg vL' j))/\n<=n'/\
  (∀j,j<n->j≠ky->j≠k12->zbg vL j->h' j=h j)) hk rfl (fun ex h' n' hP=>⟨_,_,_,hP.2.1⟩) (by
  have nL:k12≠ky:=zcV h12 hk (by simp);have OZ:zbg vL ky:=oL.offAt fun rs h=>by rw[hk]at h;cases h
  have u1:(ky=n+0)=False:=eq_false (by omega);have u2:(k12=n+0)=False:=eq_false (by omega);have u3:(n+0=ky)=False:=eq_false (by omega);have u4:(n+0=k12)=False:=eq_false (by omega);have hv:=oL.valOf;unfold zue
  have o1: ∀a1 a2 a3 a4 a5,zaF (updC (updC (updC (updC (updC h ky a1) (n+0) a2) (n+0) a3) ky a4) (n+2+1+2+2) a5) (n+2+1+2+2+1) vL 3 (zGj lst):=fun a1 a2 a3 a4 a5=>oL.keep (by omega) fun q q1 q2=>by
   have:q≠ky:=by rintro rfl;exact q2 OZ
   rw[zaa,if_neg (by omega),zaa,if_neg this,zaa,if_neg (by omega),zaa,if_neg (by omega),zaa,if_neg this]
  have r1:=fun a1 a2 a3 a4 a5=>(o1 a1 a2 a3 a4 a5).rowsS
  simp -dsimp -implicitDefEqProofs only[go_sem,seval,e12,h12,nL,u1,u2,u3,u4,hv,r1];refine zav (o1 _ _ _ _ _) (by omega) (by rw[zGo];omega) (by decide) rfl (zGE _) ?_;intro v hp hP Bn A8;have w1:=hP.valOf;have w2:=hP.cellsV;unfold V.cells at w2;have Ql:zbg vL k12:=oL.offAt fun rs h=>by rw[h12]at h;cases h
  have y1:=A8 k12 (by omega) Ql;rw[zaa,if_neg (by omega),zaa,if_neg nL,zaa,if_neg (by omega),zaa,if_neg (by omega),zaa,if_neg nL,h12]at y1;have y2:=A8 ky (by omega) OZ;rw[zaa,if_neg (by omega),zaa,if_pos rfl]at y2;simp -dsimp -implicitDefEqProofs only[go_sem,seval,w1,w2,e12,nL,u1,u2,u3,u4,y1];refine⟨rfl,?_,⟨v,by simp only[zaC,zaA];rw[zaa,if_pos rfl],?_,fun j hj=>Bn j (by omega)⟩,by simp -dsimp -implicitDefEqProofs only[go_sem,seval];omega,fun j j1 j2 j3 j4=> ?_⟩
  ·simp only[zaC,zaA];rw[zaa,if_neg (Ne.symm nL),y2];rfl
  ·rw[zHB];refine hP.keep (by simp -dsimp -implicitDefEqProofs only[go_sem,seval];omega) fun q q1 q2=> ?_
   simp only[zaC,zaA];rw[zaa,if_neg];rintro rfl;exact q2 (Bn _ (by omega))
  ·simp only[zaC,zaA]
   rw[zaa,if_neg j3,A8 j (by omega) j4,zaa,if_neg (by omega),zaa,if_neg j2,zaa,if_neg (by omega),zaa,if_neg (by omega),zaa,if_neg j2])
 obtain⟨ex,h',n',⟨rfl,q1,⟨vL',q2,q3,q3'⟩,q4,q5⟩,env',ps',bd',q6,q7⟩:=this;rw[q1]at q6;simp only[zA,O.loop.injEq]at q6;obtain⟨rfl,rfl,rfl,_⟩:=q6;have nL:k12≠ky:=zcV h12 hk (by simp);refine⟨_,n',q7,by rw[zaa,if_pos rfl];rfl,⟨vL',by rw[zaa,if_neg nL];exact q2,?_,q3'⟩,q4,fun j j1 j2 j3 j4=>by rw[zaa,if_neg j2];exact q5 j j1 j2 j3 j4⟩
 exact q3.keep (Nat.le_refl _) fun q r1 r2=>by
  have:q≠ky:=by rintro rfl;exact r2 (q3.offAt fun rs h=>by rw[q1]at h;cases h)
  rw[zaa,if_neg this]
theorem zIc {h:Nat->Option O} {n ky k6 k7 k8 k12:Nat} {env:Nat->V} {vL:V} {lst:List Config} {c:Config} {e:Int} {x6 x7 x8:V} (he:e≠0) (hk:h ky=some (.loop env [40,41] zGs .ready)) (e12:env 12= .mp k12 0 0) (e6:env 6= .mp k6 0 0) (e7:env 7= .mp k7 0 0) (e8:env 8= .mp k8 0 0)
 (h12:h k12=some (.rows 1 [[vL]] false)) (h6:h k6=some (.rows 1 [[x6]] false)) (h7:h k7=some (.rows 1 [[x7]] false)) (h8:h k8=some (.rows 1 [[x8]] false)) (n67:k6≠k7) (n68:k6≠k8) (n78:k7≠k8) (n126:k12≠k6) (n127:k12≠k7)
 (oL:zaF h n vL 3 (zGj lst)) (FZ:lst.length<2^30) (by_:ky<n) (bL:k12<n) (b6:k6<n) (b7:k7<n) (b8:k8<n):
 ∃h' n',DenY Γ G ky [.agg (zue c),vi e] h n=some (vb false,h',n')/\h' ky=some (.loop env [40,41] zGs (.done .ret))/\h' k6=some (.rows 1 [[vL]] false)/\h' k7=some (.rows 1 [[vi 110]] false)/\h' k8=some (.rows 1 [[vi ((lst.length:Int)-1)]] false)/\zaF h' n' vL 3 (zGj lst)/\n<=n':=by
 have:=zjy (Γ:=Γ) (G:=G) (vs:=[.agg (zue c),vi e]) (n:=n) (P:=fun ex h' n'=>ex= .ret/\h' ky=some (.loop env [40,41] zGs .busy)/\h' k6=some (.rows 1 [[vL]] false)/\h' k7=some (.rows 1 [[vi 110]] false)/\h' k8=some (.rows 1 [[vi ((lst.length:Int)-1)]] false)/\zaF h' n' vL 3 (zGj lst)/\n<=n') hk rfl (fun ex h' n' hP=>⟨_,_,_,hP.2.1⟩) (by
  have nL:k12≠ky:=zcV h12 hk (by simp);have m6:k6≠ky:=zcV h6 hk (by simp);have m7:k7≠ky:=zcV h7 hk (by simp);have m8:k8≠ky:=zcV h8 hk (by simp);have u1:(ky=n+0)=False:=eq_false (by omega);have u2:(k12=n+0)=False:=eq_false (by omega);have u3:(n+0=ky)=False:=eq_false (by omega);have u4:(n+0=k12)=False:=eq_false (by omega);have u5:(k6=n+0)=False:=eq_false (by omega);have u6:(k7=n+0)=False:=eq_false (by omega);have u7:(k8=n+0)=False:=eq_false (by omega);have hv:=oL.valOf;have OZ:zbg vL ky:=oL.offAt fun rs h=>by rw[hk]at h;cases h
  have o1: ∀a1 a2 a3 a4,zaF (updC (updC (updC (updC h ky a1) (n+0) a2) (n+0) a3) ky a4) (n+1) vL 3 (zGj lst):=fun a1 a2 a3 a4=>oL.keep (by omega) fun q q1 q2=>by
   have:q≠ky:=by rintro rfl;exact q2 OZ
   rw[zaa,if_neg this,zaa,if_neg (by omega),zaa,if_neg (by omega),zaa,if_neg this]
  have o2: ∀a1 a2 a3 a4 a5 a6 a7,zaF (updC (updC (updC (updC (updC (updC (updC h ky a1) (n+0) a2) (n+0) a3) ky a4) k6 a5) k7 a6) k8 a7) (n+1) vL 3 (zGj lst):=fun a1 a2 a3 a4 a5 a6' a7'=>(o1 a1 a2 a3 a4).keep (by omega) fun q q1 q2=>by
   have a6:q≠k6:=by rintro rfl;exact q2 (oL.offAt fun rs h=>by rw[h6]at h;cases h)
   have a7:q≠k7:=by rintro rfl;exact q2 (oL.offAt fun rs h=>by rw[h7]at h;cases h)
   have a8:q≠k8:=by rintro rfl;exact q2 (oL.offAt fun rs h=>by rw[h8]at h;cases h)
   rw[zaa,if_neg a8,zaa,if_neg a7,zaa,if_neg a6]
  have BX: ∀a1 a2 a3 a4,Rg.lenS (updC (updC (updC (updC h ky a1) (n+0) a2) (n+0) a3) ky a4) vL=some lst.length:=fun a1 a2 a3 a4=>by
   have:=(o1 a1 a2 a3 a4).lenS;rw[zGo]at this;exact this
  have w2:=oL.cellsV;unfold V.cells at w2;have hw:IntKind.i64.wrap ((lst.length:Int)-1)=(lst.length:Int)-1:=zaH (by omega);have Oa:=eq_false he;unfold zue;simp -dsimp -implicitDefEqProofs only[go_sem,seval,e12,e6,e7,e8,h12,h6,h7,h8,nL,m6,m7,m8,u1,u2,u3,u4,u5,u6,u7,hv,Oa,BX,w2,hw,n67,n68,n78,n126,n127,n67.symm,n68.symm,n78.symm,n126.symm,n127.symm];refine⟨?_,?_⟩
  ·simp only[zgO,List.all_cons,List.all_nil,List.getElem?_cons_succ,List.getElem?_cons_zero,sep,AOp.looks,AOp.opds,AOp.wopd,zid,za2,List.flatMap_cons,List.flatMap_nil];simp -dsimp -implicitDefEqProofs only[go_sem,seval,V.top,hv,e12,e6,e7];rcases oL with⟨e,_⟩ | ⟨kV,e,_,ek⟩
   ·rw[e];simp[n126,n127]
   ·have a1:kV≠k6:=zcV ek h6 (by simp);have a2:kV≠k7:=zcV ek h7 (by simp);rw[e];simp[n126,n127,a1,a2]
  ·refine⟨rfl,?_,?_,?_,?_,?_,by simp -dsimp -implicitDefEqProofs only[go_sem,seval];omega⟩
   ·simp only[zaC,zaA];rw[zaa,if_neg (Ne.symm m8),zaa,if_neg (Ne.symm m7),zaa,if_neg (Ne.symm m6),zaa,if_pos rfl];rfl
   ·simp only[zaC,zaA];rw[zaa,if_neg n68,zaa,if_neg n67,zaa,if_pos rfl]
   ·simp only[zaC,zaA];rw[zaa,if_neg n78,zaa,if_pos rfl]
   ·simp only[zaC,zaA];rw[zaa,if_pos rfl]
   ·simp only[zaC,zaA]
    exact(o2 _ _ _ _ _ _ _).le (by simp -dsimp -implicitDefEqProofs only[go_sem,seval];omega))
 obtain⟨ex,h',n',⟨rfl,q1,q2,q3,q4,q5,q8⟩,env',ps',bd',q6,q7⟩:=this;rw[q1]at q6;simp only[zA,O.loop.injEq]at q6;obtain⟨rfl,rfl,rfl,_⟩:=q6;have m6:k6≠ky:=zcV h6 hk (by simp);have m7:k7≠ky:=zcV h7 hk (by simp);have m8:k8≠ky:=zcV h8 hk (by simp);refine⟨_,n',q7,by rw[zaa,if_pos rfl];rfl,by rw[zaa,if_neg m6];exact q2,by rw[zaa,if_neg m7];exact q3,by rw[zaa,if_neg m8];exact q4,?_,q8⟩
 exact q5.keep (Nat.le_refl _) fun q r1 r2=>by
  have:q≠ky:=by rintro rfl;exact r2 (q5.offAt fun rs h=>by rw[q1]at h;cases h)
  rw[zaa,if_neg this]
end Rg
end
section
namespace Rg
open Go
end Rg
end
section
namespace Rg
open Go
def zGm (p:Prog) (k:Int):Config->List Choice->List Config×Bool
 | _,[]=>([],true)
 | c,x::r=>if(zdk p k c x).2=0 then((zdk p k c x).1::(zGm p k (zdk p k c x).1 r).1,(zGm p k (zdk p k c x).1 r).2)else([],false)
theorem zGS {p:Prog} (hf:zak p=true) {k:Int} {c:Config} (hc:IsK p k c) (x:Choice):(zdk p k c x).2=0<->x∈zaK p k c:=by
 by_cases h:x∈zaK p k c
 ·exact⟨fun _=>h,fun _=>(zGB hf hc h).2⟩
 ·rw[zG9 hf hc h];exact⟨fun e=>absurd e (by decide),fun e=>absurd e h⟩
structure RK2 where
 ky:Nat
 k6:Nat
 k7:Nat
 k8:Nat
 k12:Nat
structure RR (K:RK2) (env:Nat->V) (h:Nat->Option O) (x:Nat) (lst:List Config) (vL:V):Prop where
 hk:h K.ky=some (.loop env [40,41] zGs .ready)
 e12:env 12= .mp K.k12 0 0
 e6:env 6= .mp K.k6 0 0
 e7:env 7= .mp K.k7 0 0
 e8:env 8= .mp K.k8 0 0
 h12:h K.k12=some (.rows 1 [[vL]] false)
 h6: ∃y,h K.k6=some (.rows 1 [[y]] false)
 h7: ∃y,h K.k7=some (.rows 1 [[y]] false)
 h8: ∃y,h K.k8=some (.rows 1 [[y]] false)
 ne:K.k6≠K.k7/\K.k6≠K.k8/\K.k7≠K.k8/\K.k12≠K.k6/\K.k12≠K.k7/\K.k12≠K.k8
 oL:zaF h x vL 3 (zGj lst)
 bd:K.ky<x/\K.k6<x/\K.k7<x/\K.k8<x/\K.k12<x
section
variable {K:RK2} {env:Nat->V} {h h' : Nat->Option O} {x x' : Nat} {lst:List Config} {vL:V}
theorem RR.le (R:RR K env h x lst vL) (hx:x<=x'):RR K env h x' lst vL:=
 ⟨R.hk,R.e12,R.e6,R.e7,R.e8,R.h12,R.h6,R.h7,R.h8,R.ne,R.oL.le hx,by have:=R.bd;omega⟩
theorem RR.go (R:RR K env h x lst vL) (hl:lst.length<2^30) (c:Config):
 ∃h' n' vL',DenY Γ G K.ky [.agg (zue c),vi 0] h x=some (vb true,h',n')/\RR K env h' n' (lst++[c]) vL'/\x<=n'/\ ∀j,j<x->j≠K.ky->j≠K.k12->zbg vL j->h' j=h j:=by
 obtain⟨b1,b6,b7,b8,b12⟩:=R.bd;obtain⟨h',n',q1,q2,⟨vL',q3,q4,q5⟩,q6,q7⟩:=zIk (c:=c) R.hk R.e12 R.h12 R.oL hl b1 b12;obtain⟨y6,h6⟩:=R.h6;obtain⟨y7,h7⟩:=R.h7;obtain⟨y8,h8⟩:=R.h8;obtain⟨n1,n2,n3,n4,n5,n6⟩:=R.ne;refine⟨h',n',vL',q1,⟨q2,R.e12,R.e6,R.e7,R.e8,q3,⟨y6,?_⟩,⟨y7,?_⟩,⟨y8,?_⟩,R.ne,q4,by omega⟩,q6,q7⟩
 ·rw[q7 _ b6 (zcV h6 R.hk (by simp)) (Ne.symm n4) (R.oL.offAt fun rs e=>by rw[h6]at e;cases e),h6]
 ·rw[q7 _ b7 (zcV h7 R.hk (by simp)) (Ne.symm n5) (R.oL.offAt fun rs e=>by rw[h7]at e;cases e),h7]
 ·rw[q7 _ b8 (zcV h8 R.hk (by simp)) (Ne.symm n6) (R.oL.offAt fun rs e=>by rw[h8]at e;cases e),h8]
structure RStop2 (K:RK2) (env:Nat->V) (h:Nat->Option O) (x:Nat) (lst:List Config) (vL:V):Prop where
 hk:h K.ky=some (.loop env [40,41] zGs (.done .ret))
 h6:h K.k6=some (.rows 1 [[vL]] false)
 h7:h K.k7=some (.rows 1 [[vi 110]] false)
 h8:h K.k8=some (.rows 1 [[vi ((lst.length:Int)-1)]] false)
 oL:zaF h x vL 3 (zGj lst)
theorem RR.stop (R:RR K env h x lst vL) (hl:lst.length<2^30) (c:Config) {e:Int} (he:e≠0):
 ∃h' n',DenY Γ G K.ky [.agg (zue c),vi e] h x=some (vb false,h',n')/\RStop2 K env h' n' lst vL/\x<=n':=by
 obtain⟨b1,b6,b7,b8,b12⟩:=R.bd;obtain⟨y6,h6⟩:=R.h6;obtain⟨y7,h7⟩:=R.h7;obtain⟨y8,h8⟩:=R.h8;obtain⟨n1,n2,n3,n4,n5,n6⟩:=R.ne;obtain⟨h',n',q1,q2,q3,q4,q5,q6,q7⟩:=zIc (c:=c) he R.hk R.e12 R.e6 R.e7 R.e8 R.h12 h6 h7 h8 n1 n2 n3 n4 n5 R.oL hl b1 b12 b6 b7 b8;exact⟨h',n',q1,⟨q2,q3,q4,q5,q6⟩,q7⟩
end
theorem zHZ (K:RK2) (p:Prog) (hs:p.sane) (hf:zak p=true) (k:Int) (hk:0<=k/\k<=2) (run:List Choice) (hl:run.length<=120) (env:Nat->V) (H:Nat->Option O) (nx kP kR kM:Nat)
 (R0:RR K env H nx [] (.t .nils)) (hP:H kP=some (.rows 4 [[.t (.sl (p.cells.map Cell.enc)),.t (.sl (p.modules.map Contract.enc)),.t (.sl (p.locks.map Lock.enc)),.t (.sl (p.threads.map Thread.enc))]] false))
 (hR:H kR=some (.rows 1 [[.t (.sl (run.map Choice.enc))]] false)) (hM:H kM=some (.rows 1 [[vi k]] false)) (bP:kP<nx) (bR:kR<nx) (bM:kM<nx) (nR:kR≠K.k12) (nM:kM≠K.k12):
 ∃r h' n',DenR Γ G 461 [.yl K.ky,.mp kP 0 0,.mp kR 0 0,.mp kM 0 0] H nx=some (r,h',n')/\(nx<=n'/\ ∃lst vL,lst=zcm p::(zGm p k (zcm p) run).1/\
  (((zGm p k (zcm p) run).2=true/\RR K env h' n' lst vL)\/((zGm p k (zcm p) run).2=false/\RStop2 K env h' n' lst vL))):=by
 have AE:=zki p hs;have FT:=zfq hf k
 (refine zay Γ461 rfl ?_;dsimp only[zIy])
 simp -dsimp -implicitDefEqProofs only[go_sem,seval,hP,hR,hM,AE];obtain⟨h1,n1,vL1,q1,R1,q2,q3⟩:=(R0.le (show nx<=nx+5+5 by omega)).go (by simp) (zcm p);rw[List.nil_append]at R1;have oP: ∀j,¬zbg (.t .nils) j->False:=fun j h=>h fun a b e=>by cases e
 have QU:h1 kP=_:=(q3 kP (by omega) (zcV hP R0.hk (by simp)) (zcV hP R0.h12 (by simp)) (fun a b e=>by cases e)).trans hP;have TF:h1 kR=_:=(q3 kR (by omega) (zcV hR R0.hk (by simp)) nR (fun a b e=>by cases e)).trans hR;have QV:h1 kM=_:=(q3 kM (by omega) (zcV hM R0.hk (by simp)) nM (fun a b e=>by cases e)).trans hM;unfold zue at q1;refine zas (P:=fun r h' n'=>r=vb true/\h'=h1/\n'=n1) ⟨_,_,_,q1,rfl,rfl,rfl⟩ ?_;rintro _ _ _ ⟨rfl,rfl,rfl⟩;have Bb:(run.map Choice.enc).length=run.length:=by simp
 simp -dsimp -implicitDefEqProofs only[go_sem,seval,TF,Bb]
 refine zaq 1099511365984 run.length (fun j f h x=> ∃(c:Config) (lst:List Config) (vL:V),(f 18).v=vi j/\(f 5).v= .lb/\(f 5).box=some (zue c)/\IsK p k c/\RR K env h x lst vL/\lst.length<=j+1/\h kP=H kP/\h kM=H kM/\
  zcm p::(zGm p k (zcm p) run).1=lst++(zGm p k c (run.drop j)).1/\(zGm p k (zcm p) run).2=(zGm p k c (run.drop j)).2/\nx<=x) rfl
  ⟨zcm p,[zcm p],vL1,by simp -dsimp -implicitDefEqProofs only[go_sem,seval],by simp -dsimp -implicitDefEqProofs only[go_sem,seval],by simp -dsimp -implicitDefEqProofs only[go_sem,seval];rfl,FT,by simp -dsimp -implicitDefEqProofs only[go_sem,seval];exact R1.le (by omega),by simp,QU.trans hP.symm,QV.trans hM.symm,rfl,rfl,by simp -dsimp -implicitDefEqProofs only[go_sem,seval];omega⟩ ?_
 rintro j f u h x bb hj ⟨c,lst,vL,Ep,SG,SB,hc,R,FZ,PS,Sv,Su,Ss,hx⟩;have C9:=zan j (by omega);rw[hP]at PS;rw[hM]at Sv
 by_cases AN:j<run.length
 ·have Ba:=eq_true AN;obtain⟨y,hy,Eq⟩:=zai AN;have Ap:(run.map Choice.enc)[j]? =some [ti y.thread,ti y.step,ti y.cell]:=by rw[zJ,hy];rfl
  have ED:=zi1 p hs hf k hk c hc y;have hd:run.drop j=y::run.drop (j+1):=zdo hy;unfold zue at SB
  by_cases Hs:y∈zaK p k c
  ·obtain⟨d,Bt,O1⟩:=zgY hf hc Hs;rw[Bt]at ED;rw[hd,zGm,Bt,if_pos rfl]at Su Ss;simp -dsimp -implicitDefEqProofs only[go_sem,seval,Ep,SG,SB,PS,Sv,Ba,Ap,ED];obtain⟨h2,n2,vL2,p1,R2,p3,p4⟩:=(R.le (show x<=x+1+4+10+9 by omega)).go (by omega) d;have Ge:h2 kP=_:=(p4 kP (by omega) (zcV PS R.hk (by simp)) (zcV PS R.h12 (by simp)) (R.oL.offAt fun rs e=>by rw[PS]at e;cases e)).trans PS;have Pt:h2 kM=_:=(p4 kM (by omega) (zcV Sv R.hk (by simp)) nM (R.oL.offAt fun rs e=>by rw[Sv]at e;cases e)).trans Sv;unfold zue at p1;refine zas (P:=fun r h' n'=>r=vb true/\h'=h2/\n'=n2) ⟨_,_,_,p1,rfl,rfl,rfl⟩ ?_;rintro _ _ _ ⟨rfl,rfl,rfl⟩;simp -dsimp -implicitDefEqProofs only[go_sem,seval,Ep];refine⟨AN,d,lst++[d],vL2,by simp -dsimp -implicitDefEqProofs only[go_sem,seval,C9],by simp -dsimp -implicitDefEqProofs only[go_sem,seval],by simp -dsimp -implicitDefEqProofs only[go_sem,seval];rfl,O1,?_,by simp;omega,Ge.trans hP.symm,Pt.trans hM.symm,by rw[Su];simp,Ss,by simp -dsimp -implicitDefEqProofs only[go_sem,seval];omega⟩;simp -dsimp -implicitDefEqProofs only[go_sem,seval];exact R2.le (by omega)
  ·have Be:=zG9 hf hc Hs;rw[Be]at ED;rw[hd,zGm,Be,if_neg (by decide)]at Su Ss;simp -dsimp -implicitDefEqProofs only[go_sem,seval,Ep,SG,SB,PS,Sv,Ba,Ap,ED];obtain⟨h2,n2,p1,p2,p3⟩:=(R.le (show x<=x+1+4+10+9 by omega)).stop (by omega) zd9 (e:=110) (by decide);unfold zue at p1;refine zas (P:=fun r h' n'=>r=vb false/\h'=h2/\n'=n2) ⟨_,_,_,p1,rfl,rfl,rfl⟩ ?_;rintro _ _ _ ⟨rfl,rfl,rfl⟩;simp -dsimp -implicitDefEqProofs only[go_sem,seval];exact⟨by omega,lst,vL,by rw[Su];simp,.inr ⟨Ss,p2⟩⟩
 ·have Ba:=eq_false AN;have:j=run.length:=by omega
  subst this;rw[List.drop_length,zGm]at Su Ss;simp -dsimp -implicitDefEqProofs only[go_sem,seval,Ep,Ba];refine⟨by simp -dsimp -implicitDefEqProofs only[go_sem,seval];omega,lst,vL,by rw[Su];simp,.inl ⟨Ss,?_⟩⟩;simp -dsimp -implicitDefEqProofs only[go_sem,seval];exact R.le (by omega)
end Rg
end
section
namespace Rg
open Go
theorem zH5 (p:Prog) (k:Int) (run:List Choice) (H:Nat->Option O) (n:Nat):
 ∃r h' n',DenR Γ G 455 [(zP p),vi k,.t (.sl (run.map Choice.enc))] H n=some (r,h',n')/\(r= .fn 461 [] [.mp n 0 0,.mp (n+2) 0 0,.mp (n+1) 0 0]/\
  h'=updC (updC (updC H n (some (.rows 4 [[.t (.sl (p.cells.map Cell.enc)),.t (.sl (p.modules.map Contract.enc)),.t (.sl (p.locks.map Lock.enc)),.t (.sl (p.threads.map Thread.enc))]] false))) (n+1) (some (.rows 1 [[vi k]] false))) (n+2) (some (.rows 1 [[.t (.sl (run.map Choice.enc))]] false))/\n+3<=n'):=by
 (refine zay Γ455 rfl ?_;dsimp only[zID])
 simp -dsimp -implicitDefEqProofs only[go_sem,seval];exact⟨rfl,by simp only[zaC,zaA];rfl,by simp -dsimp -implicitDefEqProofs only[go_sem,seval];omega⟩
theorem zId (K:RK2) (p:Prog) (hs:p.sane) (hf:zak p=true) (k:Int) (hk:0<=k/\k<=2) (run:List Choice) (hl:run.length<=120) {env:Nat->V} {H:Nat->Option O} {nx kP kR kM:Nat} {C:Ex->(Nat->Option O)->Nat->Prop} {w:WK C}
 (DA:H K.ky=some (.loop env [40,41] zGs .ready)) (e12:env 12= .mp K.k12 0 0) (e6:env 6= .mp K.k6 0 0) (e7:env 7= .mp K.k7 0 0) (e8:env 8= .mp K.k8 0 0) (h12:H K.k12=some (.rows 1 [[.t .nils]] false))
 (h6: ∃y,H K.k6=some (.rows 1 [[y]] false)) (h7: ∃y,H K.k7=some (.rows 1 [[y]] false)) (h8: ∃y,H K.k8=some (.rows 1 [[y]] false)) (ne:K.k6≠K.k7/\K.k6≠K.k8/\K.k7≠K.k8/\K.k12≠K.k6/\K.k12≠K.k7/\K.k12≠K.k8) (bd:K.ky<nx/\K.k6<nx/\K.k7<nx/\K.k8<nx/\K.k12<nx)
 (hP:H kP=some (.rows 4 [[.t (.sl (p.cells.map Cell.enc)),.t (.sl (p.modules.map Contract.enc)),.t (.sl (p.locks.map Lock.enc)),.t (.sl (p.threads.map Thread.enc))]] false))
 (hR:H kR=some (.rows 1 [[.t (.sl (run.map Choice.enc))]] false)) (hM:H kM=some (.rows 1 [[vi k]] false)) (bP:kP<nx) (bR:kR<nx) (bM:kM<nx) (nR:kR≠K.k12) (nM:kM≠K.k12)
 (hC: ∀h' n' vL,nx<=n'->zaF h' n' vL 3 (zGj (zcm p::(zGm p k (zcm p) run).1))->(∀rs,h' K.ky≠some (.rows 3 rs false))->
   (((zGm p k (zcm p) run).2=true->h' K.k12=some (.rows 1 [[vL]] false)->(∃y,h' K.k6=some (.rows 1 [[y]] false))->(∃y,h' K.k7=some (.rows 1 [[y]] false))->(∃y,h' K.k8=some (.rows 1 [[y]] false))->C .normal (updC h' K.ky (some .dead)) n')/\
    ((zGm p k (zcm p) run).2=false->h' K.k6=some (.rows 1 [[vL]] false)->h' K.k7=some (.rows 1 [[vi 110]] false)->h' K.k8=some (.rows 1 [[vi ((zGm p k (zcm p) run).1.length:Int)]] false)->C .ret (updC h' K.ky (some .dead)) n'))):
 zBm (DenR Γ G 461 [.yl K.ky,.mp kP 0 0,.mp kR 0 0,.mp kM 0 0] H nx) K.ky C w:=by
 obtain⟨r,h',n',q1,q2,lst,vL,rfl,⟨q3,R⟩ | ⟨q3,R⟩⟩:=zHZ K p hs hf k hk run hl env H nx kP kR kM ⟨DA,e12,e6,e7,e8,h12,h6,h7,h8,ne,.inl ⟨rfl,rfl⟩,bd⟩ hP hR hM bP bR bM nR nM
 ·refine znN (P:=fun e h n=>e= .normal/\h=h'/\n=n') ⟨r,h',n',q1,_,_,_,_,_,R.hk,rfl,rfl,rfl,rfl⟩ ?_;rintro _ _ _ ⟨rfl,rfl,rfl⟩;exact(hC _ _ vL q2 R.oL (fun rs e=>by rw[R.hk]at e;cases e)).1 q3 R.h12 R.h6 R.h7 R.h8
 ·refine znN (P:=fun e h n=>e= .ret/\h=h'/\n=n') ⟨r,h',n',q1,_,_,_,_,_,R.hk,rfl,rfl,rfl,rfl⟩ ?_;rintro _ _ _ ⟨rfl,rfl,rfl⟩;have ME:=R.h8;rw[show(((zcm p::(zGm p k (zcm p) run).1).length:Nat):Int)-1=((zGm p k (zcm p) run).1.length:Int)by simp]at ME;exact(hC _ _ vL q2 R.oL (fun rs e=>by rw[R.hk]at e;cases e)).2 q3 R.h6 R.h7 ME
theorem zHz (p:Prog) (hs:p.sane) (hf:zak p=true) (k:Int) (hk:0<=k/\k<=2) (run:List Choice) (hl:run.length<=120):
 Den Γ G 445 [(zP p),vi k,.t (.sl (run.map Choice.enc))]=some (.tup [.t (.sl ((zcm p::(zGm p k (zcm p) run).1).map Config.enc)),vi (if(zGm p k (zcm p) run).2 then 0 else 110),vi (if(zGm p k (zcm p) run).2 then run.length else((zGm p k (zcm p) run).1.length:Int))]):=by
 have hv:=zeV p hs;have h0:(zbM p).1=0:=by simpa[zak]using hf
 have Bb:(run.map Choice.enc).length=run.length:=by simp
 have Im: ¬((run.length:Int)>120):=by omega
 (refine zag Γ445 rfl ?_;dsimp only[zIM])
 rcases(show k=0\/k=1\/k=2 by omega)with rfl | rfl | rfl
 case' inl=>simp -dsimp -implicitDefEqProofs only[go_sem,seval,hv,h0,Bb,Im]
 case' inr.inl=>simp -dsimp -implicitDefEqProofs only[go_sem,seval,hv,h0,Bb,Im]
 case' inr.inr=>simp -dsimp -implicitDefEqProofs only[go_sem,seval,hv,h0,Bb,Im]
 all_goals
  refine zas (zH5 p _ run _ _) ?_;rintro r h' n' ⟨rfl,rfl,hn⟩;simp -dsimp -implicitDefEqProofs only[go_sem,seval];refine zId ⟨n',1,2,3,28⟩ p hs hf _ (by omega) run hl (by rw[zaa,if_pos rfl]) (by simp -dsimp -implicitDefEqProofs only[go_sem,seval]) (by simp -dsimp -implicitDefEqProofs only[go_sem,seval]) (by simp -dsimp -implicitDefEqProofs only[go_sem,seval]) (by simp -dsimp -implicitDefEqProofs only[go_sem,seval]) (by simp only[zaa];repeat(first | rw[if_neg (by omega)] | rw[if_pos (by trivial)])) ⟨_,(by simp only[zaa];repeat(first | rw[if_neg (by omega)] | rw[if_pos (by trivial)]))⟩ ⟨_,(by simp only[zaa];repeat(first | rw[if_neg (by omega)] | rw[if_pos (by trivial)]))⟩ ⟨_,(by simp only[zaa];repeat(first | rw[if_neg (by omega)] | rw[if_pos (by trivial)]))⟩ (by simp) (by simp only;omega) (by simp only[zaa];repeat(first | rw[if_neg (by omega)] | rw[if_pos (by trivial)])) (by simp only[zaa];repeat(first | rw[if_neg (by omega)] | rw[if_pos (by trivial)])) (by simp only[zaa];repeat(first | rw[if_neg (by omega)] | rw[if_pos (by trivial)])) (by omega) (by omega) (by omega) (by simp) (by simp) ?_;intro h2 n2 vL Fh hO DA;have m0:(28=n')=False:=eq_false (by omega);have m1:(1=n')=False:=eq_false (by omega);have m2:(2=n')=False:=eq_false (by omega);have m3:(3=n')=False:=eq_false (by omega)
  have E0: ∀L:List Config,∀e∈L.map Config.enc,∀t∈e,T.norm t=t:=fun L e he t ht=>by
   obtain⟨v,-,rfl⟩:=List.mem_map.1 he;simp only[Config.enc,List.mem_cons,List.not_mem_nil,or_false]at ht;rcases ht with rfl | rfl | rfl<;>rfl
  rcases hO with⟨_,e0⟩ | ⟨kV,rfl,SO,hV⟩
  ·have:=congrArg List.length e0;rw[zGo]at this;simp at this
  have v0:kV≠n':=by rintro rfl;exact DA _ hV
  have D8: ∀(L:List Config) (h:Nat->Option O),(zGj L).mapM (fun row=>row.mapM (toT h 999))=some (L.map Config.enc):=fun L h=>by
   have:=zdJ h 999 (L.map Config.enc) (E0 L);rw[List.map_map]at this;exact this
  refine⟨fun Bm h12 h6 h7 h8=> ?_,fun Bm h6 h7 h8=> ?_⟩
  ·obtain⟨y6,h6⟩:=h6;obtain⟨y7,h7⟩:=h7;obtain⟨y8,h8⟩:=h8;simp only at h12 h6 h7 h8;have v1:kV≠1:=zcV hV h6 (by simp);have v2:kV≠2:=zcV hV h7 (by simp);have v3:kV≠3:=zcV hV h8 (by simp);rw[Bm];simp -dsimp -implicitDefEqProofs only[go_sem,seval,h12,h6,h7,h8,m0,m1,m2,m3,hV,v0,v1,v2,v3,Bb];rw[if_pos (Nat.le_refl _),List.take_length,zD,D8];rfl
  ·simp only at h6 h7 h8;rw[Bm];simp -dsimp -implicitDefEqProofs only[go_sem,seval,h6,h7,h8,m0,m1,m2,m3,hV,v0];rw[if_pos (Nat.le_refl _),List.take_length,zD,D8];rfl
end Rg
end
section
namespace Rg
open Go
section
end
end Rg
end
section
namespace Rg
open Go
end Rg
end
section
namespace Rg
open Go
end Rg
end
section
set_option maxRecDepth 100000
namespace Rg
open Go
end Rg
end
section
namespace Rg
open Go
end Rg
end
section
namespace Rg
open Go
end Rg
end
section
namespace Rg
open Go
def zGI (x:Choice):Bool:=decide (x=⟨0,0,0⟩)||(decide (0<=x.thread)&&decide (x.thread<4)&&if x.step= -1 then decide (0<=x.cell)&&decide (x.cell<32)else decide (0<=x.step)&&decide (x.step<64)&&decide (x.cell=0))
theorem zGz (x:Choice):Den Γ G 456 [.agg [vi x.thread,vi x.step,vi x.cell]]=some (vb (zGI x)):=by
 obtain⟨t,s,c⟩:=x
 (refine zag Γ456 rfl ?_;dsimp only[zIC])
 simp -dsimp -implicitDefEqProofs only[go_sem,seval];have e:zGI ⟨t,s,c⟩=(decide (t=0/\s=0/\c=0)||(decide (0<=t)&&decide (t<4)&&if s= -1 then decide (0<=c)&&decide (c<32)else decide (0<=s)&&decide (s<64)&&decide (c=0))):=by simp[zGI]
 rw[e]
 by_cases h0:t=0/\s=0/\c=0
 ·obtain⟨rfl,rfl,rfl⟩:=h0;simp -dsimp -implicitDefEqProofs only[go_sem,seval,Bool.bne_false]
  try rfl
 ·have h1:(decide (t=0)&&(decide (s=0)&&decide (c=0)))=false:=by
   rw[<- Bool.decide_and,<- Bool.decide_and];exact decide_eq_false h0
  rw[decide_eq_false h0,Bool.false_or];simp -dsimp -implicitDefEqProofs only[go_sem,seval,h1,Bool.bne_false]
  repeat'(refine zac (fun h=> ?_) (fun h=> ?_)<;>(try rw[h])<;>(try simp only[zah]at h)<;>(try simp -dsimp -implicitDefEqProofs only[go_sem,seval]))
  all_goals first | (simp[*];done) | (simp[*];omega) | omega | skip
theorem zHN (n:Nat) (h:n<=1099511627776):((n:Int)<=1099511627776)=True:=eq_true (by omega)
def zGp (x:Choice):List UInt8:=if x.step= -1 then num x.thread++33::num x.cell else num x.thread++46::num x.step
theorem zHP (x:Choice) (h1:0<=x.thread/\x.thread<4) (h2: -1<=x.step/\x.step<64) (h3:0<=x.cell/\x.cell<64):Den Γ G 458 [.agg [vi x.thread,vi x.step,vi x.cell]]=some (.t (.str (bs (zGp x)))):=by
 obtain⟨t,s,c⟩:=x;simp only at h1 h2 h3;have i1:=zuI t (by omega);have i2:=zuI s (by omega);have i3:=zuI c (by omega);have l1:=zwL t (by omega);have l2:=zwL s (by omega);have l3:=zwL c (by omega)
 (refine zag Γ458 rfl ?_;dsimp only[zIA])
 unfold zGp
 by_cases hs:s= -1
 ·subst hs;simp -dsimp -implicitDefEqProofs (disch:=first | omega | (simp only[zM,List.length_cons,List.length_nil];omega) | simp only[go_sem,seval]) only[go_sem,seval,i1,i3,zHN];simp
 ·have Gv:=eq_false hs;simp -dsimp -implicitDefEqProofs (disch:=first | omega | (simp only[zM,List.length_cons,List.length_nil];omega) | simp only[go_sem,seval]) only[go_sem,seval,i1,i2,Gv,zHN];simp
end Rg
end
