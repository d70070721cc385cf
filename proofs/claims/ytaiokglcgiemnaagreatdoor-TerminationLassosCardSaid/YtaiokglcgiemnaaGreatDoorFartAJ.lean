/- Part of the proof of laws of relyguardlaw36. No condition. -/
import Derived.Test.YtaiokglcgiemnaaGreatDoorFartAI
import Derived.ChangeSame
import Derived.WideKeyArgs
import Derived.RowKit
import Derived.LaidLaws
import Derived.Stop.Joined
import Derived.OpenShut
import Derived.MakeChecks
import Derived.FnData
import Derived.Test.YtaiokglcgiemnaaGreatDoorFartAG
set_option linter.unusedVariables false
set_option linter.defProp false
set_option linter.unusedSimpArgs false
section
namespace Rg
open Go
structure Tys where
 int:Nat
 bool:Nat
 str:Nat
 u8:Nat
 ints:Nat
 bytes:Nat
 expr:Nat
 exprs:Nat
 cell:Nat
 cells:Nat
 assign:Nat
 assigns:Nat
 step:Nat
 steps:Nat
 loop:Nat
 loops:Nat
 thread:Nat
 threads:Nat
 contract:Nat
 contracts:Nat
 lock:Nat
 locks:Nat
 prog:Nat
 entry:Nat
 entries:Nat
 bufs:Nat
 config:Nat
 choice:Nat
def dl (P:Program) (t:TypeId) (k:IntKind):Bool:=(match P.underlying t with | some (.int k')=>decide (k'=k) | _=>false)&&decide (P.cellsOf t=1)
def jY (P:Program) (t:TypeId):Bool:=(match P.underlying t with | some .bool=>true | _=>false)&&decide (P.cellsOf t=1)
def jM (P:Program) (t:TypeId):Bool:=(match P.underlying t with | some .string=>true | _=>false)&&decide (P.cellsOf t=1)
def cq (P:Program) (t e:TypeId):Bool:=(match P.underlying t with | some (.slice e')=>decide (e'=e) | _=>false)&&decide (0<P.bytesOf e)&&decide (0<P.cellsOf e)&&decide (P.cellsOf t=1)
def dR (P:Program) (t:TypeId) (c:Nat) (f:List (TypeId×Nat)):Bool:=
 (match P.underlying t with | some (.struct a)=>decide (a.toList.map (fun x=>(x.type,x.offset))=f) | _=>false)&&decide (P.cellsOf t=c)
structure Tys.Ok0 (P:Program) (y:Tys):Prop where
 int:dl P y.int .i64=true
 bool:jY P y.bool=true
 str:jM P y.str=true
 u8:dl P y.u8 .u8=true
 ints:cq P y.ints y.int=true
 expr:dR P y.expr 4 [(y.int,0),(y.int,1),(y.int,2),(y.exprs,3)]=true
 exprs:cq P y.exprs y.expr=true
 cell:dR P y.cell 6 [(y.str,0),(y.int,1),(y.int,2),(y.int,3),(y.bool,4),(y.int,5)]=true
 cells:cq P y.cells y.cell=true
 assign:dR P y.assign 5 [(y.int,0),(y.expr,1)]=true
 assigns:cq P y.assigns y.assign=true
 step:dR P y.step 11 [(y.int,0),(y.int,1),(y.int,2),(y.expr,3),(y.assigns,7),(y.bool,8),(y.int,9),(y.int,10)]=true
 steps:cq P y.steps y.step=true
 loop:dR P y.loop 6 [(y.int,0),(y.ints,1),(y.expr,2)]=true
 loops:cq P y.loops y.loop=true
 thread:dR P y.thread 7 [(y.str,0),(y.int,1),(y.exprs,2),(y.ints,3),(y.steps,4),(y.loops,5),(y.bool,6)]=true
 threads:cq P y.threads y.thread=true
 contract:dR P y.contract 11 [(y.str,0),(y.str,1),(y.expr,2),(y.expr,6),(y.ints,10)]=true
 contracts:cq P y.contracts y.contract=true
 lock:dR P y.lock 6 [(y.int,0),(y.expr,1),(y.int,5)]=true
 locks:cq P y.locks y.lock=true
 prog:dR P y.prog 4 [(y.cells,0),(y.contracts,1),(y.locks,2),(y.threads,3)]=true
structure Tys.OkP (P:Program) (y:Tys):Prop extends y.Ok0 P where
 bytes:cq P y.bytes y.u8=true
structure Tys.Ok (P:Program) (y:Tys):Prop extends y.OkP P where
 entry:dR P y.entry 2 [(y.ints,0),(y.ints,1)]=true
 entries:cq P y.entries y.entry=true
 bufs:cq P y.bufs y.entries=true
 config:dR P y.config 3 [(y.ints,0),(y.ints,1),(y.bufs,2)]=true
 choice:dR P y.choice 3 [(y.int,0),(y.int,1),(y.int,2)]=true
section
variable {P:Program} {t e:TypeId} {k:IntKind}
theorem dl.u (h:dl P t k=true):P.underlying t=some (.int k):=by
 simp only[dl,zF]at h;have h:=h.1;split at h
 ·rename_i a;rw[a,p6 h]
 ·simp at h
theorem dl.c (h:dl P t k=true):P.cellsOf t=1:=by
 simp only[dl,zF,aQ]at h;exact h.2
theorem jY.u (h:jY P t=true):P.underlying t=some .bool:=by
 simp only[jY,zF]at h;have h:=h.1;split at h
 ·rename_i a;exact a
 ·simp at h
theorem jY.c (h:jY P t=true):P.cellsOf t=1:=by
 simp only[jY,zF,aQ]at h;exact h.2
theorem jM.u (h:jM P t=true):P.underlying t=some .string:=by
 simp only[jM,zF]at h;have h:=h.1;split at h
 ·rename_i a;exact a
 ·simp at h
theorem jM.c (h:jM P t=true):P.cellsOf t=1:=by
 simp only[jM,zF,aQ]at h;exact h.2
theorem cq.u (h:cq P t e=true):P.underlying t=some (.slice e):=by
 simp only[cq,zF]at h;have h:=h.1.1.1;split at h
 ·rename_i a;rw[a,p6 h]
 ·simp at h
theorem cq.p (h:cq P t e=true):0<P.bytesOf e/\0<P.cellsOf e/\P.cellsOf t=1:=by
 simp only[cq,zF,aQ]at h;exact⟨h.1.1.2,h.1.2,h.2⟩
theorem cq.c (h:cq P t e=true):P.cellsOf t=1:=(cq.p h).2.2
theorem dR.c {a:Nat} {c:List (TypeId×Nat)} (h:dR P t a c=true):P.cellsOf t=a:=by
 simp only[dR,zF,aQ]at h;exact h.2
end
section
variable {H:Type} {enc:TypeId×Value->H} {P:Program} {W:World} {nm:Nat->Nat} {y:Tys}
theorem lZ {α:Type} {t e:TypeId} {f:α->List T} {good:α->Prop} (h:cq P t e=true) (n:Nat) (c: ∀m,m<n->Rd enc P W nm m e f good):
 Rd enc P W nm n t (fun l:List α=>[.sl (l.map f)]) (fun l=>l.length<=reachBytes/\ ∀a∈l,good a):=kbg (cq.u h) (cq.p h).1 (cq.p h).2.1 n c
theorem me {α:Type} {t:TypeId} {c:List (TypeId×Nat)} {a:Nat} {f:α->List T} {good:α->Prop} (h:dR P t a c=true) (n:Nat)
 (i: ∀m,m<n->RdF enc P W nm m a c 0 f good):Rd enc P W nm n t f good:=by
 have g:=dR.c h;simp only[dR,zF]at h;exact ZB h.1 g n i
theorem fK (a:y.Ok0 P) (n:Nat):Rd enc P W nm n y.int (fun i:Int=>[ti i]) (fun _=>True):=
 (Tl (dl.u a.int) n).conv fun i _=>⟨i,trivial,rfl⟩
theorem wV (a:y.Ok0 P) (n:Nat):Rd enc P W nm n y.bool (fun b:Bool=>[tb b]) (fun _=>True):=kbD (jY.u a.bool) n
theorem uC (a:y.Ok0 P) (n:Nat):Rd enc P W nm n y.str (fun s:ByteArray=>[.str s]) (fun s=>s.size<=reachBytes):=kc2 (jM.u a.str) n
theorem yW (a:y.Ok0 P) (n:Nat):Rd enc P W nm n y.ints (fun l:List Int=>[ints l]) (fun l=>l.length<=reachBytes):=
 (lZ a.ints n fun m _=>fK a m).conv fun l h=>⟨l,h.1,rfl⟩
theorem kdm (a:y.Ok0 P) (n:Nat):Rd enc P W nm n y.u8 (fun i:Int=>[.int .u8 i]) (fun i=>0<=i/\i<256):=
 (Tl (dl.u a.u8) n).conv fun i h=>⟨i,by simp[Lit.wf,IntKind.min,IntKind.max,IntKind.signed,IntKind.bits]at h;omega,rfl⟩
theorem oh (a:y.Ok0 P) (n:Nat):Rd enc P W nm n y.expr Expr.enc (fun _=>True):=by
 induction n using Nat.strongRecOn with
 | _ n f=>
   refine(me a.expr n fun m i=>bQ (dl.c a.int) (fK a m) (bQ (dl.c a.int) (fK a m) (bQ (dl.c a.int) (fK a m) (bQ (cq.c a.exprs) (lZ a.exprs m fun j g=>f j aa) mE)))).conv ?_;rintro⟨op,w,k,c,u⟩ _;exact⟨.mk op w k c,trivial,(Expr.enc_eq (.mk op w k c)).symm⟩
theorem kbh (a:y.Ok0 P) (n:Nat):Rd enc P W nm n y.exprs (fun l:List Expr=>[.sl (l.map Expr.enc)]) (fun l=>l.length<=reachBytes):=
 (lZ a.exprs n fun m _=>oh a m).conv fun l h=>⟨l,h.1,rfl⟩
theorem kcs (g:y.Ok0 P) (n:Nat):Rd enc P W nm n y.cell Cell.enc (fun c=>c.name.size<=reachBytes):=by
 refine(me g.cell n fun m i=>bQ (jM.c g.str) (uC g m) (bQ (dl.c g.int) (fK g m) (bQ (dl.c g.int) (fK g m) (bQ (dl.c g.int) (fK g m) (bQ (jY.c g.bool) (wV g m) (bQ (dl.c g.int) (fK g m) mE)))))).conv ?_;rintro⟨a,b,c,d,e,f,u⟩ h;exact⟨⟨a,b,c,d,e,f⟩,h.1,rfl⟩
theorem YS (c:y.Ok0 P) (n:Nat):Rd enc P W nm n y.assign Assign.enc (fun _=>True):=by
 refine(me c.assign n fun m f=>bQ (dl.c c.int) (fK c m) (bQ (dR.c c.expr) (oh c m) mE)).conv ?_;rintro⟨a,b,u⟩ h;exact⟨⟨a,b⟩,trivial,by simp[Assign.enc]⟩
theorem Ye (a:y.Ok0 P) (n:Nat):Rd enc P W nm n y.assigns (fun l:List Assign=>[.sl (l.map Assign.enc)]) (fun l=>l.length<=reachBytes):=
 (lZ a.assigns n fun m _=>YS a m).conv fun l h=>⟨l,h.1,rfl⟩
theorem kco (j:y.Ok0 P) (n:Nat):Rd enc P W nm n y.step Step.enc (fun s=>s.set.length<=reachBytes):=by
 refine(me j.step n fun m o=>bQ (dl.c j.int) (fK j m) (bQ (dl.c j.int) (fK j m) (bQ (dl.c j.int) (fK j m) (bQ (dR.c j.expr) (oh j m) (bQ (cq.c j.assigns) (Ye j m) (bQ (jY.c j.bool) (wV j m)
  (bQ (dl.c j.int) (fK j m) (bQ (dl.c j.int) (fK j m) mE)))))))).conv ?_
 rintro⟨a,b,c,d,e,f,g,i,u⟩ h;exact⟨⟨a,b,c,d,e,f,g,i⟩,h.2.2.2.2.1,by simp[Step.enc]⟩
theorem kcq (f:y.Ok0 P) (n:Nat):Rd enc P W nm n y.loop Loop.enc (fun x=>x.body.length<=reachBytes):=by
 refine(me f.loop n fun m g=>bQ (dl.c f.int) (fK f m) (bQ (cq.c f.ints) (yW f m) (bQ (dR.c f.expr) (oh f m) mE))).conv ?_;rintro⟨a,b,c,u⟩ h;exact⟨⟨a,b,c⟩,h.2.1,by simp[Loop.enc]⟩
structure Thread.inMem (x:Thread):Prop where
 name:x.name.size<=reachBytes
 steps:x.steps.length<=reachBytes
 asserts:x.asserts.length<=reachBytes
 modules:x.modules.length<=reachBytes
 loops:x.loops.length<=reachBytes
 sets: ∀s∈x.steps,s.set.length<=reachBytes
 bodies: ∀l∈x.loops,l.body.length<=reachBytes
theorem ZA (i:y.Ok0 P) (n:Nat):Rd enc P W nm n y.thread Thread.enc Thread.inMem:=by
 refine(me i.thread n fun m o=>bQ (jM.c i.str) (uC i m) (bQ (dl.c i.int) (fK i m) (bQ (cq.c i.exprs) (kbh i m) (bQ (cq.c i.ints) (yW i m)
  (bQ (cq.c i.steps) (lZ i.steps m fun j _=>kco i j) (bQ (cq.c i.loops) (lZ i.loops m fun j _=>kcq i j) (bQ (jY.c i.bool) (wV i m) mE))))))).conv ?_
 rintro⟨a,b,c,d,e,f,g,u⟩ h;exact⟨⟨a,b,c,d,e,f,g⟩,⟨h.1,h.2.2.2.2.1.1,h.2.2.1,h.2.2.2.1,h.2.2.2.2.2.1.1,h.2.2.2.2.1.2,h.2.2.2.2.2.1.2⟩,rfl⟩
theorem W1 (f:y.Ok0 P) (n:Nat):Rd enc P W nm n y.contract Contract.enc (fun x=>x.name.size<=reachBytes/\x.owner.size<=reachBytes/\x.frame.length<=reachBytes):=by
 refine(me f.contract n fun m g=>bQ (jM.c f.str) (uC f m) (bQ (jM.c f.str) (uC f m) (bQ (dR.c f.expr) (oh f m) (bQ (dR.c f.expr) (oh f m) (bQ (cq.c f.ints) (yW f m) mE))))).conv ?_;rintro⟨a,b,c,d,e,u⟩ h;exact⟨⟨a,b,c,d,e⟩,⟨h.1,h.2.1,h.2.2.2.2.1⟩,by simp[Contract.enc]⟩
theorem kcr (f:y.Ok0 P) (n:Nat):Rd enc P W nm n y.lock Lock.enc (fun _=>True):=by
 refine(me f.lock n fun m g=>bQ (dl.c f.int) (fK f m) (bQ (dR.c f.expr) (oh f m) (bQ (dl.c f.int) (fK f m) mE))).conv ?_;rintro⟨a,b,c,u⟩ h;exact⟨⟨a,b,c⟩,trivial,by simp[Lock.enc]⟩
structure Prog.inMem (p:Prog):Prop where
 cells: ∀c∈p.cells,c.name.size<=reachBytes
 modules: ∀m∈p.modules,m.name.size<=reachBytes/\m.owner.size<=reachBytes/\m.frame.length<=reachBytes
 threads: ∀x∈p.threads,x.inMem
 nCells:p.cells.length<=reachBytes
 nModules:p.modules.length<=reachBytes
 nLocks:p.locks.length<=reachBytes
 nThreads:p.threads.length<=reachBytes
theorem kcp (f:y.Ok0 P) (n:Nat):Rd enc P W nm n y.prog Prog.enc Prog.inMem:=by
 refine(me f.prog n fun m g=>bQ (cq.c f.cells) (lZ f.cells m fun j _=>kcs f j) (bQ (cq.c f.contracts) (lZ f.contracts m fun j _=>W1 f j)
  (bQ (cq.c f.locks) (lZ f.locks m fun j _=>kcr f j) (bQ (cq.c f.threads) (lZ f.threads m fun j _=>ZA f j) mE)))).conv ?_
 rintro⟨a,b,c,d,u⟩ h;exact⟨⟨a,b,c,d⟩,⟨h.1.2,h.2.1.2,h.2.2.2.1.2,h.1.1,h.2.1.1,h.2.2.1.1,h.2.2.2.1.1⟩,rfl⟩
end
end Rg
end
section
namespace Rg
open Go Go.ChangeShapes
section
variable {H:Type} {enc:TypeId×Value->H} {P:Program}
theorem JC {W i:World} {m:Nat->Bool} (j:laidOutB P=true): ∀{f:List TypeId} {vs:List Value} {g:List (DataW H)} {c:List MemPlace},
 (∀t∈f,P.readableRec t=true/\t<P.types.size)->DataW.TrodAll enc P W 0 (fun _=>true) true f vs g c->(∀p∈c,W.sameAt i p)->(∀p∈c,m p.block=true)->DataW.TrodAll enc P i 0 m true f vs g c
 | [],[],[],c,_,h,_,_=>h
 | t::f,v::vs,d::g,c,hr,h,hs,hp=>by
   obtain⟨p,q,o,r,rfl⟩:=h
   exact⟨p,q,WideElems.Trod_stays j (hr t ff).1 (hr t ff).2 o (fun x a=>hs x (ik _ a)) (fun x a=>hp x (ik _ a)),
    JC j (fun t s=>hr t (gu _ s)) r (fun x a=>hs x (s8 _ a)) (fun x a=>hp x (s8 _ a)),rfl⟩
 | [],[],_::_,_,_,h,_,_=>by cases h
 | [],_::_,_,_,_,h,_,_=>by cases h
 | _::_,[],_,_,_,h,_,_=>by cases h
 | _::_,_::_,[],_,_,h,_,_=>by cases h
theorem Xt {W a:World} (h: ∀q,q<W.heap.size->a.heap[q]? =W.heap[q]?) {p:MemPlace} (hp:p.block<W.heap.size):W.sameAt a p:=by
 cases p with
 | cell b c=>exact cell?_eq (h b hp)
 | map b=>exact h b hp
theorem Xp {W c:World} (j:c.os=W.os) (m:c.output=W.output) (h: ∀q,q<W.heap.size->c.heap[q]? =W.heap[q]?) (g:MemPlace->Prop):W.keptBut c g:=by
 refine⟨j,m,fun i hi=> ?_⟩;rw[h i hi];split
 ·rename_i f a;rw[f]at a;cases a;exact⟨rfl,rfl,rfl,fun _ _=>rfl⟩
 ·rename_i f a;rw[f]at a;cases a;exact .inr ⟨rfl,rfl⟩
 ·rfl
theorem X8 {N:Nam} {g f:Nat} {fn:Func} {s:ChangeSpec} {W:World} {args:Array Value} {a c:List (DataW H)} {before:List MemPlace} {B:List V} {tb:TypeId}
 (hp:ot P N g B (vb true)) (hg:N.nm g=f) (X:uM N (fun r=>r<W.heap.size) W) (Y:fB W (fun r=>r<W.heap.size) N.nm (fun _=>0) (fun _=>none) args B)
 (hl:laidOutB P=true) (hr: ∀t∈fn.params.toList,P.readableRec t=true/\t<P.types.size) (E:fn.resultTypes= #[tb]) (R:P.underlying tb=some .bool)
 (D:s.vars=[]) (j:DataW.Whole enc P fn.params.toList s.vars false W args.toList a c before)
 (m:c=[]->s.fn H (a++c)= { results:=[.lit (.bool true)],args:=a }):
 Calls P f args W fun e i=> ∃v,e= .returned v/\s.post enc P fn false true false false W args v i:=by
 subst hg;refine(hp _ W args (fun r h=>h) X Y).mono fun e i ⟨v,Z,⟨ho,hu⟩,AS,z,I⟩=>⟨v,Z,?_⟩
 have J:v= .bool true:=by
  have S:RepT i _ N.nm v (.bool true):=aN.t_inv I;cases S;rfl
 subst J;have w:=j.lt;have L:=j;obtain⟨p,q,U,C,rfl,RL,Bt⟩:=L;have K:c=[]/\q=[]:=by rw[D]at C;exact trodVars_none C
 obtain⟨rfl,rfl⟩:=K;refine⟨a,[],p++[],[],p,[],j,?_,?_,?_,Xp ho hu z _,fun h=>by cases h⟩
 ·rw[m rfl,E];exact trodAll_mk1 ⟨1,by simp[DataW.trod,R,Value.cells]⟩
 ·rw[m rfl];refine JC hl hr U (fun x o=>Xt z (w x (ak o))) (fun x o=> ?_);simpa using w x (ak o)
 ·rw[m rfl,D];rfl
end
section
variable {W:World} {nm:Nat->Nat} {A:Nat->Prop} {μ:Nat->Nat} {HO:Nat->Option O}
theorem Xu: ∀{vs:List Value} {xs:List V},vs.length=xs.length->(∀(i:Nat) (x:V) (v:Value),xs[i]? =some x->vs[i]? =some v->aN W A nm μ HO v x)->fB W A nm μ HO vs.toArray xs
 | vs,xs,hl,h=>⟨ak hl,fun i x a=>by
    have:i<vs.length:=by rw[hl];exact(zH.1 a).1
    exact⟨vs[i],af,h i x _ a af⟩⟩
theorem kbe {cs:Array Value} {xs:List T} (h:j9 W nm cs.toList xs):aN W (fun r=>r<W.heap.size) nm μ HO (.agg cs) (.agg (xs.map V.t)):=by
 refine⟨cs,rfl,by rw[cO];exact h.1,fun i c a=> ?_⟩;rw[zJ,zE]at a;obtain⟨x,j,rfl⟩:=a;obtain⟨v,g,f⟩:=h.2 i x j;exact⟨v,g,.t f⟩
theorem kbd {v:Value} {x:T} (h:j9 W nm [v] [x]):aN W (fun r=>r<W.heap.size) nm μ HO v (.t x):=by
 obtain⟨u,a,c⟩:=h.2 0 x rfl;simp at a;subst a;exact RepC.toV (.t c)
end
end Rg
end
section
namespace Rg
open Go
def vq:Lit->T
 | .int k n=> .int k n
 | .string s=> .str ⟨s.toArray⟩
 | .bool b=> .bool b
 | _=> .nilp
theorem PF {P:Program} {W:World}: ∀{laid:List (String×DataW Unit)} {i:List MemPlace},DataW.LaidVars P W laid i-> ∀{nm:String} {d:DataW Unit},(nm,d)∈laid->
 ∃g t cs f q,P.globalNamed nm=some g/\(P.globals[g]?).map (·.type)=some t/\W.var? P nm=some cs/\DataW.trod (fun _=>()) P W 0 (fun _=>true) false f t cs.toList=some (d,q)
 | [],_,_,_,_,c=>by cases c
 | (a,b)::r,i,h,nm,d,c=>by
   obtain⟨g,t,cs,f,w,z,j,m,o,s,v,x⟩:=h;rcases cj.1 c with c | c
   ·cases c;exact⟨g,t,cs,f,w,j,m,o,s⟩
   ·exact PF v c
theorem Sd {P:Program} {W:World} {N:Nam} {laid:List (String×DataW Unit)} {nm:String} {g k:Nat} {t e:TypeId} {ls:List Lit}
 (BL:(laid.all fun x=>x.2.handleName?.isNone)=true) (h:laidMetH P laid W) (Ce:(nm,.agg (ls.map DataW.lit))∈laid)
 (S:P.globalNamed nm=some g) (ht:(P.globals[g]?).map (·.type)=some t) (hu:P.underlying t=some (.array ls.length e)) (f:P.underlying e=some .string\/ ∃k,P.underlying e=some (.int k)) (hc:P.cellsOf e=1) (hn:P.cellsOf t=ls.length)
 (Ku:N.gm k=g) (R:N.G k=ls.map vq) (j:Nat) (x:T) (V:(N.G k)[j]? =some x):
 N.gm k<W.heap.size/\(∃e,W.shape? (N.gm k)=some (e,(N.G k).length))/\ ∃v,W.cell? ⟨N.gm k,j,none⟩=some v/\RepT W (fun r=>r<W.heap.size) N.nm v x:=by
 rw[MakeChecks.laidMetH_plain _ _ _ BL]at h;obtain⟨ps,hv,_⟩:=h;obtain⟨g0,t0,c,f0,q0,I,Mo,a,QI⟩:=PF hv Ce;obtain rfl:=o9 (S.symm.trans I);obtain rfl:=o9 (ht.symm.trans Mo);obtain⟨xs,m1,rfl,E,Y,Iq,M2⟩:=DataW.trod_array hu QI;simp only[dv,DataW.agg.injEq]at E;rw[R,zJ,zE]at V;obtain⟨m,U,rfl⟩:=V;have hj:j<ls.length:=(zH.1 U).1;obtain⟨y,X⟩: ∃y,xs[j]? =some y:=⟨_,zI aa⟩
 have i:y.1= .lit m:=by
  have J:=bx (·[j]?) E.1;simp only[zJ,U,X,cZ,zA]at J;exact J.symm
 have o:=M2 j hj;rw[X,hc,jG]at o
 have D: ∀v:Value,(c.toList.drop j).take 1=[v]->c[j]? =some v:=by
  intro v w;have K:=bx (·[0]?) w;simp only[zO,fu,gY]at K;simpa using K
 have BP: ∃v,c[j]? =some v/\RepT W (fun r=>r<W.heap.size) N.nm v (vq m):=by
  rcases f with f | ⟨B,f⟩
  ·obtain⟨s,hs,FN,_⟩:=DataW.trod_string f o;have:m= .string s.data.toList:=by rw[FN]at i;simpa using i.symm
   subst this;refine⟨.string s,D _ hs,?_⟩;have:vq (.string s.data.toList)= .str s:=by simp[vq]
   rw[this];exact .str s
  ·obtain⟨q,w,P5,_⟩:=DataW.trod_int f o;have:m= .int B q:=by rw[P5]at i;simpa using i.symm
   subst this;exact⟨.int B q,D _ w,.int B q⟩
 obtain⟨v,PJ,Z⟩:=BP;have C:W.cell? ⟨g,j,none⟩=some v:=by rw[World.var?_cell I a j];exact PJ
 rw[Ku];refine⟨(cell?_spot C).2,?_,v,C,Z⟩;unfold World.var? at a;rw[S]at a;simp only[zD]at a;unfold World.shape?;split at a
 ·rename_i cs e0 z hb;simp only[zA]at a;subst a;rw[hb];refine⟨e0,?_⟩;simp only[zA,dv,nN];have L:=Y;rw[qU]at L;rw[L,R,cO,hn]
 ·cases a
theorem kcV {tbl:List Nat} {a:Nat->Option Nat} {c:Nat->Nat} {G:Nat->List T} {j:Code->Nat->C->Prop} {g r:Nat} (o: ∀q k,a q=some k->c k=q/\G k≠[]):
 Inv.Ok ⟨fun f=>tbl.findIdx? (· ==f),a,some g⟩ ⟨fun k=>tbl.getD k 0,c,G,j,g,r⟩:=by
 refine⟨fun f k h=> ?_,o,fun t h=>by cases h;rfl⟩;obtain⟨i,m,_⟩:=rv.1 h;show tbl.getD k 0=f;rw[zK,zI i];simpa using m
theorem LM {α:Type} {k:Nat} {v:α}: ∀{l:List (Nat×α)},l.lookup k=some v->(k,v)∈l
 | [],h=>by simp at h
 | (a,b)::r,h=>by
   rw[List.lookup_cons]at h;split at h
   ·rename_i c;simp only[oJ]at c;cases h;subst c;exact ff
   ·exact gu _ (LM h)
end Rg
end
section
namespace Rg
open Go
theorem VZ {a b:Bool} (h:a=true) (g:b=true):(a&&b)=true:=by rw[h,g];rfl
section
variable {H:Type} {enc:TypeId×Value->H} {P:Program} {W:World} {nm μ:Nat->Nat} {HO:Nat->Option O} {y:Tys}
theorem trodAll_nil {f:Nat->Bool} {vs:List Value} {a:List (DataW H)} {c:List MemPlace} (h:DataW.TrodAll enc P W 0 f true [] vs a c):vs=[]/\a=[]:=by
 cases vs<;>cases a<;>first | exact⟨rfl,rfl⟩ | cases h
theorem trodAll_cons {g:Nat->Bool} {t:TypeId} {i:List TypeId} {vs:List Value} {a:List (DataW H)} {o:List MemPlace} (h:DataW.TrodAll enc P W 0 g true (t::i) vs a o):
 ∃v f d c p q,vs=v::f/\a=d::c/\DataW.Trod enc P W 0 g true t v d p/\DataW.TrodAll enc P W 0 g true i f c q:=by
 cases vs with
 | nil=>cases h
 | cons v vs=>
   cases a with
   | nil=>cases h
   | cons d a=>
     obtain⟨p,q,j,m,_⟩:=h;exact⟨v,vs,d,a,p,q,rfl,rfl,j,m⟩
theorem vk {t:TypeId} {c:List TypeId} {d:DataW H} {a:List (DataW H)} (h:(DataW.weightsEach P (t::c) (d::a)).all (· <=reachBytes)=true):
 (d.weights P t).all (· <=reachBytes)=true/\(DataW.weightsEach P c a).all (· <=reachBytes)=true:=by
 rw[DataW.weightsEach,nq,zF]at h;exact h
theorem kcK {α:Type} {t:TypeId} {g:Nat} {o:List (TypeId×Nat)} {f:α->List T} {good:α->Prop} {v:Value} {d:DataW H} {p:List MemPlace} {base:Nat} (j:dR P t g o=true) (w: ∀n,Rd enc P W nm n t f good)
 (c:Value.okWide P W .any base t v) (x:DataW.Trod enc P W 0 (fun _=>true) true t v d p) (B:(d.weights P t).all (· <=reachBytes)=true):
 ∃a,good a/\aN W (fun r=>r<W.heap.size) nm μ HO v (.agg ((f a).map V.t)):=by
 obtain⟨n,s⟩:=x;obtain⟨a,q,m⟩:=w n _ _ s B;refine⟨a,q,?_⟩;simp only[dR,zF]at j;have i:=j.1;split at i
 ·rename_i u z;unfold Value.okWide at c;rw[z]at c;obtain⟨cs,rfl,_⟩:=c;exact kbe (by simpa[Value.cells]using m)
 ·simp at i
theorem zx {α:Type} {t:TypeId} {k:IntKind} {f:α->T} {good:α->Prop} {v:Value} {d:DataW H} {p:List MemPlace} {base:Nat} (o:dl P t k=true) (m: ∀n,Rd enc P W nm n t (fun a=>[f a]) good)
 (c:Value.okWide P W .any base t v) (q:DataW.Trod enc P W 0 (fun _=>true) true t v d p) (w:(d.weights P t).all (· <=reachBytes)=true):
 ∃a,good a/\aN W (fun r=>r<W.heap.size) nm μ HO v (.t (f a)):=by
 obtain⟨n,j⟩:=q;obtain⟨a,i,g⟩:=m n _ _ j w;refine⟨a,i,?_⟩;have s:=dl.u o;unfold Value.okWide Cell.okWide Cell.ok at c;rw[s]at c;cases v<;>first | exact kbd (by simpa[Value.cells]using g) | exact absurd c af
theorem Prog.inMem.lite {p:Prog} (h:p.inMem):(∀x∈p.threads,x.steps.length<2^50)/\(∀c∈p.cells,c.name.size<2^50)/\(∀m∈p.modules,m.name.size<2^50/\m.owner.size<2^50)/\(∀t∈p.threads,t.name.size<2^50):=by
 have a:reachBytes<2^50:=aG
 exact⟨fun x f=>pY (h.threads x f).steps a,fun c i=>pY (h.cells c i) a,
  fun m g=>⟨pY (h.modules m g).1 a,pY (h.modules m g).2.1 a⟩,fun x f=>pY (h.threads x f).name a⟩
end
end Rg
end
section
namespace Rg
open Go
section
variable {Γ:Nat->Option F} {G:Nat->List T}
theorem Big.det {t:Task} {o:Out} (h:Big Γ G t o): ∀{o':Out},Big Γ G t o'->o=o':=by
 induction h with
 | skip=>intro o' h';cases h';rfl
 | ret=>intro o' h';cases h';rfl
 | exit=>intro o' h';cases h';rfl
 | region _ i=>intro o' h';cases h' with | region h=>have:=i h;cases this;rfl
 | regionD _ _ i=>intro o' h';cases h' with | regionD h _=>have:=i h;cases this;rfl
 | seqN _ _ I V=>
   intro o' h'
   cases h' with
   | seqN x D=>have:=I x;cases this;exact V D
   | seqX x j=>have:=I x;cases this;exact absurd rfl j
 | seqX _ j i=>
   intro o' h'
   cases h' with
   | seqN x D=>have:=i x;cases this;exact absurd rfl j
   | seqX x j=>exact i x
 | cond Z _ i=>
   intro o' h'
   cases h' with
   | cond w h=>rw[Z]at w;cases w;exact i h
 | block _ i=>
   intro o' h'
   cases h' with
   | block h=>have:=i h;cases this;rfl
 | loop _ i=>
   intro o' h'
   cases h' with
   | loop h=>exact i h
 | loopN _ _ I V=>
   intro o' h'
   cases h' with
   | loopN x D=>have:=I x;cases this;exact V D
   | loopX x j=>have:=I x;cases this;exact absurd rfl j
 | loopX _ j i=>
   intro o' h'
   cases h' with
   | loopN x D=>have:=i x;cases this;exact absurd rfl j
   | loopX x j=>exact i x
 | opsNil=>intro o' h';cases h';rfl
 | opsSkip B hf _ i=>
   intro o' h'
   cases h' with
   | opsSkip a Y h=>exact i h
   | opsEff a _ _ _=>rw[B]at a;cases a
   | opsPure a _ _ _ _ _ _ _ _ _ _ _=>rw[B]at a;cases a
   | opsRaw a _ _ _ _ _ _ _ _ _=>rw[B]at a;cases a
   | opsFresh a _ _ _ _ _ _ _ _ _ _ _ _=>rw[B]at a;cases a
   | opsYield a _ _ _ _ _ _ _ _ _ _ _=>rw[B]at a;cases a
 | rangeF E K z U Z hl j C=>
   intro o' h'
   cases h' with
   | rangeF m r f v w CE q=>
     rw[E]at m;cases m;rw[K]at r;cases r;have:=C w;cases this;rw[hl]at CE;cases CE;rw[j]at q;cases q
     rfl
 | opsYield B hf g E hk R Ac Bi AT CL AF _ iha ihb i=>
   intro o' h'
   cases h' with
   | opsSkip a Y h=>rw[B]at a;cases a
   | opsEff a _ q h=>rw[g]at q;simp[ao]at q
   | opsPure a _ c m r f v s L w JS h=>rw[g]at c;cases c
   | opsFresh a _ c _ _ _ _ _ _ _ _ _ _=>rw[g]at c;cases c
   | opsRaw a _ c m r f v s w h=>
     rw[g]at c;cases c;rw[E]at m;cases m
     simp[cD]at r
   | opsYield a _ c m Ah s BS Og EM Of HX h=>
     rw[g]at c;cases c;rw[E]at m;cases m;rw[hk]at Ah;cases Ah;rw[R]at s;cases s;have:=iha Og;cases this;rw[AT]at EM;cases EM;have:=ihb Of;cases this;rw[AF]at HX;cases HX
     exact i h
 | opsEff B hf j _ i=>
   intro o' h'
   cases h' with
   | opsSkip a Y h=>rw[B]at a;cases a
   | opsEff a _ q h=>rw[j]at q;cases q;exact i h
   | opsPure a _ g _ _ _ _ _ _ _ _ _=>rw[g]at j;simp[ao]at j
   | opsRaw a _ g _ _ _ _ _ _ _=>rw[g]at j;simp[ao]at j
   | opsFresh a _ g _ _ _ _ _ _ _ _ _ _=>rw[g]at j;simp[ao]at j
   | opsYield a _ g _ _ _ _ _ _ _ _ _=>rw[g]at j;simp[ao]at j
 | opsPure B hf g E K z U R AD Z hd _ C i=>
   intro o' h'
   cases h' with
   | opsSkip a Y h=>rw[B]at a;cases a
   | opsEff a _ q h=>rw[g]at q;simp[ao]at q
   | opsPure a _ c m r f v s L w JS h=>
     rw[g]at c;cases c;rw[E]at m;cases m;rw[K]at r;cases r;rw[R]at s;cases s;rw[AD]at L;cases L;have:=C w;cases this
     exact i h
   | opsRaw a _ c _ _ _ _ _ _ _=>rw[g]at c;cases c
   | opsFresh a _ c _ _ _ _ _ _ _ _ _ _=>rw[g]at c;cases c
   | opsYield a _ c _ _ _ _ _ _ _ _ _=>rw[g]at c;cases c
 | opsRaw B hf g E K z U R Z _ C i=>
   intro o' h'
   cases h' with
   | opsSkip a Y h=>rw[B]at a;cases a
   | opsEff a _ q h=>rw[g]at q;simp[ao]at q
   | opsPure a _ c m r f v s L w JS h=>rw[g]at c;cases c
   | opsFresh a _ c _ _ _ _ _ _ _ _ _ _=>rw[g]at c;cases c
   | opsYield a _ c m _ _ _ _ _ _ _ _=>
     rw[g]at c;cases c;rw[E]at m;cases m
     simp[cD]at K
   | opsRaw a _ c m r f v s w h=>
     rw[g]at c;cases c;rw[E]at m;cases m;rw[K]at r;cases r;rw[R]at s;cases s;have:=C w;cases this
     exact i h
 | opsFresh B hf g E K z U R AD hd Z j _ C i=>
   intro o' h'
   cases h' with
   | opsSkip a Y h=>rw[B]at a;cases a
   | opsEff a _ q h=>rw[g]at q;simp[ao]at q
   | opsPure a _ c m r f v s L w JS h=>rw[g]at c;cases c
   | opsRaw a _ c m r f v s w h=>rw[g]at c;cases c
   | opsYield a _ c _ _ _ _ _ _ _ _ _=>rw[g]at c;cases c
   | opsFresh a _ c m r f v s L JS w q h=>
     rw[g]at c;cases c;rw[E]at m;cases m;rw[K]at r;cases r;rw[R]at s;cases s;rw[AD]at L;cases L;have:=C w;cases this;rw[j]at q;cases q
     exact i h
 | pcall z U IC j hv Bh i=>
   intro o' h'
   cases h' with
   | pcall f v h q S Jf=>
     rw[z]at f;cases f;have:=i h;cases this;rw[hv]at S;cases S;rw[Bh]at Jf;cases Jf
     rfl
   | pext f v J D=>
     rw[z]at f;cases f;rw[J]at IC
     cases IC
 | rcall z U N j hv i=>
   intro o' h'
   cases h' with
   | rcall f v h q S=>
     rw[z]at f;cases f;have:=i h;cases this;rw[hv]at S;cases S
     rfl
   | rext f v J h=>
     rw[z]at f;cases f
     rw[J]at N;cases N
 | pext z U J h=>
   intro o' h'
   cases h' with
   | pcall f v N q S Jf=>
     rw[z]at f;cases f
     rw[J]at N;cases N
   | pext f v X D=>
     rw[z]at f;cases f;rw[J]at X;cases X;rw[h]at D;cases D
     rfl
 | rext z U J h=>
   intro o' h'
   cases h' with
   | rcall f v N q S=>
     rw[z]at f;cases f
     rw[J]at N;cases N
   | rext f v X D=>
     rw[z]at f;cases f;rw[J]at X;cases X;rw[h]at D;cases D;rfl
variable (Γ G)
open Classical in
noncomputable def Den (g:Nat) (args:List V):Option V:=if h: ∃r,PC Γ G g args r then some h.choose else none
open Classical in
noncomputable def DenR (g:Nat) (args:List V) (h:Nat->Option O) (n:Nat):Option (V×(Nat->Option O)×Nat):=
 if h: ∃r:V×(Nat->Option O)×Nat,RC Γ G g args h n r.1 r.2.1 r.2.2 then some h.choose else none
open Classical in
noncomputable def DenY (k:Nat) (args:List V) (h:Nat->Option O) (n:Nat):Option (V×(Nat->Option O)×Nat):=
 if h: ∃r:V×(Nat->Option O)×Nat,YC Γ G k args h n r.1 r.2.1 r.2.2 then some h.choose else none
variable {Γ G}
theorem kcL {k:Nat} {args:List V} {h:ae} {n:Nat} {r s:V} {g i:ae} {j m:Nat} (a:YC Γ G k args h n r g j) (b:YC Γ G k args h n s i m):r=s/\g=i/\j=m:=by
 obtain⟨env,Z,U,cb,s1,enva,L,x,env',J,v,e,s2,D,Y,E,f,g3'',I,rfl,rfl,rfl⟩:=a;obtain⟨env0,ps0,B,C,S,envb,N,z,env1,K,w,X,s0,o,q2,R,c,q3'',q,rfl,rfl,rfl⟩:=b;rw[D]at o;cases o;have:=E.det R;cases this;rw[f]at c;cases c;have:=g3''.det q3'';cases this;rw[I]at q;cases q;exact⟨rfl,rfl,rfl⟩
theorem xE {k:Nat} {args:List V} {h:ae} {n:Nat} {r:V} {h':ae} {c:Nat}:DenY Γ G k args h n=some (r,h',c)<->YC Γ G k args h n r h' c:=by
 unfold DenY;split
 ·rename_i h;have a:=h.choose_spec;constructor
  ·intro e;simp only[zA]at e;rw[e]at a;exact a
  ·intro e;obtain⟨f,g,i⟩:=kcL a e;simp only[zA];exact sX f (sX g i)
 ·rename_i h;constructor
  ·intro e;cases e
  ·intro e;exact absurd ⟨(r,h',c),e⟩ h
theorem pQ {g:Nat} {args:List V} {r:V}:Den Γ G g args=some r<->PC Γ G g args r:=by
 unfold Den;split
 ·rename_i h;have a:=h.choose_spec;constructor
  ·intro e;cases e;exact a
  ·intro e;have:=Big.det a e;cases this;congr 1
 ·rename_i h;constructor
  ·intro e;cases e
  ·intro e;exact absurd ⟨r,e⟩ h
theorem jA {g:Nat} {args:List V} {h:ae} {n:Nat} {r:V} {h':ae} {c:Nat}:DenR Γ G g args h n=some (r,h',c)<->RC Γ G g args h n r h' c:=by
 unfold DenR;split
 ·rename_i h;have a:=h.choose_spec;constructor
  ·intro e;simp only[zA]at e;rw[e]at a;exact a
  ·intro e;have:=Big.det a e;simp only[Out.vals.injEq]at this;obtain⟨f,i,j⟩:=this;simp only[zA];exact sX f (sX i j)
 ·rename_i h;constructor
  ·intro e;cases e
  ·intro e;exact absurd ⟨(r,h',c),e⟩ h
theorem pK {g:Nat} {fn:F} {e:Ext} {args:List V} {hp h':ae} {n a:Nat} {r:V} (f:Γ g=some fn) (i:fn.raw=true) (c:fn.body= .ext e)
 (h:jq e args hp n=some (r,h',a)):DenR Γ G g args hp n=some (r,h',a):=jA.2 (.rext f i c h)
theorem SW {g:Nat} {fn:F} {e:Ext} {args:List V} {r:V} (c:Γ g=some fn) (f:fn.raw=false) (a:fn.body= .ext e)
 (h:nI e args=some r):Den Γ G g args=some r:=pQ.2 (.pext c f a h)
theorem VI {g:Nat} {args:List V} {r:V} (h:PC Γ G g args r): ∃fn,Γ g=some fn/\fn.raw=false:=by
 cases h with
 | pcall a c _ _ _ _=>exact⟨_,a,c⟩
 | pext a c _ _=>exact⟨_,a,c⟩
theorem zp {g:Nat} {args:List V} {h:ae} {n:Nat} {r:V} {h':ae} {f:Nat} (h:RC Γ G g args h n r h' f): ∃fn,Γ g=some fn/\fn.raw=true:=by
 cases h with
 | rcall a c _ _ _=>exact⟨_,a,c⟩
 | rext a c _ _=>exact⟨_,a,c⟩
@[go_sem]theorem kaX (d:Bool) (m:M) (a:Option Nat) (g:Nat) (l:List V) (K:M->Prop):
 ux Γ G d m a g l K=(m.free a {}=true/\match l.mapM (toT1 m.heap)with
  | none=>False
  | some rs=>match Den Γ G g rs with
    | none=>False
    | some r=>uD d m a l r K):=by
 apply propext;unfold ux;constructor
 ·rintro⟨f,rs,c,r,j,q,o⟩;refine⟨f,?_⟩;rw[c];simp only;rw[pQ.2 j];exact o
 ·rintro⟨f,h⟩;refine⟨f,?_⟩;split at h
  ·exact h.elim
  ·rename_i rs c;split at h
   ·exact h.elim
   ·rename_i r i;exact⟨rs,c,r,pQ.1 i,VI (pQ.1 i),h⟩
@[go_sem]theorem kaW (m:M) (a:Option Nat) (g:Nat) (l:List V) (K:M->Prop):
 uw Γ G m a g l K=(m.free a {}=true/\match DenR Γ G g l m.heap m.nxt with
  | none=>False
  | some (r,h',c)=>K ({ m with heap:=h',nxt:=c }.apply a { val:=r })):=by
 apply propext;unfold uw;constructor
 ·rintro⟨f,r,h',c,j,q,o⟩;refine⟨f,?_⟩;rw[jA.2 j];exact o
 ·rintro⟨f,h⟩;refine⟨f,?_⟩;split at h
  ·exact h.elim
  ·rename_i r h' c i;exact⟨r,h',c,jA.1 i,zp (jA.1 i),h⟩
theorem kbG (m:M) (a:Option Nat) (k:Nat) (l:List V) (K:M->Prop):
 vd Γ G m a k l K=(m.free a {}=true/\match DenY Γ G k l m.heap m.nxt with
  | none=>False
  | some (r,h',c)=>K ({ m with heap:=h',nxt:=c }.apply a { val:=r })):=by
 apply propext;unfold vd;constructor
 ·rintro⟨f,r,h',c,g,i⟩;refine⟨f,?_⟩;rw[xE.2 g];exact i
 ·rintro⟨f,h⟩;refine⟨f,?_⟩;split at h
  ·exact h.elim
  ·rename_i r h' c j;exact⟨r,h',c,xE.1 j,h⟩
def V.tree:V->Bool
 | .t _=>true
 | .agg cs=>cs.all fun c=>match c with | .t _=>true | _=>false
 | _=>false
theorem Mr {h:ae} {v:V} (a:v.tree=true):bX h v=[]:=by
 cases v with
 | agg cs=>
   simp only[V.tree,zN]at a;simp only[bX,nk];intro c f;have:=a c f;cases c<;>simp at this
   rfl
 | t x=>rfl
 | _=>simp[V.tree]at a
attribute [go_sem] V.tree List.all_cons List.all_nil Bool.and_self
theorem kcW {g:Nat} {args:List V} {fn:F} {r:V} (a:Γ g=some fn) (c:fn.raw=false)
 (h:wpC Γ G fn.body ⟨slots args 0,fun _=>false,fun _=>none,0,0⟩ (Fin fn.results r)):Den Γ G g args=some r:=pQ.2 (kcG a c h)
def qE (rs:List Res) (P:V->ae->Nat->Prop) (e:Ex) (m:M):Prop:=(∀id,e≠ .exit id)/\ ∃v,jl m.st rs=some v/\P v m.heap m.nxt
theorem kaV {g:Nat} {args:List V} {fn:F} {hp:ae} {n:Nat} {P:V->ae->Nat->Prop} (m:Γ g=some fn) (o:fn.raw=true)
 (h:wpC Γ G fn.body ⟨slots args 0,fun _=>false,hp,n,n⟩ (qE fn.results P)): ∃r h' f,DenR Γ G g args hp n=some (r,h',f)/\P r h' f:=by
 obtain⟨e,c,a,j,v,q,i⟩:=jP h;refine⟨v,c.heap,c.nxt,jA.2 ?_,i⟩;have:M.st ⟨slots args 0,fun _=>false,hp,n,n⟩=St.init args hp n:=by rw[kcb,ST]
 rw[this]at a;exact .rcall m o a j q
@[go_sem]theorem kbE (rs:List Res) (P:V->ae->Nat->Prop) (sl:Nat->Slot) (u:Nat->Bool) (h:ae) (n b:Nat):
 qE rs P .ret ⟨sl,u,h,n,b⟩= ∃v,jl (M.st ⟨sl,u,h,n,b⟩) rs=some v/\P v h n:=by simp[qE]
@[go_sem]theorem kbF (rs:List Res) (P:V->ae->Nat->Prop) (sl:Nat->Slot) (u:Nat->Bool) (h:ae) (n b:Nat):
 qE rs P .normal ⟨sl,u,h,n,b⟩= ∃v,jl (M.st ⟨sl,u,h,n,b⟩) rs=some v/\P v h n:=by simp[qE]
theorem VG {b:C} {sl:Nat->Slot} {v:Nat->Bool} {nx a:Nat} {Q:Ex->M->Prop} (W:List Nat) (n:Nat) (Inv:Nat->(Nat->Slot)->Prop) (q:b.wrIn W=true) (j:b.noH=true)
 (c:Inv 0 sl)
 (h: ∀i f u k bs,i<=n->Inv i f->wpC Γ G b ⟨ovr W f sl,u,fun _=>none,k,bs⟩ (hU (fun s=>SpN (i<n/\Inv (i+1) s.sl) ⟨0⟩) Q)):WL Γ G b ⟨sl,v,fun _=>none,nx,a⟩ Q:=by
 refine kdh W q j (fun k f=> ∃i,k=n-i/\i<=n/\Inv i f) n ⟨0,aa,aa,c⟩ ?_;rintro k f u r bs ⟨i,rfl,hi,o⟩;refine yH (jP (h i f u r bs hi o)) ?_;apply yn;rintro m ⟨w,g⟩;exact⟨n-(i+1),aa,i+1,rfl,aa,g⟩
theorem kcO {b:C} {sl:Nat->Slot} {s:Nat->Bool} {hp:ae} {nx c:Nat} {Q:Ex->M->Prop} (W:List Nat) (n:Nat) (Inv:Nat->(Nat->Slot)->ae->Nat->Prop) (q:b.wrIn W=true)
 (g:Inv 0 sl hp nx)
 (h: ∀i f u h k bs,i<=n->Inv i f h k->wpC Γ G b ⟨ovr W f sl,u,h,k,bs⟩ (hU (fun a=>SpN (i<n/\Inv (i+1) a.sl a.heap a.nxt) ⟨0⟩) Q)):WL Γ G b ⟨sl,s,hp,nx,c⟩ Q:=by
 refine DB W q (fun k f h x=> ∃i,k=n-i/\i<=n/\Inv i f h x) n ⟨0,aa,aa,g⟩ ?_;rintro k f u h' r bs ⟨i,rfl,hi,o⟩;refine yH (jP (h i f u h' r bs hi o)) ?_;apply yn;rintro m ⟨v,j⟩;exact⟨n-(i+1),aa,i+1,rfl,aa,j⟩
end
end Rg
end
section
namespace Rg
open Go
structure W3 (c:C) (Q:Ex->M->Prop) (m:M)where
 n:Nat
structure W4 (p:Nat) (l:List ROp) (Q:M->Prop) (m:M)where
 n:Nat
structure WK {α:Type} {β:Sort _} (K:α->β)where
 n:Nat
structure WV {α:Type} (x y:α)where
 n:Nat
def pk {α:Type} (b:Bool) (x y:α) (_:WV x y):α:=match b with
 | true=>x
 | false=>y
@[go_sem]theorem zFr {α:Type} (x y:α) (w:WV x y):pk true x y w=x:=rfl
@[go_sem]theorem zFs {α:Type} (x y:α) (w:WV x y):pk false x y w=y:=rfl
theorem qB {α:Type} (i j:Nat) (x y:α) (w:WV x y):pk (j==i) x y w=if j=i then x else y:=by
 by_cases h:j=i
 ·simp[h,pk]
 ·have:(j==i)=false:=ak h
  rw[this,ac h];rfl
noncomputable def updC {α:Type}:(Nat->α)->Nat->α->Nat->α:=(Classical.choice (⟨⟨@upd α,rfl⟩⟩:Nonempty {g:(Nat->α)->Nat->α->Nat->α// g= @upd α})).1
theorem cm {α:Type}: @updC α= @upd α:=(Classical.choice (⟨⟨@upd α,rfl⟩⟩:Nonempty {g:(Nat->α)->Nat->α->Nat->α// g= @upd α})).2
noncomputable def begC:(Nat->Slot)->Nat->Slot:=(Classical.choice (⟨⟨beg,rfl⟩⟩:Nonempty {g:(Nat->Slot)->Nat->Slot// g=beg})).1
theorem so:begC=beg:=(Classical.choice (⟨⟨beg,rfl⟩⟩:Nonempty {g:(Nat->Slot)->Nat->Slot// g=beg})).2
noncomputable def ovrC:List Nat->(Nat->Slot)->(Nat->Slot)->Nat->Slot:=(Classical.choice (⟨⟨ovr,rfl⟩⟩:Nonempty {g:List Nat->(Nat->Slot)->(Nat->Slot)->Nat->Slot// g=ovr})).1
theorem uG:ovrC=ovr:=(Classical.choice (⟨⟨ovr,rfl⟩⟩:Nonempty {g:List Nat->(Nat->Slot)->(Nat->Slot)->Nat->Slot// g=ovr})).2
def om (k:Nat):List Nat:=(List.range (k.log2+1)).filter fun t=>(k>>> t) % 2==1
theorem H_ (k t:Nat):(om k).contains t=((k>>> t) % 2==1):=by
 by_cases a:t<k.log2+1
 ·cases h:((k>>> t) % 2==1)with
  | true=>simp only[rz,om,ge,dT,a,h,kx,jt]
  | false=>simp only[rz,om,ge,dT,a,h,zG,sW,pU]
 ·have c:k>>> t=0:=by
   rw[Nat.shiftRight_eq_div_pow];exact Nat.div_eq_of_lt (ft Nat.lt_log2_self (ry aa aa))
  rw[c];simp only[rz,om,ge,dT,a,p9,pU];rfl
noncomputable def slotsC:List V->Nat->Nat->Slot:=(Classical.choice (⟨⟨slots,rfl⟩⟩:Nonempty {g:List V->Nat->Nat->Slot// g=slots})).1
theorem xW:slotsC=slots:=(Classical.choice (⟨⟨slots,rfl⟩⟩:Nonempty {g:List V->Nat->Nat->Slot// g=slots})).2
noncomputable def At:(Nat->Option O)->List (Nat×O)->Nat->Option O:=(Classical.choice (⟨⟨bl,rfl⟩⟩:Nonempty {g:(Nat->Option O)->List (Nat×O)->Nat->Option O// g=bl})).1
theorem iS:At=bl:=(Classical.choice (⟨⟨bl,rfl⟩⟩:Nonempty {g:ae->List (Nat×O)->ae// g=bl})).2
noncomputable def addC:Nat->List ROp->Nat:=(Classical.choice (⟨⟨fun n l=>n+l.length,rfl⟩⟩:Nonempty {g:Nat->List ROp->Nat// g=fun n l=>n+l.length})).1
theorem nD:addC=fun n l=>n+l.length:=(Classical.choice (⟨⟨fun n l=>n+l.length,rfl⟩⟩:Nonempty {g:Nat->List ROp->Nat// g=fun n l=>n+l.length})).2
theorem qG (n:Nat) (l:List ROp):n<=addC n l:=by rw[nD];exact Nat.le_add_right n _
@[go_sem]theorem zAR (n:Nat) (l:List ROp):addC n l=n+l.length:=by rw[nD]
@[go_sem ↓]theorem zCq (f:Nat->Bool) (i j:Nat):updC f i true j=pk (j==i) true (f j) ⟨0⟩:=by rw[cm,qB];rfl
@[go_sem]theorem aq {α:Type} (f:Nat->α) (i j:Nat) (v:α):updC f i v j=if j=i then v else f j:=by rw[cm];rfl
@[go_sem ↓]theorem bE (h:ae):At h []=h:=by rw[iS];rfl
@[go_sem ↓]theorem cB (h:ae) (k:Nat) (o:O) (r:List (Nat×O)):At h ((k,o)::r)=At (updC h k (some o)) r:=by rw[iS,cm];rfl
def ob {α β:Type} (o:Option α) (K:α->Option β) (_:WK K):Option β:=o.bind K
@[go_sem]theorem zBv {α β:Type} (a:α) (K:α->Option β) (w:WK K):ob (some a) K w=K a:=rfl
def br {α:Type} (a:Bool) (o:Option α) (K:α->Prop) (_:WK K):Prop:=match o with
 | none=>False
 | some v=>a=false/\K v
@[go_sem]theorem zym {α:Type} (v:α) (K:α->Prop) (w:WK K):br false (some v) K w=K v:=by simp[br]
def eB {α β:Type} (c:Bool) (o:Option (α×β)) (K:α->β->Prop) (_:WK K):Prop:=match o with
 | none=>False
 | some (a,b)=>c=false/\K a b
@[go_sem]theorem jE {α β:Type} (a:α) (b:β) (K:α->β->Prop) (w:WK K):eB false (some (a,b)) K w=K a b:=by simp[eB]
theorem vj {α β:Type} (a:Bool) (o:Option (α×β)) (K:α->β->Prop) (w:WK K) (w':WK fun y:α×β=>K y.1 y.2):eB a o K w=br a o (fun y=>K y.1 y.2) w':=by
 cases o<;>rfl
def r0 {α β γ δ:Type} (o:Option (α×β×γ×δ)) (K:α->β->γ->δ->Prop) (_:WK K):Prop:=match o with
 | none=>False
 | some (a,b,c,d)=>K a b c d
@[go_sem]theorem zyp {α β γ δ:Type} (a:α) (b:β) (c:γ) (d:δ) (K:α->β->γ->δ->Prop) (w:WK K):r0 (some (a,b,c,d)) K w=K a b c d:=rfl
def valOf:V->Option V
 | .undef=>none
 | .lb=>none
 | v=>some v
@[go_sem]theorem zBd (x:T):valOf (.t x)=some (.t x):=rfl
@[go_sem]theorem zzw (k i l:Nat):valOf (.ms k i l)=some (.ms k i l):=rfl
@[go_sem]theorem zzx (k i l:Nat):valOf (.mp k i l)=some (.mp k i l):=rfl
@[go_sem]theorem zzy (k:Nat):valOf (.mm k)=some (.mm k):=rfl
@[go_sem]theorem zzv (k:Nat):valOf (.yl k)=some (.yl k):=rfl
@[go_sem]theorem zzz (f:Nat) (a b:List V):valOf (.fn f a b)=some (.fn f a b):=rfl
@[go_sem]theorem zxK (c:List V):valOf (.agg c)=some (.agg c):=rfl
@[go_sem]theorem zxJ (c:List V):valOf (.tup c)=some (.tup c):=rfl
abbrev tyC:=(Nat->Option F)->(Nat->List T)->C->M->(Ex->M->Prop)->Prop
abbrev tyO:=(Nat->Option F)->(Nat->List T)->Bool->Nat->List ROp->M->(M->Prop)->Prop
noncomputable def wpCo:tyC:=(Classical.choice (⟨⟨@wpC,rfl⟩⟩:Nonempty {g:tyC// g= @wpC})).1
theorem fl:wpCo= @wpC:=(Classical.choice (⟨⟨@wpC,rfl⟩⟩:Nonempty {g:tyC// g= @wpC})).2
noncomputable def WLo:tyC:=(Classical.choice (⟨⟨@WL,rfl⟩⟩:Nonempty {g:tyC// g= @WL})).1
theorem jI:WLo= @WL:=(Classical.choice (⟨⟨@WL,rfl⟩⟩:Nonempty {g:tyC// g= @WL})).2
noncomputable def wpOo:tyO:=(Classical.choice (⟨⟨@wpO,rfl⟩⟩:Nonempty {g:tyO// g= @wpO})).1
theorem cQ:wpOo= @wpO:=(Classical.choice (⟨⟨@wpO,rfl⟩⟩:Nonempty {g:tyO// g= @wpO})).2
section
variable (Γ:Nat->Option F) (G:Nat->List T)
noncomputable def wC (c:C) (Q:Ex->M->Prop) (m:M) (_:W3 c Q m):Prop:=wpCo Γ G c m Q
noncomputable def wL (c:C) (Q:Ex->M->Prop) (m:M) (_:W3 c Q m):Prop:=WLo Γ G c m Q
noncomputable def wO (d:Bool) (p:Nat) (l:List ROp) (Q:M->Prop) (m:M) (_:W4 p l Q m):Prop:=wpOo Γ G d p l m Q
def aD (sl:Nat->Slot):Opd->Option V
 | .s t=>valOf (sl t).v
 | .c v=>some v
 | .g k=>some (.t (.ip (G k)))
end
section
variable {Γ:Nat->Option F} {G:Nat->List T}
@[go_sem ↓]theorem zCJ (sl:Nat->Slot) (t:Nat):aD G sl (.s t)=valOf (sl t).v:=rfl
@[go_sem ↓]theorem zCL (sl:Nat->Slot) (v:V):aD G sl (.c v)=some v:=rfl
@[go_sem ↓]theorem zCK (sl:Nat->Slot) (k:Nat):aD G sl (.g k)=some (.t (.ip (G k))):=rfl
theorem bP (sl:Nat->Slot) (u:Nat->Bool) (h:ae) (n b:Nat) (x:Opd):evl G (M.st ⟨sl,u,h,n,b⟩) x=aD G sl x:=by
 cases x with
 | s t=>simp only[evl,M.st,aD];cases(sl t).v<;>rfl
 | c v=>rfl
 | g k=>rfl
@[go_sem ↓]theorem zAS (f:Nat->Slot) (i j:Nat) (v:V) (c:Option (List V)) (a:Option (Nat×Nat)):(updC f i ⟨v,c,a⟩ j).v=pk (j==i) v (f j).v ⟨0⟩:=by rw[cm,qB];unfold upd;split<;>rfl
@[go_sem ↓]theorem zxB (f:Nat->Slot) (i j:Nat) (v:V) (a:Option (List V)) (c:Option (Nat×Nat)):(updC f i ⟨v,a,c⟩ j).box=pk (j==i) a (f j).box ⟨0⟩:=by rw[cm,qB];unfold upd;split<;>rfl
@[go_sem ↓]theorem zze (f:Nat->Slot) (i j:Nat) (v:V) (c:Option (List V)) (a:Option (Nat×Nat)):(updC f i ⟨v,c,a⟩ j).ad=pk (j==i) a (f j).ad ⟨0⟩:=by rw[cm,qB];unfold upd;split<;>rfl
@[go_sem ↓]theorem zBc (f:Nat->Slot) (t:Nat):(begC f t).v=(f t).v:=by rw[so];rfl
@[go_sem ↓]theorem zxH (f:Nat->Slot) (t:Nat):(begC f t).box=(f t).box:=by rw[so];rfl
@[go_sem ↓]theorem zzr (f:Nat->Slot) (t:Nat):(begC f t).ad=none:=by rw[so];rfl
noncomputable def ovrM (k:Nat) (f g:Nat->Slot):Nat->Slot:=ovrC (om k) f g
theorem SI {α:Type} (b:Bool) (x y:α) (w:WV x y):pk b x y w=if b=true then x else y:=by cases b<;>rfl
@[go_sem ↓]theorem zA0 (k:Nat) (f g:Nat->Slot) (t:Nat):(ovrM k f g t).v=pk ((k>>> t) % 2==1) (f t).v (g t).v ⟨0⟩:=by
 rw[ovrM,uG,Vi,H_,SI]
@[go_sem ↓]theorem zxE (k:Nat) (f g:Nat->Slot) (t:Nat):(ovrM k f g t).box=pk ((k>>> t) % 2==1) (f t).box (g t).box ⟨0⟩:=by
 rw[ovrM,uG,ka2,H_,SI]
@[go_sem ↓]theorem zxC (v:V) (l:List V) (i t:Nat):(slotsC (v::l) i t).v=pk (t==i) v (slotsC l (i+1) t).v ⟨0⟩:=by rw[xW,qB];simp only[slots,upd];split<;>rfl
inductive Kf where
 | seq (y:C)
 | blk (id:Nat)
variable (Γ G) in
def jc:List Kf->(Ex->M->Prop)->Ex->M->Prop
 | [],Q=>Q
 | .seq y::ks,Q=>hU (fun a=>wpC Γ G y a (jc ks Q)) (jc ks Q)
 | .blk id::ks,Q=>ol id (jc ks Q)
abbrev tyQ:=(Nat->Option F)->(Nat->List T)->List Kf->(Ex->M->Prop)->Ex->M->Prop
noncomputable def qOf:tyQ:=(Classical.choice (⟨⟨@jc,rfl⟩⟩:Nonempty {g:tyQ// g= @jc})).1
theorem eN:qOf= @jc:=(Classical.choice (⟨⟨@jc,rfl⟩⟩:Nonempty {g:tyQ// g= @jc})).2
@[go_sem ↓]theorem zC4 (Q:Ex->M->Prop) (e:Ex) (m:M):qOf Γ G [] Q e m=Q e m:=by(try unfold wC);(try rw[fl]);rw[eN];rfl
@[go_sem ↓]theorem zCA (y:C) (a:List Kf) (Q:Ex->M->Prop) (m:M):qOf Γ G (.seq y::a) Q .normal m=wC Γ G y (qOf Γ G a Q) m ⟨0⟩:=by(try unfold wC);(try rw[fl]);rw[eN];rfl
@[go_sem ↓]theorem zCz (y:C) (a:List Kf) (Q:Ex->M->Prop) (m:M):qOf Γ G (.seq y::a) Q .ret m=qOf Γ G a Q .ret m:=by(try unfold wC);(try rw[fl]);rw[eN];rfl
@[go_sem ↓]theorem zCy (y:C) (a:List Kf) (Q:Ex->M->Prop) (m:M) (id:Nat):qOf Γ G (.seq y::a) Q (.exit id) m=qOf Γ G a Q (.exit id) m:=by(try unfold wC);(try rw[fl]);rw[eN];rfl
@[go_sem ↓]theorem zCD (i:Nat) (a:List Kf) (Q:Ex->M->Prop) (m:M):qOf Γ G (.blk i::a) Q .normal m=qOf Γ G a Q .normal m:=by rw[eN];simp[jc,ol]
@[go_sem ↓]theorem zCC (i:Nat) (a:List Kf) (Q:Ex->M->Prop) (m:M):qOf Γ G (.blk i::a) Q .ret m=qOf Γ G a Q .ret m:=by rw[eN];simp[jc,ol]
structure W6 (P R:Prop)where
 n:Nat
def ifX (b:Bool) (P R:Prop) (_:W6 P R):Prop:=match b with
 | true=>P
 | false=>R
@[go_sem]theorem zC7 (P R:Prop) (w:W6 P R):ifX true P R w=P:=rfl
@[go_sem]theorem zC8 (P R:Prop) (w:W6 P R):ifX false P R w=R:=rfl
@[go_sem ↓]theorem zCB (i id:Nat) (a:List Kf) (Q:Ex->M->Prop) (m:M):qOf Γ G (.blk i::a) Q (.exit id) m=ifX (id==i) (qOf Γ G a Q .normal m) (qOf Γ G a Q (.exit id) m) ⟨0⟩:=by
 rw[eN]
 by_cases h:id=i
 ·simp[jc,ol,h,ifX]
 ·have:(id==i)=false:=ak h
  simp[jc,ol,h,this,ifX]
@[go_sem ↓]theorem zB7 (Q:Ex->M->Prop) (m:M) (w:W3 .skip Q m):wC Γ G .skip Q m w=Q .normal m:=by(try unfold wC wO);(try unfold wC);(try unfold wL);(try rw[fl]);(try rw[cQ]);(try rw[jI]);(try rw[eN]);rfl
@[go_sem ↓]theorem zCS (Q:Ex->M->Prop) (m:M) (w:W3 .ret Q m):wC Γ G .ret Q m w=Q .ret m:=by(try unfold wC wO);(try unfold wC);(try unfold wL);(try rw[fl]);(try rw[cQ]);(try rw[jI]);(try rw[eN]);rfl
@[go_sem ↓]theorem zCg (id:Nat) (Q:Ex->M->Prop) (m:M) (w:W3 (.exit id) Q m):wC Γ G (.exit id) Q m w=Q (.exit id) m:=by(try unfold wC wO);(try unfold wC);(try unfold wL);(try rw[fl]);(try rw[cQ]);(try rw[jI]);(try rw[eN]);rfl
@[go_sem ↓]theorem zzh (d:Bool) (l:List ROp) (Q:Ex->M->Prop) (sl:Nat->Slot) (u:Nat->Bool) (h:ae) (n b:Nat) (w:W3 (.region d l) Q ⟨sl,u,h,n,b⟩):
 wC Γ G (.region d l) Q ⟨sl,u,h,n,b⟩ w=wO Γ G d 0 l (Q .normal) ⟨begC sl,fun _=>false,h,addC n l,n⟩ ⟨0⟩:=by(try unfold wC wO);(try unfold wC);(try unfold wL);(try rw[fl]);(try rw[cQ]);(try rw[jI]);(try rw[eN]);rw[so,nD];rfl
@[go_sem ↓]theorem zxD (ck:List (Nat×Nat)) (l:List ROp) (Q:Ex->M->Prop) (sl:Nat->Slot) (u:Nat->Bool) (h:ae) (n b:Nat) (w:W3 (.regionD ck l) Q ⟨sl,u,h,n,b⟩):
 wC Γ G (.regionD ck l) Q ⟨sl,u,h,n,b⟩ w=wO Γ G true 0 l (fun a=>mK G a.st l ck=true/\Q .normal a) ⟨begC sl,fun _=>false,h,addC n l,n⟩ ⟨0⟩:=by(try unfold wC wO);(try unfold wC);(try unfold wL);(try rw[fl]);(try rw[cQ]);(try rw[jI]);(try rw[eN]);rw[so,nD];rfl
@[go_sem ↓]theorem zCR (x y:C) (a:List Kf) (Q:Ex->M->Prop) (m:M) (w:W3 (.seq x y) (qOf Γ G a Q) m):wC Γ G (.seq x y) (qOf Γ G a Q) m w=wC Γ G x (qOf Γ G (.seq y::a) Q) m ⟨0⟩:=by(try unfold wC wO);(try unfold wC);(try unfold wL);(try rw[fl]);(try rw[cQ]);(try rw[jI]);(try rw[eN]);rfl
@[go_sem ↓]theorem zCj (t:Nat) (x y:C) (Q:Ex->M->Prop) (sl:Nat->Slot) (u:Nat->Bool) (h:ae) (n b:Nat) (w:W3 (.cond (.s t) x y) Q ⟨sl,u,h,n,b⟩):
 wC Γ G (.cond (.s t) x y) Q ⟨sl,u,h,n,b⟩ w=qx (sl t).v (wC Γ G x Q ⟨sl,u,h,n,b⟩ ⟨0⟩) (wC Γ G y Q ⟨sl,u,h,n,b⟩ ⟨0⟩) ⟨0⟩:=by(try unfold wC wO);(try unfold wC);(try unfold wL);(try rw[fl]);(try rw[cQ]);(try rw[jI]);(try rw[eN]);exact kc4 sl u h n b t x y Q
@[go_sem ↓]theorem zBb (id:Nat) (x:C) (a:List Kf) (Q:Ex->M->Prop) (m:M) (w:W3 (.block id x) (qOf Γ G a Q) m):wC Γ G (.block id x) (qOf Γ G a Q) m w=wC Γ G x (qOf Γ G (.blk id::a) Q) m ⟨0⟩:=by(try unfold wC wO);(try unfold wC);(try unfold wL);(try rw[fl]);(try rw[cQ]);(try rw[jI]);(try rw[eN]);rfl
@[go_sem ↓]theorem zCa (x:C) (Q:Ex->M->Prop) (m:M) (w:W3 (.loop x) Q m):wC Γ G (.loop x) Q m w=wL Γ G x Q m ⟨0⟩:=by(try unfold wC wO);(try unfold wC);(try unfold wL);(try rw[fl]);(try rw[cQ]);(try rw[jI]);(try rw[eN]);rfl
@[go_sem ↓]theorem zAV (K:M->Prop) (Q:Ex->M->Prop) (m:M):hU K Q .normal m=K m:=rfl
@[go_sem ↓]theorem zAU (K:M->Prop) (Q:Ex->M->Prop) (m:M):hU K Q .ret m=Q .ret m:=rfl
@[go_sem ↓]theorem zAT (K:M->Prop) (Q:Ex->M->Prop) (m:M) (id:Nat):hU K Q (.exit id) m=Q (.exit id) m:=rfl
theorem ka5 {v:V} {g:Bool} {A B a:Prop} {w:Wit A B} {w':Wit A a} (h:B=a):lO v g A B w=lO v g A a w':=by
 subst h;rfl
@[go_sem ↓]theorem zCT (d:Bool) (p:Nat) (Q:M->Prop) (m:M) (w:W4 p [] Q m):wO Γ G d p [] Q m w=Q m:=by unfold wO;rw[cQ];rfl
@[go_sem ↓]theorem zA3 (d:Bool) (p g:Nat) (want:Bool) (t:Nat) (op:AOp) (l:List ROp) (Q:M->Prop) (sl:Nat->Slot) (u:Nat->Bool) (h:ae) (n b:Nat)
 (w:W4 p (⟨some (g,want),some t,op⟩::l) Q ⟨sl,u,h,n,b⟩):
 wO Γ G d p (⟨some (g,want),some t,op⟩::l) Q ⟨sl,u,h,n,b⟩ w=lO (sl g).v want (wO Γ G d p (⟨none,some t,op⟩::l) Q ⟨sl,u,h,n,b⟩ ⟨0⟩)
  (br (u t) (some V.undef) (fun v=>wO Γ G d (p+1) l Q ⟨updC sl t ⟨v,none,none⟩,u,h,n,b⟩ ⟨0⟩) ⟨0⟩) ⟨0⟩:=by
 (try rw[cm (α:=Slot)])
 (try rw[cm (α:=Bool)])
 (try rw[iS])
 unfold wO;rw[cQ];rw[W7,iK];refine ka5 ?_;simp[M.free,M.apply,eM,br,bl]
def AOp.isCall:AOp->Bool
 | .call _ _ _=>true
 | .fcall _ _=>true
 | _=>false
theorem nz {d:Bool} {p:Nat} {m:M} {a:Option Nat} {op:AOp} {K:M->Prop} (c:op.isCall=false):
 j0 Γ G d p m a op K=match ao G p m.st op with | none=>False | some e=>m.free a e=true/\K (m.apply a e):=by
 cases op<;>first | rfl | simp[AOp.isCall]at c
theorem dD {d:Bool} {p t:Nat} {op:AOp} {l:List ROp} {Q:M->Prop} {sl:Nat->Slot} {u:Nat->Bool} {h:ae} {n b:Nat} {w:W4 p (⟨none,some t,op⟩::l) Q ⟨sl,u,h,n,b⟩} {ov:Option V}
 (c:op.isCall=false) (a:ao G p (M.st ⟨sl,u,h,n,b⟩) op=ov.map fun v=>({ val:=v }:Eff)):
 wO Γ G d p (⟨none,some t,op⟩::l) Q ⟨sl,u,h,n,b⟩ w=br (u t) ov (fun v=>wO Γ G d (p+1) l Q ⟨updC sl t ⟨v,none,none⟩,u,h,n,b⟩ ⟨0⟩) ⟨0⟩:=by
 (try rw[cm (α:=Slot)])
 (try rw[cm (α:=Bool)])
 (try rw[iS])
 unfold wO;rw[cQ];rw[iK,nz c,a]
 cases ov with
 | none=>rfl
 | some v=>simp[M.free,M.apply,eM,br,bl]
theorem mY {d:Bool} {p t:Nat} {op:AOp} {l:List ROp} {Q:M->Prop} {sl:Nat->Slot} {u:Nat->Bool} {h:ae} {n b:Nat} {w:W4 p (⟨none,some t,op⟩::l) Q ⟨sl,u,h,n,b⟩} {ov:Option (V×List (Nat×O))}
 (c:op.isCall=false) (a:ao G p (M.st ⟨sl,u,h,n,b⟩) op=ov.map fun v=>({ val:=v.1,hp:=v.2 }:Eff)):
 wO Γ G d p (⟨none,some t,op⟩::l) Q ⟨sl,u,h,n,b⟩ w=eB (u t) ov (fun v hp=>wO Γ G d (p+1) l Q ⟨updC sl t ⟨v,none,none⟩,u,At h hp,n,b⟩ ⟨0⟩) ⟨0⟩:=by
 rw[vj (w':=⟨0⟩)]
 (try rw[cm (α:=Slot)])
 (try rw[cm (α:=Bool)])
 (try rw[iS])
 unfold wO;rw[cQ];rw[iK,nz c,a]
 cases ov with
 | none=>rfl
 | some v=>simp[M.free,M.apply,eM,br]
theorem yr {d:Bool} {p:Nat} {op:AOp} {l:List ROp} {Q:M->Prop} {sl:Nat->Slot} {u:Nat->Bool} {h:ae} {n b:Nat} {w:W4 p (⟨none,none,op⟩::l) Q ⟨sl,u,h,n,b⟩} {ov:Option (V×List (Nat×O))}
 (c:op.isCall=false) (a:ao G p (M.st ⟨sl,u,h,n,b⟩) op=ov.map fun v=>({ val:=v.1,hp:=v.2 }:Eff)):
 wO Γ G d p (⟨none,none,op⟩::l) Q ⟨sl,u,h,n,b⟩ w=eB false ov (fun _ hp=>wO Γ G d (p+1) l Q ⟨sl,u,At h hp,n,b⟩ ⟨0⟩) ⟨0⟩:=by
 rw[vj (w':=⟨0⟩)]
 (try rw[cm (α:=Slot)])
 (try rw[cm (α:=Bool)])
 (try rw[iS])
 unfold wO;rw[cQ];rw[iK,nz c,a]
 cases ov with
 | none=>rfl
 | some v=>simp[M.free,M.apply,eM,br]
def wS (op:BinOp):V->V->Option V
 | .t a,.t b=>(mQ op a b).map V.t
 | _,_=>none
def mxS (mn:Bool):V->V->Option V
 | .t a,.t b=>(mxT mn a b).map V.t
 | _,_=>none
def unS (op:UnOp):V->Option V
 | .t a=>(unT op a).map V.t
 | _=>none
def mc:V->Option Bool
 | .t (.bool b)=>some b
 | _=>none
def eC:V->Option Int
 | .t (.int _ n)=>some n
 | _=>none
def wR (c:Bool) (f:List Nat):V->V->Option V
 | .agg a,.agg b=>(dE f a b).map fun r=> .t (.bool (r != c))
 | _,_=>none
def uW (h:ae) (ag:Bool) (n:Nat):V->Option V
 | .mp k i a=>match h k with
   | some (.rows _ rs _)=>(rs[i]?).bind fun row=>(rd row a n).bind (dX ag)
   | _=>none
 | .t (.ip cs)=>(rd cs 0 n).bind fun r=>dX ag (r.map V.t)
 | _=>none
def wX (h:ae):V->Option V
 | .mp k i g=>match h k with
   | some (.rows _ _ _)=>some (.mp k i g)
   | _=>none
 | .t (.ip cs)=>some (.t (.ip cs))
 | .fn f a b=>some (.fn f a b)
 | .t (.fn f a b)=>some (.t (.fn f a b))
 | .t (.fa f c)=>some (.t (.fa f c))
 | _=>none
def yA (h:ae) (a:Nat):V->Option V
 | .mp k i o=>match h k with
   | some (.rows _ _ _)=>some (.mp k i (o+a))
   | _=>none
 | .t (.ip cs)=>some (.t (.ip (cs.drop a)))
 | _=>none
def yz (ag:Bool) (a n:Nat):V->Option V
 | .agg cs=>(rd cs a n).bind (dX ag)
 | _=>none
def uI (h:ae) (a:Nat) (n:Int):V->Option V
 | .t (.sl es)=>if 0<=n then(es[n.toNat]?).bind fun row=>if row.length=a then some (.t (.ip row))else none else none
 | .ms k j len=>match h k with
   | some (.rows sz' _ _)=>if 0<=n/\n<len/\sz'=a then some (.mp k (j+n.toNat) 0)else none
   | _=>none
 | _=>none
def y6 (h:ae) (len a:Nat) (n:Int) (v:V):Option V:=
 if 0<=n/\n<len then match v with
  | .mp k j o=>match h k with
    | some (.rows _ _ _)=>some (.mp k j (o+n.toNat*a))
    | _=>none
  | .t (.ip cs)=>some (.t (.ip (cs.drop (n.toNat*a))))
  | _=>none
 else none
def zm (ag:Bool) (len a:Nat) (n:Int):V->Option V
 | .agg cs=>if 0<=n/\n<len then(rd cs (n.toNat*a) a).bind (dX ag)else none
 | _=>none
def yM (n:Int):V->Option V
 | .t (.str b)=>if 0<=n then(b[n.toNat]?).map fun c=> .t (.int .u8 c.toNat)else none
 | _=>none
def yJ (i:Nat):V->Option V
 | .tup cs=>cs[i]?
 | _=>none
def lenS (h:ae):V->Option Nat
 | .t .nils=>some 0
 | .t (.sl es)=>some es.length
 | .t (.slc es)=>some es.length
 | .ms k _ len=>match h k with
   | some (.rows _ _ _)=>some len
   | _=>none
 | _=>none
def TB:V->Option V
 | .t (.str b)=>some (.t (.int .i64 b.size))
 | _=>none
def rowsS (h:ae):V->Option (List (List V))
 | .t .nils=>some []
 | .t (.sl es)=>some (es.map (·.map V.t))
 | .t (.slc es)=>some (es.map (·.map V.t))
 | .ms k i len=>match h k with
   | some (.rows _ rs _)=>rd rs i len
   | _=>none
 | _=>none
attribute [go_sem] wS mxS unS mc eC wR uW wX yA yz uI y6 zm yM yJ TB
@[go_sem]theorem zyE (h:ae):lenS h (.t .nils)=some 0:=rfl
@[go_sem]theorem zBC (h:ae) (es:List (List T)):lenS h (.t (.sl es))=some es.length:=rfl
@[go_sem]theorem zBD (h:ae) (k i len:Nat):lenS h (.ms k i len)=match h k with
 | some (.rows _ _ _)=>some len
 | _=>none:=rfl
@[go_sem]theorem zxs (h:ae):rowsS h (.t .nils)=some []:=rfl
@[go_sem]theorem zzC (h:ae) (es:List (List T)):rowsS h (.t (.sl es))=some (es.map (·.map V.t)):=rfl
@[go_sem]theorem zzD (h:ae) (k i len:Nat):rowsS h (.ms k i len)=match h k with
 | some (.rows _ rs _)=>rd rs i len
 | _=>none:=rfl
variable (G) in
def dZ (sl:Nat->Slot):List Opd->Option (List V)
 | []=>some []
 | x::xs=>ob (aD G sl x) (fun v=>ob (dZ sl xs) (fun vs=>some (v::vs)) ⟨0⟩) ⟨0⟩
@[go_sem ↓]theorem zyS (sl:Nat->Slot):dZ G sl []=some []:=rfl
@[go_sem ↓]theorem XX (sl:Nat->Slot) (x:Opd) (xs:List Opd):dZ G sl (x::xs)=ob (aD G sl x) (fun v=>ob (dZ G sl xs) (fun vs=>some (v::vs)) ⟨0⟩) ⟨0⟩:=rfl
theorem oa (sl:Nat->Slot) (u:Nat->Bool) (h:ae) (n b:Nat): ∀xs:List Opd,cY G (M.st ⟨sl,u,h,n,b⟩) xs=dZ G sl xs
 | []=>rfl
 | x::xs=>by
   rw[cY,XX,bP,oa sl u h n b xs];rfl
theorem lM (sl:Nat->Slot) (u:Nat->Bool) (h:ae) (n b:Nat) (x:Opd):eY G (M.st ⟨sl,u,h,n,b⟩) x=(aD G sl x).bind eC:=by
 rw[eY,bP]
 cases aD G sl x with
 | none=>rfl
 | some v=>cases v with
   | t x=>cases x<;>rfl
   | _=>rfl
theorem Ot (sl:Nat->Slot) (u:Nat->Bool) (h:ae) (n b:Nat) (x:Opd):ie G (M.st ⟨sl,u,h,n,b⟩) x=(aD G sl x).bind mc:=by
 rw[ie,bP]
 cases aD G sl x with
 | none=>rfl
 | some v=>cases v with
   | t x=>cases x<;>rfl
   | _=>rfl
variable (d:Bool) (p:Nat) (l:List ROp) (Q:M->Prop) (sl:Nat->Slot) (u:Nat->Bool) (h:Nat->Option O) (n b:Nat)
@[go_sem ↓]theorem zFm (t:Nat) (x:Opd) (w:W4 _ _ _ _):
 wO Γ G d p (⟨none,some t,.mv x⟩::l) Q ⟨sl,u,h,n,b⟩ w=br (u t) (aD G sl x) (fun v=>wO Γ G d (p+1) l Q ⟨updC sl t ⟨v,none,none⟩,u,h,n,b⟩ ⟨0⟩) ⟨0⟩:=by
 refine dD rfl ?_;simp only[ao,bP];cases aD G sl x<;>rfl
@[go_sem ↓]theorem zzj (t:Nat) (x:Opd) (w:W4 _ _ _ _):
 wO Γ G d p (⟨none,some t,.nilchk x⟩::l) Q ⟨sl,u,h,n,b⟩ w=br (u t) (ob (aD G sl x) (wX h) ⟨0⟩) (fun v=>wO Γ G d (p+1) l Q ⟨updC sl t ⟨v,none,none⟩,u,h,n,b⟩ ⟨0⟩) ⟨0⟩:=by
 refine dD rfl ?_;simp only[ao,bP,ob]
 cases aD G sl x with
 | none=>rfl
 | some v=>cases v with
   | mp k i a=>simp only[zC,zD,wX,M.st];cases h k with
     | none=>rfl
     | some o=>cases o<;>rfl
   | t x=>cases x<;>rfl
   | _=>rfl
@[go_sem ↓]theorem zCZ (t:Nat) (op:BinOp) (x y:Opd) (w:W4 _ _ _ _):
 wO Γ G d p (⟨none,some t,.bin op x y⟩::l) Q ⟨sl,u,h,n,b⟩ w=br (u t) (ob (aD G sl x) (fun a=>ob (aD G sl y) (wS op a) ⟨0⟩) ⟨0⟩) (fun v=>wO Γ G d (p+1) l Q ⟨updC sl t ⟨v,none,none⟩,u,h,n,b⟩ ⟨0⟩) ⟨0⟩:=by
 refine dD rfl ?_;simp only[ao,bP,ob]
 cases aD G sl x with
 | none=>rfl
 | some v=>cases aD G sl y with
   | none=>rfl
   | some f=>cases v<;>cases f<;>simp only[zC,zD,wS,np]
             rename_i a c;cases mQ op a c<;>rfl
@[go_sem ↓]theorem zFl (t:Nat) (mn:Bool) (x y:Opd) (w:W4 _ _ _ _):
 wO Γ G d p (⟨none,some t,.mx mn x y⟩::l) Q ⟨sl,u,h,n,b⟩ w=br (u t) (ob (aD G sl x) (fun a=>ob (aD G sl y) (mxS mn a) ⟨0⟩) ⟨0⟩) (fun v=>wO Γ G d (p+1) l Q ⟨updC sl t ⟨v,none,none⟩,u,h,n,b⟩ ⟨0⟩) ⟨0⟩:=by
 refine dD rfl ?_;simp only[ao,bP,ob]
 cases aD G sl x with
 | none=>rfl
 | some v=>cases aD G sl y with
   | none=>rfl
   | some f=>cases v<;>cases f<;>simp only[zC,zD,mxS,np]
             rename_i a c;cases mxT mn a c<;>rfl
@[go_sem ↓]theorem zFk (t:Nat) (op:UnOp) (x:Opd) (w:W4 _ _ _ _):
 wO Γ G d p (⟨none,some t,.un op x⟩::l) Q ⟨sl,u,h,n,b⟩ w=br (u t) (ob (aD G sl x) (unS op) ⟨0⟩) (fun v=>wO Γ G d (p+1) l Q ⟨updC sl t ⟨v,none,none⟩,u,h,n,b⟩ ⟨0⟩) ⟨0⟩:=by
 refine dD rfl ?_;simp only[ao,bP,ob]
 cases aD G sl x with
 | none=>rfl
 | some v=>cases v<;>simp only[zC,zD,unS,np]
           rename_i a;cases unT op a<;>rfl
@[go_sem ↓]theorem zCX (t:Nat) (c:Bool) (x y:Opd) (w:W4 _ _ _ _):
 wO Γ G d p (⟨none,some t,.eqb c x y⟩::l) Q ⟨sl,u,h,n,b⟩ w=br (u t) (ob (aD G sl x) (fun a=>ob (mc a) (fun a=>ob (aD G sl y) (fun b=>ob (mc b) (fun b=>some (.t (.bool ((a==b) != c)))) ⟨0⟩) ⟨0⟩) ⟨0⟩) ⟨0⟩) (fun v=>wO Γ G d (p+1) l Q ⟨updC sl t ⟨v,none,none⟩,u,h,n,b⟩ ⟨0⟩) ⟨0⟩:=by
 refine dD rfl ?_;simp only[ao,Ot,ob]
 cases aD G sl x with
 | none=>rfl
 | some v=>simp only[zC,zD];cases mc v with
   | none=>rfl
   | some a=>cases aD G sl y with
     | none=>rfl
     | some f=>simp only[zC,zD];cases mc f<;>rfl
@[go_sem ↓]theorem zCY (t:Nat) (f:Bool) (g:List Nat) (x y:Opd) (w:W4 _ _ _ _):
 wO Γ G d p (⟨none,some t,.eqa f g x y⟩::l) Q ⟨sl,u,h,n,b⟩ w=br (u t) (ob (aD G sl x) (fun a=>ob (aD G sl y) (wR f g a) ⟨0⟩) ⟨0⟩) (fun v=>wO Γ G d (p+1) l Q ⟨updC sl t ⟨v,none,none⟩,u,h,n,b⟩ ⟨0⟩) ⟨0⟩:=by
 refine dD rfl ?_;simp only[ao,bP,ob]
 cases aD G sl x with
 | none=>rfl
 | some v=>cases aD G sl y with
   | none=>rfl
   | some i=>cases v<;>cases i<;>simp only[zC,zD,wR,np]
             rename_i a c;cases dE g a c<;>rfl
@[go_sem ↓]theorem zCi (t:Nat) (k:IntKind) (x:Opd) (w:W4 _ _ _ _):
 wO Γ G d p (⟨none,some t,.conv k x⟩::l) Q ⟨sl,u,h,n,b⟩ w=br (u t) (ob (aD G sl x) (fun v=>ob (eC v) (fun n=>some (.t (.int k (k.wrap n)))) ⟨0⟩) ⟨0⟩) (fun v=>wO Γ G d (p+1) l Q ⟨updC sl t ⟨v,none,none⟩,u,h,n,b⟩ ⟨0⟩) ⟨0⟩:=by
 refine dD rfl ?_;simp only[ao,lM,ob]
 cases aD G sl x with
 | none=>rfl
 | some v=>simp only[zC,zD];cases eC v<;>rfl
@[go_sem ↓]theorem zCb (t:Nat) (ag:Bool) (k:Nat) (x:Opd) (w:W4 _ _ _ _):
 wO Γ G d p (⟨none,some t,.load ag k x⟩::l) Q ⟨sl,u,h,n,b⟩ w=br (u t) (ob (aD G sl x) (uW h ag k) ⟨0⟩) (fun v=>wO Γ G d (p+1) l Q ⟨updC sl t ⟨v,none,none⟩,u,h,n,b⟩ ⟨0⟩) ⟨0⟩:=by
 refine dD rfl ?_;simp only[ao,bP,ob]
 cases aD G sl x with
 | none=>rfl
 | some v=>cases v with
   | mp j i a=>simp only[zC,zD,uW,M.st];cases h j with
     | none=>rfl
     | some o=>cases o with
       | rows s rs z=>
         simp only
         cases rs[i]? with
         | none=>rfl
         | some row=>simp only[zD];cases rd row a k with
           | none=>rfl
           | some r=>simp only[zD];cases dX ag r<;>rfl
       | _=>rfl
   | t x=>cases x with
     | ip cs=>simp only[zC,zD,uW];cases rd cs 0 k with
       | none=>rfl
       | some r=>simp only[zD];cases dX ag (r.map V.t)<;>rfl
     | _=>rfl
   | _=>rfl
@[go_sem ↓]theorem zA8 (t:Nat) (a:Nat) (x:Opd) (w:W4 _ _ _ _):
 wO Γ G d p (⟨none,some t,.faddr a x⟩::l) Q ⟨sl,u,h,n,b⟩ w=br (u t) (ob (aD G sl x) (yA h a) ⟨0⟩) (fun v=>wO Γ G d (p+1) l Q ⟨updC sl t ⟨v,none,none⟩,u,h,n,b⟩ ⟨0⟩) ⟨0⟩:=by
 refine dD rfl ?_;simp only[ao,bP,ob]
 cases aD G sl x with
 | none=>rfl
 | some v=>cases v with
   | mp k i o=>simp only[zC,zD,yA,M.st];cases h k with
     | none=>rfl
     | some o=>cases o<;>rfl
   | t x=>cases x<;>rfl
   | _=>rfl
@[go_sem ↓]theorem zA6 (t:Nat) (ag:Bool) (a k:Nat) (x:Opd) (w:W4 _ _ _ _):
 wO Γ G d p (⟨none,some t,.field ag a k x⟩::l) Q ⟨sl,u,h,n,b⟩ w=br (u t) (ob (aD G sl x) (yz ag a k) ⟨0⟩) (fun v=>wO Γ G d (p+1) l Q ⟨updC sl t ⟨v,none,none⟩,u,h,n,b⟩ ⟨0⟩) ⟨0⟩:=by
 refine dD rfl ?_;simp only[ao,bP,ob]
 cases aD G sl x with
 | none=>rfl
 | some v=>cases v with
   | agg cs=>simp only[zC,zD,yz];cases rd cs a k with
     | none=>rfl
     | some r=>simp only[zD];cases dX ag r<;>rfl
   | _=>rfl
@[go_sem ↓]theorem zzm (t:Nat) (a:Nat) (x i:Opd) (w:W4 _ _ _ _):
 wO Γ G d p (⟨none,some t,.iaddrS a x i⟩::l) Q ⟨sl,u,h,n,b⟩ w=br (u t) (ob (aD G sl i) (fun v=>ob (eC v) (fun k=>ob (aD G sl x) (uI h a k) ⟨0⟩) ⟨0⟩) ⟨0⟩) (fun v=>wO Γ G d (p+1) l Q ⟨updC sl t ⟨v,none,none⟩,u,h,n,b⟩ ⟨0⟩) ⟨0⟩:=by
 refine dD rfl ?_;simp only[ao,bP,lM,ob]
 cases aD G sl i with
 | none=>rfl
 | some v=>simp only[zC,zD];cases eC v with
   | none=>rfl
   | some k=>cases aD G sl x with
     | none=>rfl
     | some v=>cases v with
       | ms q j len=>simp only[zD,uI,M.st];cases h q with
         | none=>rfl
         | some o=>cases o with
           | rows s rs z=>simp only;split<;>rfl
           | _=>rfl
       | t x=>cases x with
         | sl es=>
           simp only[zD,uI];split
           ·cases es[k.toNat]? with
            | none=>rfl
            | some row=>simp only[zD];split<;>rfl
           ·rfl
         | _=>rfl
       | _=>rfl
@[go_sem ↓]theorem zzn (t:Nat) (len a:Nat) (x i:Opd) (w:W4 _ _ _ _):
 wO Γ G d p (⟨none,some t,.iaddrA len a x i⟩::l) Q ⟨sl,u,h,n,b⟩ w=br (u t) (ob (aD G sl i) (fun v=>ob (eC v) (fun k=>ob (aD G sl x) (y6 h len a k) ⟨0⟩) ⟨0⟩) ⟨0⟩) (fun v=>wO Γ G d (p+1) l Q ⟨updC sl t ⟨v,none,none⟩,u,h,n,b⟩ ⟨0⟩) ⟨0⟩:=by
 refine dD rfl ?_;simp only[ao,bP,lM,ob]
 cases aD G sl i with
 | none=>rfl
 | some v=>simp only[zC,zD];cases eC v with
   | none=>rfl
   | some k=>cases aD G sl x with
     | none=>simp
     | some v=>simp only[zD,y6];split
               ·cases v with
                | mp q j o=>simp only[M.st];cases h q with
                  | none=>rfl
                  | some o=>cases o<;>rfl
                | t x=>cases x<;>rfl
                | _=>rfl
               ·rfl
@[go_sem ↓]theorem zCd (t:Nat) (ag:Bool) (len a:Nat) (x i:Opd) (w:W4 _ _ _ _):
 wO Γ G d p (⟨none,some t,.idxA ag len a x i⟩::l) Q ⟨sl,u,h,n,b⟩ w=br (u t) (ob (aD G sl i) (fun v=>ob (eC v) (fun k=>ob (aD G sl x) (zm ag len a k) ⟨0⟩) ⟨0⟩) ⟨0⟩) (fun v=>wO Γ G d (p+1) l Q ⟨updC sl t ⟨v,none,none⟩,u,h,n,b⟩ ⟨0⟩) ⟨0⟩:=by
 refine dD rfl ?_;simp only[ao,bP,lM,ob]
 cases aD G sl i with
 | none=>rfl
 | some v=>simp only[zC,zD];cases eC v with
   | none=>rfl
   | some k=>cases aD G sl x with
     | none=>rfl
     | some v=>cases v with
       | agg cs=>
         simp only[zD,zm];split
         ·cases rd cs (k.toNat*a) a with
          | none=>rfl
          | some r=>simp only[zD];cases dX ag r<;>rfl
         ·rfl
       | _=>rfl
@[go_sem ↓]theorem zCc (t:Nat) (x i:Opd) (w:W4 _ _ _ _):
 wO Γ G d p (⟨none,some t,.idxS x i⟩::l) Q ⟨sl,u,h,n,b⟩ w=br (u t) (ob (aD G sl i) (fun v=>ob (eC v) (fun k=>ob (aD G sl x) (yM k) ⟨0⟩) ⟨0⟩) ⟨0⟩) (fun v=>wO Γ G d (p+1) l Q ⟨updC sl t ⟨v,none,none⟩,u,h,n,b⟩ ⟨0⟩) ⟨0⟩:=by
 refine dD rfl ?_;simp only[ao,bP,lM,ob]
 cases aD G sl i with
 | none=>rfl
 | some v=>simp only[zC,zD];cases eC v with
   | none=>rfl
   | some k=>cases aD G sl x with
     | none=>rfl
     | some v=>cases v with
       | t x=>cases x with
         | str s=>
           simp only[zD,yM];split
           ·cases s[k.toNat]? <;>rfl
           ·rfl
         | _=>rfl
       | _=>rfl
@[go_sem ↓]theorem zCf (t:Nat) (x:Opd) (i:Nat) (w:W4 _ _ _ _):
 wO Γ G d p (⟨none,some t,.extr x i⟩::l) Q ⟨sl,u,h,n,b⟩ w=br (u t) (ob (aD G sl x) (yJ i) ⟨0⟩) (fun v=>wO Γ G d (p+1) l Q ⟨updC sl t ⟨v,none,none⟩,u,h,n,b⟩ ⟨0⟩) ⟨0⟩:=by
 refine dD rfl ?_;simp only[ao,bP,ob]
 cases aD G sl x with
 | none=>rfl
 | some v=>cases v with
   | tup cs=>simp only[zC,zD,yJ];cases cs[i]? <;>rfl
   | _=>rfl
theorem yP (sl:Nat->Slot) (u:Nat->Bool) (h:ae) (n b:Nat) (v:V):lenOf (M.st ⟨sl,u,h,n,b⟩) v=lenS h v:=by
 cases v with
 | t x=>cases x<;>rfl
 | ms k i len=>simp only[lenOf,lenS,M.st];cases h k with
   | none=>rfl
   | some o=>cases o<;>rfl
 | _=>rfl
theorem x8 (sl:Nat->Slot) (u:Nat->Bool) (h:ae) (n b:Nat) (v:V):gS (M.st ⟨sl,u,h,n,b⟩) v=rowsS h v:=by
 cases v with
 | t x=>cases x<;>rfl
 | ms k i len=>simp only[gS,rowsS,M.st];cases h k with
   | none=>rfl
   | some o=>cases o<;>rfl
 | _=>rfl
@[go_sem ↓]theorem zCU (t:Nat) (x:Opd) (w:W4 _ _ _ _):
 wO Γ G d p (⟨none,some t,.len x⟩::l) Q ⟨sl,u,h,n,b⟩ w=br (u t) (ob (aD G sl x) (fun v=>ob (lenS h v) (fun k=>some (.t (.int .i64 k))) ⟨0⟩) ⟨0⟩) (fun v=>wO Γ G d (p+1) l Q ⟨updC sl t ⟨v,none,none⟩,u,h,n,b⟩ ⟨0⟩) ⟨0⟩:=by
 refine dD rfl ?_;simp only[ao,bP,ob,yP]
 cases aD G sl x with
 | none=>rfl
 | some v=>simp only[zC,zD];cases lenS h v<;>rfl
@[go_sem ↓]theorem zCm (t:Nat) (x:Opd) (w:W4 _ _ _ _):
 wO Γ G d p (⟨none,some t,.bstr x⟩::l) Q ⟨sl,u,h,n,b⟩ w=br (u t) (ob (aD G sl x) (fun v=>ob (rowsS h v) (fun c=>ob (bytesOf c) (fun y=>some (.t (.str ⟨y.toArray⟩))) ⟨0⟩) ⟨0⟩) ⟨0⟩) (fun v=>wO Γ G d (p+1) l Q ⟨updC sl t ⟨v,none,none⟩,u,h,n,b⟩ ⟨0⟩) ⟨0⟩:=by
 refine dD rfl ?_;simp only[ao,bP,ob,x8]
 cases aD G sl x with
 | none=>rfl
 | some v=>
   simp only[zC,zD]
   cases rowsS h v with
   | none=>rfl
   | some c=>simp only[zD];cases bytesOf c<;>rfl
@[go_sem ↓]theorem zB6 (t:Nat) (x:Opd) (w:W4 _ _ _ _):
 wO Γ G d p (⟨none,some t,.slen x⟩::l) Q ⟨sl,u,h,n,b⟩ w=br (u t) (ob (aD G sl x) TB ⟨0⟩) (fun v=>wO Γ G d (p+1) l Q ⟨updC sl t ⟨v,none,none⟩,u,h,n,b⟩ ⟨0⟩) ⟨0⟩:=by
 refine dD rfl ?_;simp only[ao,bP,ob]
 cases aD G sl x with
 | none=>rfl
 | some v=>cases v with
   | t x=>cases x<;>rfl
   | _=>rfl
def CX (v:V):Option V:=match v with
 | .t .nils=>some (.t (.int .i64 0))
 | _=>none
@[go_sem]theorem zCN:CX (.t .nils)=some (.t (.int .i64 0)):=rfl
@[go_sem ↓]theorem zCk (t:Nat) (x:Opd) (w:W4 _ _ _ _):
 wO Γ G d p (⟨none,some t,.capN x⟩::l) Q ⟨sl,u,h,n,b⟩ w=br (u t) (ob (aD G sl x) CX ⟨0⟩) (fun v=>wO Γ G d (p+1) l Q ⟨updC sl t ⟨v,none,none⟩,u,h,n,b⟩ ⟨0⟩) ⟨0⟩:=by
 refine dD rfl ?_;simp only[ao,bP,ob]
 cases aD G sl x with
 | none=>rfl
 | some v=>cases v with
   | t x=>cases x<;>rfl
   | _=>rfl
def zt (o:Option V) (A B:Prop) (w:Wit A B):Prop:=match o with
 | some v=>qx v A B w
 | none=>False
@[go_sem]theorem zBS (b:Bool) (A B:Prop) (w:Wit A B):zt (some (.t (.bool b))) A B w=eR b A B w:=rfl
@[go_sem ↓]theorem zB8 (t:Nat) (c x y:Opd) (w:W4 _ _ _ _):
 wO Γ G d p (⟨none,some t,.pick c x y⟩::l) Q ⟨sl,u,h,n,b⟩ w=zt (aD G sl c)
  (br (u t) (aD G sl x) (fun v=>wO Γ G d (p+1) l Q ⟨updC sl t ⟨v,none,none⟩,u,h,n,b⟩ ⟨0⟩) ⟨0⟩)
  (br (u t) (aD G sl y) (fun v=>wO Γ G d (p+1) l Q ⟨updC sl t ⟨v,none,none⟩,u,h,n,b⟩ ⟨0⟩) ⟨0⟩) ⟨0⟩:=by
 rw[dD (ov:=((aD G sl c).bind mc).bind fun t=>aD G sl (if t then x else y)) rfl (by
  simp only[ao,bP,Ot]
  cases(aD G sl c).bind mc with
  | none=>rfl
  | some v=>simp only[zC,zD];cases aD G sl (if v=true then x else y)<;>rfl)]
 cases aD G sl c with
 | none=>rfl
 | some v=>cases v with
   | t z=>cases z with
     | bool z=>cases z<;>simp[zt,qx,eR,mc]
     | _=>rfl
   | _=>rfl
@[go_sem ↓]theorem zzt (t:Nat) (cs:List V) (w:W4 _ _ _ _):
 wO Γ G d p (⟨none,some t,.allocL cs⟩::l) Q ⟨sl,u,h,n,b⟩ w=br (u t) (some cs) (fun cs=>wO Γ G d (p+1) l Q ⟨updC sl t ⟨.lb,some cs,none⟩,u,h,n,b⟩ ⟨0⟩) ⟨0⟩:=by
 (try rw[cm (α:=Slot)])
 (try rw[cm (α:=Bool)])
 (try rw[iS])
 unfold wO;rw[cQ];rw[iK,nz rfl];simp[ao,M.free,M.apply,eM,br,bl]
@[go_sem ↓]theorem zCn (t k:Nat) (x:Opd) (w:W4 _ _ _ _):
 wO Γ G d p (⟨none,some t,.boxL k x⟩::l) Q ⟨sl,u,h,n,b⟩ w=br (u t) (ob (aD G sl x) (fun v=>ob v.cells (fun cs=>if cs.length=k then some cs else none) ⟨0⟩) ⟨0⟩)
  (fun cs=>wO Γ G d (p+1) l Q ⟨updC sl t ⟨.lb,some cs,none⟩,u,h,n,b⟩ ⟨0⟩) ⟨0⟩:=by
 (try rw[cm (α:=Slot)])
 (try rw[cm (α:=Bool)])
 (try rw[iS])
 unfold wO;rw[cQ];rw[iK,nz rfl];simp only[ao,bP,ob]
 cases aD G sl x with
 | none=>rfl
 | some v=>
   simp only[zC,zD]
   cases v.cells with
   | none=>rfl
   | some cs=>
     simp only[zD]
     by_cases a:cs.length=k
     ·simp[M.free,M.apply,eM,br,bl,a]
     ·simp[br,a]
def m9 {β:Type} (a:Option (Nat×Nat)) (v:V) (t:Nat) (K:Nat->Nat->Option β) (_:WK K):Option β:=match a with
 | some r=>K r.1 r.2
 | none=>match v with
   | .lb=>K t 0
   | _=>none
@[go_sem]theorem zyh {β:Type} (a o:Nat) (v:V) (t:Nat) (K:Nat->Nat->Option β) (w:WK K):m9 (some (a,o)) v t K w=K a o:=rfl
@[go_sem]theorem zBq {β:Type} (t:Nat) (K:Nat->Nat->Option β) (w:WK K):m9 none .lb t K w=K t 0:=rfl
theorem vh (sl:Nat->Slot) (u:Nat->Bool) (h:ae) (n b t:Nat) {β:Type} (K:Nat->Nat->Option β) (w:WK K):
 ((bF (M.st ⟨sl,u,h,n,b⟩) (.s t)).bind fun r=>K r.1 r.2)=m9 (sl t).ad (sl t).v t K w:=by
 simp only[bF,M.st,m9]
 cases(sl t).ad with
 | some r=>rfl
 | none=>cases(sl t).v<;>rfl
@[go_sem ↓]theorem zA2 (t:Nat) (ag:Bool) (k a:Nat) (w:W4 _ _ _ _):
 wO Γ G d p (⟨none,some t,.loadL ag k (.s a)⟩::l) Q ⟨sl,u,h,n,b⟩ w=br (u t) (m9 (sl a).ad (sl a).v a (fun r c=>ob (sl r).box (fun cs=>ob (rd cs c k) (dX ag) ⟨0⟩) ⟨0⟩) ⟨0⟩) (fun v=>wO Γ G d (p+1) l Q ⟨updC sl t ⟨v,none,none⟩,u,h,n,b⟩ ⟨0⟩) ⟨0⟩:=by
 refine dD rfl ?_;rw[<- vh sl u h n b a];simp only[ao,ob]
 cases bF (M.st ⟨sl,u,h,n,b⟩) (.s a)with
 | none=>rfl
 | some r=>
   simp only[zC,zD,M.st]
   cases(sl r.1).box with
   | none=>rfl
   | some cs=>simp only[zD];cases rd cs r.2 k with
     | none=>rfl
     | some x=>simp only[zD];cases dX ag x<;>rfl
@[go_sem ↓]theorem zzf (k a:Nat) (x:Opd) (w:W4 _ _ _ _):
 wO Γ G d p (⟨none,none,.storeL k (.s a) x⟩::l) Q ⟨sl,u,h,n,b⟩ w=
  r0 (m9 (sl a).ad (sl a).v a (fun r g=>ob (sl r).box (fun cs=>ob (aD G sl x) (fun v=>ob v.cells (fun c=>if c.length=k then ob (wr cs g c) (fun cs'=>some (r,(sl r).v,cs',(sl r).ad)) ⟨0⟩else none) ⟨0⟩) ⟨0⟩) ⟨0⟩) ⟨0⟩)
   (fun r v cs i=>wO Γ G d (p+1) l Q ⟨updC sl r ⟨v,some cs,i⟩,u,h,n,b⟩ ⟨0⟩) ⟨0⟩:=by
 (try rw[cm (α:=Slot)])
 (try rw[cm (α:=Bool)])
 (try rw[iS])
 unfold wO;rw[cQ];rw[iK,nz rfl,<- vh sl u h n b a];simp only[ao,ob,bP]
 cases bF (M.st ⟨sl,u,h,n,b⟩) (.s a)with
 | none=>rfl
 | some r=>
   simp only[zC,zD,M.st]
   cases(sl r.1).box with
   | none=>rfl
   | some cs=>simp only[zD];cases aD G sl x with
     | none=>rfl
     | some v=>simp only[zD];cases v.cells with
       | none=>rfl
       | some c=>
         simp only[zD]
         by_cases f:c.length=k
         ·cases wr cs r.2 c with
          | none=>simp[r0,f]
          | some cs'=>simp[M.free,M.apply,eM,r0,bl,f]
         ·simp[r0,f]
@[go_sem ↓]theorem zzo (t c a:Nat) (w:W4 _ _ _ _):
 wO Γ G d p (⟨none,some t,.faddrL c (.s a)⟩::l) Q ⟨sl,u,h,n,b⟩ w=
  eB (u t) (m9 (sl a).ad (sl a).v a (fun r o=>if(sl r).box.isSome=true/\r≠t then some (r,o+c)else none) ⟨0⟩)
   (fun r o=>wO Γ G d (p+1) l Q ⟨updC sl t ⟨.lb,none,some (r,o)⟩,updC u r true,h,n,b⟩ ⟨0⟩) ⟨0⟩:=by
 rw[vj (w':=⟨0⟩)]
 (try rw[cm (α:=Slot)])
 (try rw[cm (α:=Bool)])
 (try rw[iS])
 unfold wO;rw[cQ];rw[iK,nz rfl,<- vh sl u h n b a];simp only[ao]
 cases bF (M.st ⟨sl,u,h,n,b⟩) (.s a)with
 | none=>rfl
 | some r=>
   simp only[zC,zD,M.st]
   cases(sl r.1).box with
   | none=>simp[br]
   | some cs=>
     simp only[zD,qT,nN]
     by_cases f:r.1=t
     ·simp[M.free,br,f]
     ·simp[M.free,M.apply,eM,br,bl,f]
@[go_sem ↓]theorem zxG (t len g a:Nat) (i:Opd) (w:W4 _ _ _ _):
 wO Γ G d p (⟨none,some t,.iaddrAL len g (.s a) i⟩::l) Q ⟨sl,u,h,n,b⟩ w=
  eB (u t) (ob (aD G sl i) (fun v=>ob (eC v) (fun k=>m9 (sl a).ad (sl a).v a (fun r o=>if(sl r).box.isSome=true/\r≠t/\0<=k/\k<len then some (r,o+k.toNat*g)else none) ⟨0⟩) ⟨0⟩) ⟨0⟩)
   (fun r o=>wO Γ G d (p+1) l Q ⟨updC sl t ⟨.lb,none,some (r,o)⟩,updC u r true,h,n,b⟩ ⟨0⟩) ⟨0⟩:=by
 rw[vj (w':=⟨0⟩)]
 (try rw[cm (α:=Slot)])
 (try rw[cm (α:=Bool)])
 (try rw[iS])
 unfold wO;rw[cQ];rw[iK,nz rfl];simp only[ao,ob,lM]
 cases aD G sl i with
 | none=>rfl
 | some v=>
   simp only[zC,zD]
   cases eC v with
   | none=>rfl
   | some k=>
     simp only[zD];rw[<- vh sl u h n b a]
     cases bF (M.st ⟨sl,u,h,n,b⟩) (.s a)with
     | none=>rfl
     | some r=>
       simp only[zD,M.st]
       cases(sl r.1).box with
       | none=>simp[br]
       | some cs=>
         simp only[zD,qT,nN]
         by_cases f:r.1=t
         ·by_cases c:0<=k/\k<len
          ·simp[M.free,br,f,c]
          ·simp[M.free,br,f,c]
         ·by_cases c:0<=k/\k<len
          ·simp[M.free,M.apply,eM,br,bl,f,c]
          ·have : ¬(r.1≠t/\0<=k/\k<len):=fun h=>c h.2
           rw[ac c,ac this];rfl
end
end Rg
end
