/- Part of the proof of laws of relyguardlaw04. No condition. -/
import Derived.Test.YtmgalfhaeddfbaaDoorOartAJ
import Derived.Test.YtmgalfhaeddfbaaDoorOartAI
import Derived.Test.YtmgalfhaeddfbaaDoorOartAO
import Derived.Test.YtmgalfhaeddfbaaDoorOartAK
import Derived.Test.YtmgalfhaeddfbaaDoorOartAN
import Derived.Lib.ItoaLen
set_option linter.unusedVariables false
set_option linter.unusedSimpArgs false
section
namespace Rg
open Go
inductive Tr (α:Type)where
 | nil
 | node (v:Option α) (l r:Tr α)
namespace Tr
variable {α:Type}
noncomputable def get (t:Tr α):Nat->Option α:=
 Tr.rec (motive:=fun _=>Nat->Option α) (fun _=>none) (fun v _ _ a b n=>Nat.rec v (fun m _=>Nat.rec (a (Nat.div m 2)) (fun _ _=>b (Nat.div m 2)) (Nat.mod m 2)) n) t
noncomputable def node1 (ih:Tr α->Nat->α->Tr α) (v:Option α) (l r:Tr α) (n:Nat) (x:α):Tr α:=
 Nat.rec (.node (some x) l r) (fun m _=>Nat.rec (.node v (ih l (Nat.div m 2) x) r) (fun _ _=> .node v l (ih r (Nat.div m 2) x)) (Nat.mod m 2)) n
noncomputable def put (f:Nat):Tr α->Nat->α->Tr α:=
 Nat.rec (fun t _ _=>t) (fun _ ih t=>Tr.rec (motive:=fun _=>Nat->α->Tr α) (node1 ih none .nil .nil) (fun v l r _ _=>node1 ih v l r) t) f
theorem zHN (v:Option α) (l r:Tr α) (m:Nat):(Tr.node v l r).get (m+1)=if m % 2=0 then l.get (m/ 2)else r.get (m/ 2):=by
 show Nat.rec (motive:=fun _=>Option α) (l.get (m/ 2)) (fun _ _=>r.get (m/ 2)) (m % 2)=_;cases m % 2<;>rfl
theorem zK5 (ih:Tr α->Nat->α->Tr α) (v:Option α) (l r:Tr α) (m:Nat) (x:α):node1 ih v l r (m+1) x=if m % 2=0 then .node v (ih l (m/ 2) x) r else .node v l (ih r (m/ 2) x):=by
 show Nat.rec (motive:=fun _=>Tr α) (.node v (ih l (m/ 2) x) r) (fun _ _=> .node v l (ih r (m/ 2) x)) (m % 2)=_;cases m % 2<;>rfl
theorem zJN (ih:Tr α->Nat->α->Tr α) (n:Nat) (x:α) (hi: ∀m,m<n-> ∀t j,(ih t m x).get j=if j=m then some x else t.get j) (v:Option α) (l r:Tr α) (j:Nat):
 (node1 ih v l r n x).get j=if j=n then some x else(Tr.node v l r).get j:=by
 cases n with
 | zero=>cases j<;>rfl
 | succ m=>
   rw[zK5]
   by_cases h:m % 2=0
   ·rw[if_pos h]
    cases j with
    | zero=>rfl
    | succ j=>
      rw[zHN,zHN]
      by_cases h2:j % 2=0
      ·rw[if_pos h2,if_pos h2,hi _ (by omega)]
       by_cases h3:j=m
       ·rw[if_pos (by rw[h3]),if_pos (by rw[h3])]
       ·rw[if_neg (by omega),if_neg (by omega)]
      ·rw[if_neg h2,if_neg h2,if_neg (by omega)]
   ·rw[if_neg h]
    cases j with
    | zero=>rfl
    | succ j=>
      rw[zHN,zHN]
      by_cases h2:j % 2=0
      ·rw[if_pos h2,if_pos h2,if_neg (by omega)]
      ·rw[if_neg h2,if_neg h2,hi _ (by omega)]
       by_cases h3:j=m
       ·rw[if_pos (by rw[h3]),if_pos (by rw[h3])]
       ·rw[if_neg (by omega),if_neg (by omega)]
theorem get_put: ∀(f:Nat) (t:Tr α) (n:Nat) (x:α),n<f-> ∀j,(put f t n x).get j=if j=n then some x else t.get j:=by
 intro f
 induction f with
 | zero=>intro t n x h;omega
 | succ f ih=>
   intro t n x h j;have hi: ∀m,m<n-> ∀t j,(put f t m x).get j=if j=m then some x else t.get j:=fun m hm t j=>ih t m x (by omega) j
   cases t with
   | nil=>
     show(node1 (put f) none .nil .nil n x).get j=_;rw[zJN _ n x hi]
     have : ∀k,(Tr.node none .nil .nil:Tr α).get k=(Tr.nil:Tr α).get k:=by
      intro k
      cases k with
      | zero=>rfl
      | succ k=>rw[zHN];split<;>rfl
     rw[this]
   | node v l r=>exact zJN _ n x hi v l r j
end Tr
structure Fn (α:Type)where
 base:Nat->α
 ov:Tr α
namespace Fn
variable {α:Type}
noncomputable def app (f:Fn α) (k:Nat):α:=match f.ov.get k with
 | some v=>v
 | none=>f.base k
noncomputable def set (f:Fn α) (k:Nat) (v:α):Fn α:=Fn.rec (fun b o=>⟨b,o.put (k+1) k v⟩) f
def of (f:Nat->α):Fn α:=⟨f,.nil⟩
theorem app_set (f:Fn α) (k:Nat) (v:α):(f.set k v).app=upd f.app k v:=by
 funext j
 unfold app set upd;simp only;rw[Tr.get_put (k+1) f.ov k v (by omega)]
 by_cases h:j=k
 ·rw[if_pos h,if_pos h]
 ·rw[if_neg h,if_neg h]
end Fn
structure E where
 env:Fn V
 loc:Fn (Option (List V))
 adr:Fn (Option (Nat×Nat))
 used:Fn Bool
 heap:Fn (Option O)
 nxt:Nat
 bas:Nat
namespace E
noncomputable def st (e:E):St:=⟨e.env.app,e.loc.app,e.adr.app,e.used.app,e.heap.app,e.nxt,e.bas⟩
def begin (e:E) (n:Nat):E:={ e with adr:=.of fun _=>none,used:=.of fun _=>false,bas:=e.nxt,nxt:=e.nxt+n }
noncomputable def hpSet (h:Fn (Option O)):List (Nat×O)->Fn (Option O)
 | []=>h
 | (k,o)::r=>hpSet (h.set k (some o)) r
theorem hpSet_app (h:Fn (Option O)) (l:List (Nat×O)):(hpSet h l).app=zbf h.app l:=by
 induction l generalizing h with
 | nil=>rfl
 | cons a l ih=>rw[hpSet,zbf,ih,Fn.app_set]
noncomputable def apply(s:E) (dst:Option Nat) (e:Eff):E:=
 { s with
   env:=match dst with | some d=>s.env.set d e.val | none=>s.env
   adr:=match dst with | some d=>s.adr.set d e.adr | none=>s.adr
   loc:=match dst with
    | some d=>(match e.wloc with | some (b,cs)=>s.loc.set b (some cs) | none=>s.loc).set d e.loc
    | none=>match e.wloc with | some (b,cs)=>s.loc.set b (some cs) | none=>s.loc
   used:=match e.adr with | some (b,_)=>s.used.set b true | none=>s.used
   heap:=hpSet s.heap e.hp }
theorem apply_st (s:E) (dst:Option Nat) (e:Eff):(s.apply dst e).st=s.st.apply dst e:=by
 unfold apply st St.apply;rcases dst with _ | d<;>rcases e with⟨val,adr,loc,wloc,hp⟩<;>rcases wloc with _ | ⟨b,cs⟩<;>rcases adr with _ | ⟨a1,a2⟩<;>simp only[Fn.app_set,hpSet_app]
def init (args:List V) (h:Fn (Option O)) (n:Nat):E:=⟨.of (zfz args),.of fun _=>none,.of fun _=>none,.of fun _=>false,h,n,n⟩
noncomputable def fill:Fn V->List Nat->List V->Fn V
 | env,t::ts,v::vs=>fill (env.set t v) ts vs
 | env,_,_=>env
theorem zMJ (f:Fn V) (ts:List Nat) (vs:List V):(fill f ts vs).app=zhB f.app ts vs:=by
 induction ts generalizing f vs with
 | nil=>cases vs<;>rfl
 | cons t ts ih=>cases vs with
   | nil=>rfl
   | cons v vs=>rw[fill,zhB,ih,Fn.app_set]
noncomputable def round (h:Fn (Option O)) (n k:Nat) (env:Nat->V) (ps:List Nat) (bd:C) (vs:List V):E:=
 ⟨fill (.of env) ps vs,.of fun _=>none,.of fun _=>none,.of fun _=>false,h.set k (some (.loop env ps bd .enter)),n,n⟩
theorem round_st (h:Fn (Option O)) (n k:Nat) (env:Nat->V) (ps:List Nat) (bd:C) (vs:List V):(round h n k env ps bd vs).st=zht h.app n k env ps bd vs:=by
 unfold round st zht;simp only[zMJ,Fn.app_set];rfl
noncomputable def freeB (s:E) (dst:Option Nat) (e:Eff):Bool:=match dst with
 | none=>true
 | some d=> !s.used.app d&&match e.adr with
   | some (b,_)=> !decide (b=d)
   | none=>true
theorem free_of {s:E} {dst:Option Nat} {e:Eff} (h:s.freeB dst e=true):s.st.free dst e:=by
 intro d hd;subst hd;unfold freeB at h;simp only[zF,Bool.not_eq_true']at h;refine⟨h.1,fun b o hb=> ?_⟩;rw[hb]at h;simpa using h.2
end E
inductive ET where
 | code (c:C) (s:E)
 | loop (b:C) (s:E)
 | ops (draw:Bool) (p:Nat) (l:List ROp) (s:E)
 | pcall (f:Nat) (args:List V)
 | rcall (f:Nat) (args:List V) (h:Fn (Option O)) (n:Nat)
inductive EO where
 | code (e:Ex) (s:E)
 | ops (s:E)
 | val (v:V)
 | vals (v:V) (h:Fn (Option O)) (n:Nat)
noncomputable def ET.task:ET->Task
 | .code c s=> .code c s.st
 | .loop b s=> .loop b s.st
 | .ops d p l s=> .ops d p l s.st
 | .pcall f a=> .pcall f a
 | .rcall f a h n=> .rcall f a h.app n
noncomputable def EO.out:EO->Out
 | .code e s=> .code e s.st
 | .ops s=> .ops s.st
 | .val v=> .val v
 | .vals v h n=> .vals v h.app n
def zLL:Ex->Bool
 | .exit _=>false
 | _=>true
theorem zJJ {e:Ex} (h:zLL e=true): ∀id,e≠ .exit id:=by
 rintro id rfl;cases h
def zHa:Option EO->Option (Ex×E)
 | some (.code e s)=>some (e,s)
 | _=>none
def zLq:Option EO->Option E
 | some (.ops s)=>some s
 | _=>none
def zMl:Option EO->Option V
 | some (.val v)=>some v
 | _=>none
def zJa:Option EO->Option (V×Fn (Option O)×Nat)
 | some (.vals v h n)=>some (v,h,n)
 | _=>none
theorem zGH {x:Option EO} {e:Ex} {s:E} (h:zHa x=some (e,s)):x=some (.code e s):=by
 unfold zHa at h;split at h
 ·cases h;rfl
 ·cases h
theorem zJw {x:Option EO} {s:E} (h:zLq x=some s):x=some (.ops s):=by
 unfold zLq at h;split at h
 ·cases h;rfl
 ·cases h
theorem zKS {x:Option EO} {v:V} (h:zMl x=some v):x=some (.val v):=by
 unfold zMl at h;split at h
 ·cases h;rfl
 ·cases h
theorem zII {x:Option EO} {v:V} {hp:Fn (Option O)} {n:Nat} (h:zJa x=some (v,hp,n)):x=some (.vals v hp n):=by
 unfold zJa at h;split at h
 ·cases h;rfl
 ·cases h
noncomputable def loopAt (h:Fn (Option O)) (k:Nat):Option ((Nat->V)×List Nat×C×LSt):=match h.app k with
 | some (.loop env ps b st)=>some (env,ps,b,st)
 | _=>none
theorem zHL {h:Fn (Option O)} {k:Nat} {env:Nat->V} {ps:List Nat} {b:C} {st:LSt} (e:loopAt h k=some (env,ps,b,st)):h.app k=some (.loop env ps b st):=by
 unfold loopAt at e;split at e
 ·rename_i h0;cases e;exact h0
 ·cases e
def LSt.isReady:LSt->Bool
 | .ready=>true
 | _=>false
def LSt.isEnter:LSt->Bool
 | .enter=>true
 | _=>false
def LSt.isBusy:LSt->Bool
 | .busy=>true
 | _=>false
def roundOf:C->Option (C×C)
 | .round a b=>some (a,b)
 | _=>none
def zNg:C->Option Ext
 | .ext e=>some e
 | _=>none
def zO4:V->Option Nat
 | .yl k=>some k
 | _=>none
def zJZ:AOp->Option (Bool×Opd×List Opd)
 | .call r f a=>some (r,f,a)
 | _=>none
def zJp:AOp->Option (Opd×List Opd)
 | .fcall f a=>some (f,a)
 | _=>none
def ask (b:Bool):Option Unit:=if b then some ()else none
theorem zGQ {b:Bool} {u:Unit} (h:ask b=some u):b=true:=by
 unfold ask at h;split at h
 ·assumption
 ·cases h
section
variable (Γ:Nat->Option F) (G:Nat->List T) (R:ET->Option EO)
noncomputable def evCode (s:E):C->Option EO
 | .skip=>some (.code .normal s)
 | .ret=>some (.code .ret s)
 | .exit id=>some (.code (.exit id) s)
 | .region d l=>(zLq (R (.ops d 0 l (s.begin l.length)))).bind fun s'=>some (.code .normal s')
 | .regionD ck l=>(zLq (R (.ops true 0 l (s.begin l.length)))).bind fun s'=>(ask (zgO G s'.st l ck)).bind fun _=>some (.code .normal s')
 | .seq a b=>(zHa (R (.code a s))).bind fun q=>match q with
   | (.normal,s1)=>(zHa (R (.code b s1))).bind fun q=>some (.code q.1 q.2)
   | (e,s1)=>some (.code e s1)
 | .cond c a b=>(zd5 G s.st c).bind fun t=>(zHa (R (.code (if t then a else b) s))).bind fun q=>some (.code q.1 q.2)
 | .block id b=>(zHa (R (.code b s))).bind fun q=>some (.code (if q.1= .exit id then .normal else q.1) q.2)
 | .loop b=>(zHa (R (.loop b s))).bind fun q=>some (.code q.1 q.2)
 | .rangeF x ps bd=>(evl G s.st x).bind fun fv=>(zfC fv).bind fun g=>(Γ g.1).bind fun fn=>(ask fn.raw).bind fun _=>
   (zJa (R (.rcall g.1 (g.2.1++[.yl s.nxt]++g.2.2) (s.heap.set s.nxt (some (.loop s.env.app ps bd .ready))) (s.nxt+1)))).bind fun r=>
   (loopAt r.2.1 s.nxt).bind fun q=>(LSt.ends q.2.2.2).bind fun e=>some (.code e { s with heap:=r.2.1.set s.nxt (some .dead),nxt:=r.2.2 })
 | .ext _=>none
 | .round _ _=>none
noncomputable def evRest (d:Bool) (p:Nat) (o:ROp) (l:List ROp) (s:E) (e:Eff):Option EO:=
 (zLq (R (.ops d (p+1) l (s.apply o.dst e)))).bind fun s'=>some (.ops s')
noncomputable def evYield (d:Bool) (p:Nat) (o:ROp) (l:List ROp) (s:E) (k:Nat) (vs:List V):Option EO:=
 (loopAt s.heap k).bind fun q=>(ask (LSt.isReady q.2.2.2)).bind fun _=>(roundOf q.2.2.1).bind fun c=>(ask (decide (vs.length=q.2.1.length))).bind fun _=>
 (zHa (R (.code c.1 (.round s.heap s.nxt k q.1 q.2.1 (.round c.1 c.2) vs)))).bind fun r1=>(ask (decide (r1.1= .normal))).bind fun _=>
 (loopAt r1.2.heap k).bind fun q1=>(ask (LSt.isEnter q1.2.2.2)).bind fun _=>
 (zHa (R (.code c.2 { r1.2 with heap:=r1.2.heap.set k (some (.loop q1.1 q1.2.1 q1.2.2.1 .busy)) }))).bind fun r2=>
 (loopAt r2.2.heap k).bind fun q2=>(ask (LSt.isBusy q2.2.2.2)).bind fun _=>
 evRest R d p o l { s with heap:=r2.2.heap.set k (some (.loop q2.1 q2.2.1 q2.2.2.1 r2.1.toL)),nxt:=r2.2.nxt } { val:=.t (.bool (decide (r2.1=Ex.normal))) }
noncomputable def evOp (d:Bool) (p:Nat) (o:ROp) (l:List ROp) (s:E):Option EO:=match zJZ o.op with
 | some (raw,f,args)=>(ask (s.freeB o.dst {})).bind fun _=>(evl G s.st f).bind fun fv=>(zgE G s.st args).bind fun vs=>match zO4 fv with
   | some k=>(ask raw).bind fun _=>evYield R d p o l s k vs
   | none=>(zfC fv).bind fun g=>(Γ g.1).bind fun fn=>if raw then
      (ask (!zHX f)).bind fun _=>(zJ3 s.st.heap g.2.1).bind fun a'=>(zJa (R (.rcall g.1 (a'++vs++g.2.2) s.heap s.nxt))).bind fun r=>evRest R d p o l { s with heap:=r.2.1,nxt:=r.2.2 } { val:=r.1 }
     else(ask (!fn.raw)).bind fun _=>((g.2.1++vs++g.2.2).mapM (toT1 s.st.heap)).bind fun rs=>(zMl (R (.pcall g.1 rs))).bind fun r=>
      (ask (!d||r.scalar||((g.2.1++vs++g.2.2).flatMap (zba s.st.heap)).isEmpty)).bind fun _=>
      evRest R d p o l s { val:=r,hp:=if r.scalar then []else freezes s.st.heap ((g.2.1++vs++g.2.2).flatMap (zba s.st.heap)) }
 | none=>match zJp o.op with
   | some (f,args)=>(ask (s.freeB o.dst {})).bind fun _=>(evl G s.st f).bind fun fv=>(zgE G s.st args).bind fun vs=>(zfC fv).bind fun g=>(Γ g.1).bind fun fn=>(ask fn.raw).bind fun _=>
     ((g.2.1++vs++g.2.2).mapM (toT1 s.st.heap)).bind fun rs=>(ask ((g.2.1++vs++g.2.2).flatMap (zba s.st.heap)).isEmpty).bind fun _=>
     (zJa (R (.rcall g.1 rs (.of fun _=>none) 0))).bind fun r=>(zqm (s.bas+p) r.1 r.2.1.app).bind fun e=>evRest R d p o l s e
   | none=>(zaj G p s.st o.op).bind fun e=>(ask (s.freeB o.dst e)).bind fun _=>evRest R d p o l s e
noncomputable def evStep:ET->Option EO
 | .code c s=>evCode Γ G R s c
 | .loop b s=>(zHa (R (.code b s))).bind fun q=>match q with
   | (.normal,s1)=>(zHa (R (.loop b s1))).bind fun q=>some (.code q.1 q.2)
   | (e,s1)=>some (.code e s1)
 | .ops _ _ [] s=>some (.ops s)
 | .ops d p (o::l) s=>(zcs s.st o.guard).bind fun w=>if w then evOp Γ G R d p o l s else(ask (s.freeB o.dst {})).bind fun _=>evRest R d p o l s {}
 | .pcall g args=>(Γ g).bind fun fn=>(ask (!fn.raw)).bind fun _=>match zNg fn.body with
   | some e=>(zev e args).bind fun r=>some (.val r)
   | none=>(zHa (R (.code fn.body (.init args (.of fun _=>none) 0)))).bind fun q=>(ask (zLL q.1)).bind fun _=>(zeM q.2.st fn.results).bind fun v=>(reify q.2.st.heap v).bind fun r=>some (.val r)
 | .rcall g args h m=>(Γ g).bind fun fn=>if fn.raw=false then(args.mapM (toT1 h.app)).bind fun rs=>(zMl (R (.pcall g rs))).bind fun r=>some (.vals r (E.hpSet h (if r.scalar then []else freezes h.app (args.flatMap (zba h.app)))) m)else(ask fn.raw).bind fun _=>match zNg fn.body with
   | some e=>(zd3 e args h.app m).bind fun r=>some (.vals r.1 (.of r.2.1) r.2.2)
   | none=>(zHa (R (.code fn.body (.init args h m)))).bind fun q=>(ask (zLL q.1)).bind fun _=>(zeM q.2.st fn.results).bind fun v=>some (.vals v q.2.heap q.2.nxt)
end
noncomputable def ev (Γ:Nat->Option F) (G:Nat->List T):Nat->ET->Option EO
 | 0=>fun _=>none
 | n+1=>evStep Γ G (ev Γ G n)
section
variable {Γ:Nat->Option F} {G:Nat->List T} {R:ET->Option EO}
def zHr (Γ:Nat->Option F) (G:Nat->List T) (R:ET->Option EO):Prop:= ∀t o,R t=some o->Big Γ G t.task o.out
theorem bind_some {α β:Type} {x:Option α} {f:α->Option β} {b:β} (h:x.bind f=some b): ∃a,x=some a/\f a=some b:=by
 cases x with
 | none=>cases h
 | some a=>exact⟨a,rfl,h⟩
theorem zJS (hR:zHr Γ G R) {s:E} {c:C} {o:EO} (h:evCode Γ G R s c=some o):Big Γ G (.code c s.st) o.out:=by
 cases c with
 | skip=>simp only[evCode,zA]at h;subst h;exact .skip
 | ret=>simp only[evCode,zA]at h;subst h;exact .ret
 | exit id=>simp only[evCode,zA]at h;subst h;exact .exit
 | region d l=>
   simp only[evCode]at h;obtain⟨s',h1,h⟩:=bind_some h;simp only[zA]at h;subst h
   exact .region (hR _ _ (zJw h1))
 | regionD ck l=>
   simp only[evCode]at h;obtain⟨s',h1,h⟩:=bind_some h;obtain⟨u,h2,h⟩:=bind_some h;simp only[zA]at h;subst h
   exact .regionD (hR _ _ (zJw h1)) (zGQ h2)
 | seq a b=>
   simp only[evCode]at h;obtain⟨⟨e,s1⟩,h1,h⟩:=bind_some h;have g1:=hR _ _ (zGH h1)
   cases e with
   | normal=>
     obtain⟨⟨e2,s2⟩,h2,h⟩:=bind_some h;simp only[zA]at h;subst h
     exact .seqN g1 (hR _ _ (zGH h2))
   | exit id=>simp only[zA]at h;subst h;exact .seqX g1 (by intro h;cases h)
   | ret=>simp only[zA]at h;subst h;exact .seqX g1 (by intro h;cases h)
 | cond c a b=>
   simp only[evCode]at h;obtain⟨t,ht,h⟩:=bind_some h;obtain⟨⟨e,s1⟩,h1,h⟩:=bind_some h;simp only[zA]at h;subst h
   exact .cond ht (hR _ _ (zGH h1))
 | block id b=>
   simp only[evCode]at h;obtain⟨⟨e,s1⟩,h1,h⟩:=bind_some h;simp only[zA]at h;subst h
   exact .block (hR _ _ (zGH h1))
 | loop b=>
   simp only[evCode]at h;obtain⟨⟨e,s1⟩,h1,h⟩:=bind_some h;simp only[zA]at h;subst h
   exact .loop (hR _ _ (zGH h1))
 | rangeF x ps bd=>
   simp only[evCode]at h;obtain⟨fv,As,h⟩:=bind_some h;obtain⟨⟨g,a,b⟩,Ax,h⟩:=bind_some h;obtain⟨fn,hg,h⟩:=bind_some h;obtain⟨_,hr,h⟩:=bind_some h;obtain⟨⟨r,h',n'⟩,hc,h⟩:=bind_some h;obtain⟨⟨env',ps',bd',st⟩,hl,h⟩:=bind_some h;obtain⟨e,he,h⟩:=bind_some h;simp only[zA]at h;subst h;have g1:=hR _ _ (zII hc);simp only[ET.task,EO.out,Fn.app_set]at g1;have:=Big.rangeF (s:=s.st) (ps:=ps) (bd:=bd) As Ax hg trivial g1 (zHL hl) he
   simpa only[EO.out,E.st,Fn.app_set]using this
 | ext e=>simp[evCode]at h
 | round a b=>simp[evCode]at h
theorem zGO (hR:zHr Γ G R) {d:Bool} {p:Nat} {ro:ROp} {l:List ROp} {s:E} {e:Eff} {o:EO} (h:evRest R d p ro l s e=some o): ∃s',o= .ops s'/\Big Γ G (.ops d (p+1) l (s.st.apply ro.dst e)) (.ops s'.st):=by
 obtain⟨s',h1,h⟩:=bind_some h;simp only[zA]at h;subst h;have:=hR _ _ (zJw h1);simp only[ET.task,EO.out,E.apply_st]at this;exact⟨s',rfl,this⟩
theorem zLe {st:LSt} (h:st.isReady=true):st= .ready:=by cases st<;>first | rfl | cases h
theorem zLf {st:LSt} (h:st.isEnter=true):st= .enter:=by cases st<;>first | rfl | cases h
theorem zL4 {st:LSt} (h:st.isBusy=true):st= .busy:=by cases st<;>first | rfl | cases h
theorem zK0 {c a b:C} (h:roundOf c=some (a,b)):c= .round a b:=by cases c<;>first | (cases h;rfl) | cases h
theorem zKM {c:C} {e:Ext} (h:zNg c=some e):c= .ext e:=by cases c<;>first | (cases h;rfl) | cases h
theorem zMW {v:V} {k:Nat} (h:zO4 v=some k):v= .yl k:=by cases v<;>first | (cases h;rfl) | cases h
theorem zMk {o:AOp} {r:Bool} {f:Opd} {a:List Opd} (h:zJZ o=some (r,f,a)):o= .call r f a:=by cases o<;>first | (cases h;rfl) | cases h
theorem zLj {o:AOp} {f:Opd} {a:List Opd} (h:zJp o=some (f,a)):o= .fcall f a:=by cases o<;>first | (cases h;rfl) | cases h
theorem zJq (hR:zHr Γ G R) {d:Bool} {p:Nat} {ro:ROp} {l:List ROp} {s:E} {k:Nat} {vs:List V} {o:EO} {f:Opd} {args:List Opd} (hw:zcs s.st ro.guard=some true) (hf:s.st.free ro.dst {}) (ho:ro.op= .call true f args)
 (As:evl G s.st f=some (.yl k)) (Au:zgE G s.st args=some vs) (h:evYield R d p ro l s k vs=some o):Big Γ G (.ops d p (ro::l) s.st) o.out:=by
 unfold evYield at h;obtain⟨⟨env,ps,bd,st⟩,hk,z1⟩:=bind_some h;obtain⟨_,AE,z2⟩:=bind_some z1;obtain⟨⟨ca,cb⟩,hc,z3⟩:=bind_some z2;obtain⟨_,Ac,z4⟩:=bind_some z3;obtain⟨⟨e1,s1⟩,h1,z5⟩:=bind_some z4;obtain⟨_,Oa,z6⟩:=bind_some z5;obtain⟨⟨env1,ps1,bd1,st1⟩,AT,z7⟩:=bind_some z6;obtain⟨_,Nc,z8⟩:=bind_some z7;obtain⟨⟨e2,s2⟩,h2,z9⟩:=bind_some z8;obtain⟨⟨env',ps',bd',st2⟩,AF,z10⟩:=bind_some z9;obtain⟨_,Gs,z11⟩:=bind_some z10;have q1:=zLe (zGQ AE);have q2:=zLf (zGQ Nc);have q3:=zL4 (zGQ Gs);have q4:=zK0 hc;have q5:=of_decide_eq_true (zGQ Oa);have q6:=of_decide_eq_true (zGQ Ac);simp only at q1 q2 q3 q4 q5 q6 h1 h2 hk AT AF z11;subst q1 q2 q3 q4 q5;obtain⟨s',rfl,hb⟩:=zGO hR z11;have g1:=hR _ _ (zGH h1);have g2:=hR _ _ (zGH h2);simp only[ET.task,EO.out,E.round_st]at g1 g2;refine .opsYield (s:=s.st) (s1:=s1.st) (s2:=s2.st) (e:=e2) hw hf ho As (zHL hk) Au q6 g1 (zHL AT) ?_ (zHL AF) ?_
 ·simpa only[E.st,Fn.app_set]using g2
 ·simpa only[E.st,Fn.app_set]using hb
theorem zLk (hR:zHr Γ G R) {d:Bool} {p:Nat} {ro:ROp} {l:List ROp} {s:E} {o:EO} (hw:zcs s.st ro.guard=some true) (h:evOp Γ G R d p ro l s=some o):Big Γ G (.ops d p (ro::l) s.st) o.out:=by
 unfold evOp at h;split at h
 ·rename_i raw f args Da;have ho:=zMk Da;obtain⟨_,hf,h⟩:=bind_some h;obtain⟨fv,As,h⟩:=bind_some h;obtain⟨vs,Au,h⟩:=bind_some h;have Bd:=E.free_of (zGQ hf);split at h
  ·rename_i k hk;obtain⟨_,hr,h⟩:=bind_some h;have Ah:=zMW hk;rw[Ah]at As;rw[zGQ hr]at ho;exact zJq hR hw Bd ho As Au h
  ·obtain⟨⟨g,a,b⟩,Ax,h⟩:=bind_some h;obtain⟨fn,hg,h⟩:=bind_some h;split at h
   ·rename_i HT;rw[HT]at ho;obtain⟨_,T1,h⟩:=bind_some h;obtain⟨a',Bu,h⟩:=bind_some h;obtain⟨⟨r,h',n'⟩,hc,h⟩:=bind_some h;obtain⟨s',rfl,hb⟩:=zGO hR h;have g1:=hR _ _ (zII hc);exact .opsRaw hw Bd ho As Ax Bu hg (fun hk=>by have:=zGQ T1;rw[hk]at this;cases this) Au g1 hb
   ·rename_i HT;have HT:raw=false:=by simpa using HT
    rw[HT]at ho;obtain⟨_,hr,h⟩:=bind_some h;obtain⟨rs,AD,h⟩:=bind_some h;obtain⟨r,hc,h⟩:=bind_some h;obtain⟨_,hd,h⟩:=bind_some h;obtain⟨s',rfl,hb⟩:=zGO hR h;have g1:=hR _ _ (zKS hc);have Dz:fn.raw=false:=by simpa using zGQ hr
    have JS:=zGQ hd;simp only[Bool.or_eq_true,Bool.not_eq_true',List.isEmpty_iff]at JS;refine .opsPure hw Bd ho As Ax hg Dz Au AD g1 (fun h0=> ?_) hb;rcases JS with(JS | JS) | JS
    ·rw[JS]at h0;cases h0
    ·exact .inl JS
    ·exact .inr JS
 ·split at h
  ·rename_i f args Da;have ho:=zLj Da;obtain⟨_,hf,h⟩:=bind_some h;obtain⟨fv,As,h⟩:=bind_some h;obtain⟨vs,Au,h⟩:=bind_some h;obtain⟨⟨g,a,b⟩,Ax,h⟩:=bind_some h;obtain⟨fn,hg,h⟩:=bind_some h;obtain⟨_,hr,h⟩:=bind_some h;obtain⟨rs,AD,h⟩:=bind_some h;obtain⟨_,hd,h⟩:=bind_some h;obtain⟨⟨r,h',n'⟩,hc,h⟩:=bind_some h;obtain⟨e,he,h⟩:=bind_some h;obtain⟨s',rfl,hb⟩:=zGO hR h;have g1:=hR _ _ (zII hc);exact .opsFresh hw (E.free_of (zGQ hf)) ho As Ax hg trivial Au AD (List.isEmpty_iff.1 (zGQ hd)) g1 he hb
  ·obtain⟨e,he,h⟩:=bind_some h;obtain⟨_,hf,h⟩:=bind_some h;obtain⟨s',rfl,hb⟩:=zGO hR h;exact .opsEff hw (E.free_of (zGQ hf)) he hb
theorem zH7 (hR:zHr Γ G R):zHr Γ G (evStep Γ G R):=by
 intro t o h
 cases t with
 | code c s=>exact zJS hR h
 | loop b s=>
   simp only[evStep]at h;obtain⟨⟨e,s1⟩,h1,h⟩:=bind_some h;have g1:=hR _ _ (zGH h1)
   cases e with
   | normal=>
     obtain⟨⟨e2,s2⟩,h2,h⟩:=bind_some h;simp only[zA]at h;subst h
     exact .loopN g1 (hR _ _ (zGH h2))
   | exit id=>simp only[zA]at h;subst h;exact .loopX g1 (by intro h;cases h)
   | ret=>simp only[zA]at h;subst h;exact .loopX g1 (by intro h;cases h)
 | ops d p l s=>
   cases l with
   | nil=>simp only[evStep,zA]at h;subst h;exact .opsNil
   | cons ro l=>
     simp only[evStep]at h;obtain⟨w,hw,h⟩:=bind_some h
     cases w with
     | true=>exact zLk hR hw h
     | false=>
       simp only[zG,if_false]at h;obtain⟨_,hf,h⟩:=bind_some h;obtain⟨s',rfl,hb⟩:=zGO hR h
       exact .opsSkip hw (E.free_of (zGQ hf)) hb
 | pcall g args=>
   simp only[evStep]at h;obtain⟨fn,hg,h⟩:=bind_some h;obtain⟨_,hr,h⟩:=bind_some h;have Dz:fn.raw=false:=by simpa using zGQ hr
   split at h
   ·rename_i e he;obtain⟨r,hx,h⟩:=bind_some h;simp only[zA]at h;subst h;exact .pext hg Dz (zKM he) hx
   ·obtain⟨⟨e,s1⟩,h1,h⟩:=bind_some h;obtain⟨_,hn,h⟩:=bind_some h;obtain⟨v,hv,h⟩:=bind_some h;obtain⟨r,Bh,h⟩:=bind_some h;simp only[zA]at h;subst h
    exact .pcall hg Dz (hR _ _ (zGH h1)) (zJJ (zGQ hn)) hv Bh
 | rcall g args hp m=>
   simp only[evStep]at h;obtain⟨fn,hg,h⟩:=bind_some h;split at h
   ·rename_i hr;obtain⟨rs,AD,h⟩:=bind_some h;obtain⟨r,hc,h⟩:=bind_some h;simp only[zA]at h;subst h;have:=Big.rpure (n:=m) hg hr AD (hR _ _ (zKS hc));rw[<- E.hpSet_app]at this;exact this
   obtain⟨_,hr,h⟩:=bind_some h;split at h
   ·rename_i e he;obtain⟨⟨r,h',n'⟩,hx,h⟩:=bind_some h;simp only[zA]at h;subst h;exact .rext hg (zGQ hr) (zKM he) hx
   ·obtain⟨⟨e,s1⟩,h1,h⟩:=bind_some h;obtain⟨_,hn,h⟩:=bind_some h;obtain⟨v,hv,h⟩:=bind_some h;simp only[zA]at h;subst h;exact .rcall hg (zGQ hr) (hR _ _ (zGH h1)) (zJJ (zGQ hn)) hv
theorem zKN: ∀n,zHr Γ G (ev Γ G n)
 | 0=>fun _ _ h=>by cases h
 | n+1=>zH7 (zKN n)
theorem zNQ (n:Nat) {g:Nat} {args:List V} {r:V} (h:ev Γ G n (.pcall g args)=some (.val r)):Den Γ G g args=some r:=zhC.2 (zKN n _ _ h)
end
/-! The same evaluator in a form that the kernel runs with less room. -/
abbrev TG:=Nat->Option F
abbrev TL:=Nat->List T
abbrev TR:=ET->Option EO
theorem zG3 {α β:Type} (x:Option α) (f:α->Option β):x.bind f=Option.rec none f x:=by cases x<;>rfl
theorem zGS {α:Type} (x:Option EO) (f:E->Option α):(zLq x).bind f=Option.rec none (fun o=>EO.rec (fun _ _=>none) f (fun _=>none) (fun _ _ _=>none) o) x:=by
 cases x with
 | none=>rfl
 | some o=>cases o<;>rfl
theorem zGU {α:Type} (x:Option EO) (f:Ex×E->Option α):(zHa x).bind f=Option.rec none (fun o=>EO.rec (fun e s=>f (e,s)) (fun _=>none) (fun _=>none) (fun _ _ _=>none) o) x:=by
 cases x with
 | none=>rfl
 | some o=>cases o<;>rfl
theorem zG8 {α:Type} (x:Option EO) (f:V->Option α):(zMl x).bind f=Option.rec none (fun o=>EO.rec (fun _ _=>none) (fun _=>none) f (fun _ _ _=>none) o) x:=by
 cases x with
 | none=>rfl
 | some o=>cases o<;>rfl
theorem zGT {α:Type} (x:Option EO) (f:V×Fn (Option O)×Nat->Option α):(zJa x).bind f=Option.rec none (fun o=>EO.rec (fun _ _=>none) (fun _=>none) (fun _=>none) (fun v h n=>f (v,h,n)) o) x:=by
 cases x with
 | none=>rfl
 | some o=>cases o<;>rfl
noncomputable def valsE (v:V) (s:E):EO:=E.rec (fun _ _ _ _ heap nxt _=>EO.vals v heap nxt) s
theorem zHg (v:V) (s:E):EO.vals v s.heap s.nxt=valsE v s:=by cases s;rfl
theorem zHj {α:Type} (b:Bool) (f:Unit->Option α):(ask b).bind f=Bool.rec none (f ()) b:=by cases b<;>rfl
theorem zHC {α:Type} (b:Bool) (x y:α):(if b=true then x else y)=Bool.rec y x b:=by cases b<;>rfl
noncomputable def stE (t:Option Nat) (env:Fn V) (loc:Fn (Option (List V))) (adr:Fn (Option (Nat×Nat))) (used:Fn Bool) (heap:Fn (Option O)) (nxt bas:Nat) (v:V) (a:Option (Nat×Nat)) (c:Option (List V)) (w:Option (Nat×List V)):E:=
 Option.rec ⟨env,Option.rec loc (fun w=>loc.set w.1 (some w.2)) w,adr,Option.rec used (fun a=>used.set a.1 true) a,heap,nxt,bas⟩
  (fun t=>⟨env.set t v,(Option.rec loc (fun w=>loc.set w.1 (some w.2)) w:Fn (Option (List V))).set t c,adr.set t a,Option.rec used (fun a=>used.set a.1 true) a,heap,nxt,bas⟩) t
noncomputable def restE (R:TR) (d:Bool) (p:Nat) (t:Option Nat) (l:List ROp) (env:Fn V) (loc:Fn (Option (List V))) (adr:Fn (Option (Nat×Nat))) (used:Fn Bool) (heap:Fn (Option O)) (nxt bas:Nat) (e:Eff):Option EO:=
 Option.rec none (fun q=>EO.rec (fun _ _=>none) (fun s'=>some (.ops s')) (fun _=>none) (fun _ _ _=>none) q) (R (.ops d (p+1) l
  (Eff.rec (fun v a c w hp=>List.rec (stE t env loc adr used heap nxt bas v a c w) (fun _ _ _=>stE t env loc adr used (E.hpSet heap hp) nxt bas v a c w) hp) e)))
theorem zJi (R:TR) (d:Bool) (p:Nat) (t:Option Nat) (g:Option (Nat×Bool)) (op:AOp) (l:List ROp) (env:Fn V) (loc:Fn (Option (List V))) (adr:Fn (Option (Nat×Nat))) (used:Fn Bool) (heap:Fn (Option O)) (nxt bas:Nat) (e:Eff):
 evRest R d p ⟨g,t,op⟩ l ⟨env,loc,adr,used,heap,nxt,bas⟩ e=restE R d p t l env loc adr used heap nxt bas e:=by
 have h:E.apply ⟨env,loc,adr,used,heap,nxt,bas⟩ t e=Eff.rec (fun v a c w hp=>List.rec (stE t env loc adr used heap nxt bas v a c w) (fun _ _ _=>stE t env loc adr used (E.hpSet heap hp) nxt bas v a c w) hp) e:=by
  obtain⟨v,a,c,w,hp⟩:=e;cases t<;>cases hp<;>rcases a with _ | ⟨a1,a2⟩<;>rcases w with _ | ⟨w1,w2⟩<;>rfl
 unfold evRest restE;rw[zGS];simp only[h]
theorem zNG (Γ:TG) (G:TL) (R:TR) (d:Bool) (p:Nat) (g:Option (Nat×Bool)) (t:Option Nat) (op:AOp) (l:List ROp) (env:Fn V) (loc:Fn (Option (List V))) (adr:Fn (Option (Nat×Nat))) (used:Fn Bool) (heap:Fn (Option O)) (nxt bas:Nat) (h1:zJZ op=none) (h2:zJp op=none):
 (Option.rec none (fun e=>Bool.rec none (restE R d p t l env loc adr used heap nxt bas e) (E.freeB ⟨env,loc,adr,used,heap,nxt,bas⟩ t e)) (zaj G p (E.st ⟨env,loc,adr,used,heap,nxt,bas⟩) op):Option EO)=evOp Γ G R d p ⟨g,t,op⟩ l ⟨env,loc,adr,used,heap,nxt,bas⟩:=by
 simp only[evOp,h1,h2,zHj,zJi];simp only[zG3]
noncomputable def evO1 (op:AOp): {f:TG->TL->TR->Bool->Nat->Option (Nat×Bool)->Option Nat->List ROp->Fn V->Fn (Option (List V))->Fn (Option (Nat×Nat))->Fn Bool->Fn (Option O)->Nat->Nat->Option EO//
 ∀Γ G R d p g t l env loc adr used heap nxt bas,f Γ G R d p g t l env loc adr used heap nxt bas=evOp Γ G R d p ⟨g,t,op⟩ l ⟨env,loc,adr,used,heap,nxt,bas⟩}:=by
 induction op
 case call r f a=>exact⟨_,fun Γ G R d p g t l env loc adr used heap nxt bas=>by simp only[evOp,zJZ,zJi,zGS,zGU,zG8,zGT,zHg,zHj];(try simp only[zG3,zHC]);rfl⟩
 case fcall f a=>exact⟨_,fun Γ G R d p g t l env loc adr used heap nxt bas=>by simp only[evOp,zJZ,zJp,zJi,zGS,zGU,zG8,zGT,zHg,zHj];(try simp only[zG3,zHC]);rfl⟩
 all_goals exact⟨_,fun Γ G R d p g t l env loc adr used heap nxt bas=>by refine Eq.trans ?_ (zNG Γ G R d p g t _ l env loc adr used heap nxt bas rfl rfl);simp only[zaj,zC,zG3];rfl⟩
noncomputable def begE (s:E) (n:Nat):E:=
 E.rec (fun env loc _ _ heap nxt _=>Nat.rec ⟨env,loc,.of fun _=>none,.of fun _=>false,heap,n,0⟩ (fun m _=>⟨env,loc,.of fun _=>none,.of fun _=>false,heap,m+1+n,m+1⟩) nxt) s
theorem zNm (s:E) (n:Nat):s.begin n=begE s n:=by
 obtain⟨env,loc,adr,used,heap,nxt,bas⟩:=s;cases nxt
 ·show(⟨env,loc,_,_,heap,0+n,0⟩:E)=⟨env,loc,_,_,heap,n,0⟩;rw[Nat.zero_add]
 ·rfl
noncomputable def evC1 (c:C): {f:TG->TL->TR->E->Option EO// ∀Γ G R s,f Γ G R s=evCode Γ G R s c}:=by
 induction c<;>exact⟨_,fun Γ G R s=>by simp only[evCode,zNm,zGS,zGU,zG8,zGT,zHg,zHj];(try simp only[zG3,zHC]);rfl⟩
noncomputable def skp (env:Fn V) (loc:Fn (Option (List V))) (adr:Fn (Option (Nat×Nat))) (used:Fn Bool) (heap:Fn (Option O)) (nxt bas:Nat) (dst:Option Nat):E:=
 Option.rec ⟨env,loc,adr,used,heap,nxt,bas⟩ (fun d=>⟨env.set d .undef,loc.set d none,adr.set d none,used,heap,nxt,bas⟩) dst
theorem zNA (env:Fn V) (loc:Fn (Option (List V))) (adr:Fn (Option (Nat×Nat))) (used:Fn Bool) (heap:Fn (Option O)) (nxt bas:Nat) (dst:Option Nat):E.apply ⟨env,loc,adr,used,heap,nxt,bas⟩ dst {}=skp env loc adr used heap nxt bas dst:=by
 cases dst<;>rfl
theorem zNh (Γ:TG) (G:TL) (R:TR) (d:Bool) (p:Nat) (o:ROp) (l:List ROp) (env:Fn V) (loc:Fn (Option (List V))) (adr:Fn (Option (Nat×Nat))) (used:Fn Bool) (heap:Fn (Option O)) (nxt bas:Nat):
 (Option.rec none (fun w=>Bool.rec (Bool.rec none (Option.rec none (fun q=>EO.rec (fun _ _=>none) (fun s'=>some (.ops s')) (fun _=>none) (fun _ _ _=>none) q) (R (.ops d (p+1) l (skp env loc adr used heap nxt bas o.dst)))) (E.freeB ⟨env,loc,adr,used,heap,nxt,bas⟩ o.dst {}))
   ((evO1 o.op).1 Γ G R d p o.guard o.dst l env loc adr used heap nxt bas) w) (zcs (E.st ⟨env,loc,adr,used,heap,nxt,bas⟩) o.guard):Option EO)=evStep Γ G R (.ops d p (o::l) ⟨env,loc,adr,used,heap,nxt,bas⟩):=by
 simp only[evStep]
 cases zcs (E.st ⟨env,loc,adr,used,heap,nxt,bas⟩) o.guard with
 | none=>rfl
 | some w=>
   cases w with
   | true=>exact(evO1 o.op).2 ..
   | false=>
     simp only[zD,zG,if_false,evRest,zNA]
     cases E.freeB ⟨env,loc,adr,used,heap,nxt,bas⟩ o.dst {}with
     | false=>rfl
     | true=>
       simp only[zGS,zHj]
noncomputable def evS1 (t:ET): {f:TG->TL->TR->Option EO// ∀Γ G R,f Γ G R=evStep Γ G R t}:=by
 induction t with
 | code c s=>exact⟨fun Γ G R=>(evC1 c).1 Γ G R s,fun Γ G R=>(evC1 c).2 Γ G R s⟩
 | loop b s=>exact⟨_,fun Γ G R=>by simp only[evStep,zGS,zGU,zG8,zGT,zHg,zHj];(try simp only[zG3,zHC]);rfl⟩
 | ops d p l s=>
   induction l with
   | nil=>exact⟨_,fun Γ G R=>by simp only[evStep,zGS,zGU,zG8,zGT,zHg,zHj];(try simp only[zG3,zHC]);rfl⟩
   | cons o l _=>
     induction s with
     | mk env loc adr used heap nxt bas=>exact⟨_,fun Γ G R=>zNh Γ G R d p o l env loc adr used heap nxt bas⟩
 | pcall g a=>exact⟨_,fun Γ G R=>by simp only[evStep,zGS,zGU,zG8,zGT,zHg,zHj];(try simp only[zG3,zHC]);rfl⟩
 | rcall g a h m=>exact⟨_,fun Γ G R=>by simp only[evStep,zGS,zGU,zG8,zGT,zHg,zHj];(try simp only[zG3,zHC]);rfl⟩
noncomputable def knownT (K:Nat->List V->Option V) (t:ET):Option V:=ET.rec (fun _ _=>none) (fun _ _=>none) (fun _ _ _ _=>none) K (fun _ _ _ _=>none) t
noncomputable def ev2 (K:Nat->List V->Option V) (Γ:TG) (G:TL) (n:Nat):TR:=Nat.rec (fun _=>none) (fun _ R t=>Option.rec ((evS1 t).1 Γ G R) (fun r=>some (.val r)) (knownT K t)) n
theorem zJT {Γ:TG} {G:TL} {K:Nat->List V->Option V} (hK: ∀g args r,K g args=some r->Den Γ G g args=some r): ∀n,zHr Γ G (ev2 K Γ G n)
 | 0=>fun _ _ h=>by cases h
 | n+1=>by
   intro t o h;have h':(Option.rec ((evS1 t).1 Γ G (ev2 K Γ G n)) (fun r=>some (.val r)) (knownT K t):Option EO)=some o:=h
   cases hk:knownT K t with
   | none=>
     rw[hk]at h';have h2:(evS1 t).1 Γ G (ev2 K Γ G n)=some o:=h';rw[(evS1 t).2]at h2
     exact zH7 (zJT hK n) _ _ h2
   | some r=>
     rw[hk]at h';cases h'
     cases t with
     | pcall g a=>exact zhC.1 (hK g a r hk)
     | _=>cases hk
theorem zNj {Γ:TG} {G:TL} {K:Nat->List V->Option V} (hK: ∀g args r,K g args=some r->Den Γ G g args=some r) (n:Nat) {g:Nat} {args:List V} {r:V} (h:ev2 K Γ G n (.pcall g args)=some (.val r)):Den Γ G g args=some r:=
 zhC.2 (zJT hK n _ _ h)
end Rg
end
section
set_option maxRecDepth 100000
namespace Rg
open Go
mutual
def eqT:T->T->Bool
 | .int k a,.int l b=>decide (k=l)&&decide (a=b)
 | .bool a,.bool b=>decide (a=b)
 | .str a,.str b=>decide (a.data.toList=b.data.toList)
 | .sl a,.sl b=>zNr a b
 | .ip a,.ip b=>eqR a b
 | _,_=>false
def eqR:List T->List T->Bool
 | [],[]=>true
 | x::a,y::b=>eqT x y&&eqR a b
 | _,_=>false
def zNr:List (List T)->List (List T)->Bool
 | [],[]=>true
 | x::a,y::b=>eqR x y&&zNr a b
 | _,_=>false
end
mutual
theorem zMV: ∀{a b:T},eqT a b=true->a=b
 | .int k a,b,h=>by
   cases b<;>simp only[eqT,zF,decide_eq_true_eq,zG]at h
   rw[h.1,h.2]
 | .bool a,b,h=>by
   cases b<;>simp only[eqT,decide_eq_true_eq,zG]at h
   rw[h]
 | .str a,b,h=>by
   cases b<;>simp only[eqT,decide_eq_true_eq,zG]at h
   rename_i b
   have:a=b:=by
    cases a;cases b
    congr
    exact Array.toList_inj.1 h
   rw[this]
 | .sl a,b,h=>by
   cases b<;>simp only[eqT,zG]at h
   rw[zMd h]
 | .nilp,b,h=>by simp[eqT]at h
 | .nils,b,h=>by simp[eqT]at h
 | .nilm,b,h=>by simp[eqT]at h
 | .nilf,b,h=>by simp[eqT]at h
 | .nili,b,h=>by simp[eqT]at h
 | .ip a,b,h=>by
   cases b<;>simp only[eqT,zG]at h
   rw[zKO h]
 | .fn _ _ _,b,h=>by simp[eqT]at h
 | .fa _ _,b,h=>by simp[eqT]at h
 | .opq,b,h=>by simp[eqT]at h
 | .slc _,b,h=>by simp[eqT]at h
theorem zKO: ∀{a b:List T},eqR a b=true->a=b
 | [],[],_=>rfl
 | [],_::_,h=>by simp[eqR]at h
 | _::_,[],h=>by simp[eqR]at h
 | x::a,y::b,h=>by
   simp only[eqR,zF]at h;rw[zMV h.1,zKO h.2]
theorem zMd: ∀{a b:List (List T)},zNr a b=true->a=b
 | [],[],_=>rfl
 | [],_::_,h=>by simp[zNr]at h
 | _::_,[],h=>by simp[zNr]at h
 | x::a,y::b,h=>by
   simp only[zNr,zF]at h;rw[zKO h.1,zMd h.2]
end
def zJV:List V->Option (List T)
 | []=>some []
 | .t x::r=>(zJV r).map (x:: ·)
 | _=>none
theorem zID: ∀{l:List V} {r:List T},zJV l=some r->l=r.map V.t
 | [],r,h=>by cases h;rfl
 | .t x::l,r,h=>by
   simp only[zJV,zE]at h;obtain⟨y,hy,rfl⟩:=h
   rw[zID hy];rfl
 | .ms _ _ _::_,_,h=>by cases h
 | .mp _ _ _::_,_,h=>by cases h
 | .mm _::_,_,h=>by cases h
 | .yl _::_,_,h=>by cases h
 | .ifc _ _::_,_,h=>by cases h
 | .fn _ _ _::_,_,h=>by cases h
 | .agg _::_,_,h=>by cases h
 | .tup _::_,_,h=>by cases h
 | .undef::_,_,h=>by cases h
 | .lb::_,_,h=>by cases h
def eqV:V->V->Bool
 | .t a,.t b=>eqT a b
 | .agg a,.agg b=>match zJV a,zJV b with
   | some x,some y=>eqR x y
   | _,_=>false
 | _,_=>false
theorem zNP {a b:V} (h:eqV a b=true):a=b:=by
 unfold eqV at h;split at h
 ·rw[zMV h]
 ·split at h
  ·rename_i h1 h2;rw[zID h1,zID h2,zKO h]
  ·cases h
 ·cases h
def zNq:List V->List V->Bool
 | [],[]=>true
 | x::a,y::b=>eqV x y&&zNq a b
 | _,_=>false
theorem zMc: ∀{a b:List V},zNq a b=true->a=b
 | [],[],_=>rfl
 | [],_::_,h=>by simp[zNq]at h
 | _::_,[],h=>by simp[zNq]at h
 | x::a,y::b,h=>by
   simp only[zNq,zF]at h;rw[zNP h.1,zMc h.2]
def zPc (l:List (Nat×List V×V)) (g:Nat) (args:List V):Option V:=(l.find? fun e=>e.1==g&&zNq e.2.1 args).map (·.2.2)
theorem zM8 {l:List (Nat×List V×V)} (h: ∀e∈l,Den Γ G e.1 e.2.1=some e.2.2): ∀g args r,zPc l g args=some r->Den Γ G g args=some r:=by
 intro g args r hr;unfold zPc at hr;rw[zE]at hr;obtain⟨e,he,rfl⟩:=hr;have h1:=List.find?_some he;simp only[zF,beq_iff_eq]at h1;rw[<- h1.1,<- zMc h1.2];exact h e (List.mem_of_find?_eq_some he)
end Rg
end
section
set_option maxRecDepth 100000
namespace Rg
open Go
abbrev zHM (k:Int) (nm:List UInt8) (n:Int):Nd:=.mk k (bs nm) (bs []) n 0 0 false [] 0
def hdM (nm call:List UInt8):Nd:=.mk 60 (bs nm) (bs [65,110,110]) 0 0 0 false
 [.mk 51 (bs [114]) (bs []) 0 0 0 false [zHM 52 [97] 3,zHM 52 [98] 2] 0,
  .mk 50 (bs [118]) (bs [114]) 0 2 1 false [] 0,
  .mk 50 (bs [120]) (bs []) 2 0 5 false [] 7,
  .mk 57 (bs [112]) (bs []) 0 0 0 false [zHM 58 [107] 2,.mk 34 (bs []) (bs []) 0 0 0 false [zHM 35 [108] 1,.mk 33 (bs call) (bs []) 0 0 0 false [zHM 1 [] 1] 0] 0] 0] 0
def hdT:Nd:=.mk 61 (bs [116]) (bs [78,46,112]) 1 0 0 false [zHM 1 [] 3] 0
def zIv:Nd:=.mk 62 (bs []) (bs []) 0 0 0 false [hdM [77] [78,46,112],hdM [78] [113],hdT] 0
def zIu:Nd:=.mk 62 (bs []) (bs []) 0 0 0 false [hdM [77] [77,46,112]] 0
def hdV (m:Int) (nm:List UInt8) (w len init:Int):Va:=⟨bs nm,w,len,init,false,m,0⟩
def hdP (m:Int) (call:List UInt8) (calls:List Int):Pr:=⟨bs [112],m,[⟨bs [107],2,0,0,false,m,0⟩],[⟨bs [108],1,0,0,false,m,0⟩],bs [],.mk 34 (bs []) (bs []) 0 0 0 false [zHM 35 [108] 1,.mk 33 (bs call) (bs []) 0 0 0 false [zHM 1 [] 1] 0] 0,calls,0⟩
def zOH (nm:List UInt8):Mo:=⟨bs nm,bs [65,110,110],.noneN,.noneN,[],0⟩
def zOG (m:Int):List Va:=[hdV m [118,46,97] 3 2 1,hdV m [118,46,98] 2 2 1]
def zMG:Ct:=⟨[zOH [77],zOH [78]],zOG 0++zOG 1,[],[hdP 0 [78,46,112] [1],hdP 1 [113] []],[⟨bs [116],1,[3],true,0⟩],[hdM [77] [78,46,112],hdM [78] [113]],[(50,7),(50,7)],
 [(0,bs [114]),(0,bs [118]),(0,bs [112]),(1,bs [114]),(1,bs [118]),(1,bs [112])],[((0,bs [114]),[zHM 52 [97] 3,zHM 52 [98] 2]),((1,bs [114]),[zHM 52 [97] 3,zHM 52 [98] 2])]⟩
def zKn:Ct:={ zMG with procs:=[hdP 0 [78,46,112] [],hdP 1 [113] []] }
theorem zJB (a:Int):sortI [a]=[a]:=by simp[sortI]
theorem zLv:sortI []=[]:=by simp[sortI]
theorem zNe:(Ct.nil.modules zIv).decls.threads zIv=zKn:=by kernel_rfl
theorem zL9:zKn.callsM=zMG:=by
 have h1:zGG zKn.mn zKn.pk (hdP 0 [78,46,112] [])=[1]:=by
  unfold zGG;rw[show(hdP 0 [78,46,112] []).body.flat.foldl (zGy zKn.mn zKn.pk (hdP 0 [78,46,112] []).module) []=[1]by kernel_rfl];exact zJB 1
 have h2:zGG zKn.mn zKn.pk (hdP 1 [113] [])=[]:=by
  unfold zGG;rw[show(hdP 1 [113] []).body.flat.foldl (zGy zKn.mn zKn.pk (hdP 1 [113] []).module) []=[]by kernel_rfl];exact zLv
 have h3:zKn.procs.foldl (zHB zKn.locks) zKn.diags=zKn.diags:=by kernel_rfl
 unfold Ct.callsM;rw[h3,show zKn.procs=[hdP 0 [78,46,112] [],hdP 1 [113] []]from rfl,List.map_cons,List.map_cons,List.map_nil,h1,h2];rfl
theorem zLt {g:List (List Int)} {i j:Nat} (w:Way g i j):g.getD i []≠[]:=by
 cases w with
 | one h=>intro e;rw[e]at h;simp at h
 | cons h t=>intro e;rw[e]at h;simp at h
theorem zNJ: ∀i,reachB [[1],[]] i=false:=fun i=>by
 unfold reachB;simp only[decide_eq_false_iff_not];have h1: ∀j,¬Way [[1],[]] 1 j:=fun j w=>zLt w rfl
 have h2: ∀k j,¬Way [[1],[]] (k+2) j:=fun k j w=>zLt w (by simp)
 intro w
 match i,w with
 | 0,w=>
   cases w with
   | one h=>simp at h
   | cons h t=>
     rename_i j;have:j=1:=by simp at h;omega
     subst this
     exact h1 _ t
 | 1,w=>exact h1 _ w
 | k+2,w=>exact h2 _ _ w
theorem zKp:collectM zIv=zMG:=by
 have hk:zIv.kind=62:=rfl;unfold collectM;rw[if_pos hk,zNe,zL9];have hg:zMG.graph=[[1],[]]:=rfl;unfold Ct.cyclesM
 have : ∀(l:List (Pr×Nat)) (d:List (Int×Int)),l.foldl (cycD zMG.graph) d=d:=fun l=>by
  induction l with
  | nil=>intro d;rfl
  | cons a l ih=>
    intro d;rw[List.foldl_cons,cycD,hg,zNJ];have:=ih d;rw[hg]at this;exact this
 rw[this]
def zMF:Ct:=⟨[zOH [77]],zOG 0,[],[hdP 0 [77,46,112] [0]],[],[hdM [77] [77,46,112]],[(50,7)],[(0,bs [114]),(0,bs [118]),(0,bs [112])],[((0,bs [114]),[zHM 52 [97] 3,zHM 52 [98] 2])]⟩
def zL7:Ct:={ zMF with procs:=[hdP 0 [77,46,112] []] }
theorem zNd:(Ct.nil.modules zIu).decls.threads zIu=zL7:=by kernel_rfl
theorem zL8:zL7.callsM=zMF:=by
 have h1:zGG zL7.mn zL7.pk (hdP 0 [77,46,112] [])=[0]:=by
  unfold zGG;rw[show(hdP 0 [77,46,112] []).body.flat.foldl (zGy zL7.mn zL7.pk (hdP 0 [77,46,112] []).module) []=[0]by kernel_rfl];exact zJB 0
 have h3:zL7.procs.foldl (zHB zL7.locks) zL7.diags=zL7.diags:=by kernel_rfl
 unfold Ct.callsM;rw[h3,show zL7.procs=[hdP 0 [77,46,112] []]from rfl,List.map_cons,List.map_nil,h1];rfl
theorem zKo:collectM zIu= { zMF with diags:=[(50,7),(42,0)] }:=by
 have hk:zIu.kind=62:=rfl;unfold collectM;rw[if_pos hk,zNd,zL8];have hg:zMF.graph=[[0]]:=rfl
 have hb:reachB [[0]] 0=true:=by
  unfold reachB;simp only[decide_eq_true_eq];exact .one (by simp)
 unfold Ct.cyclesM;rw[hg]
 have:zMF.procs.zipIdx.foldl (cycD [[0]]) zMF.diags=[(50,7),(42,0)]:=by
  show cycD [[0]] zMF.diags (hdP 0 [77,46,112] [0],0)=_;unfold cycD;rw[if_pos hb];rfl
 rw[this]
def zPd (e:Nd):Bool:=decide (-9223372036854775808<=e.kind/\e.kind<=9223372036854775807)&&decide (-9223372036854775808<=e.n/\e.n<=9223372036854775807)&&decide (-9223372036854775808<=e.len/\e.len<=9223372036854775807)&&decide (-9223372036854775808<=e.init/\e.init<=9223372036854775807)&&decide (-9223372036854775808<=e.pos/\e.pos<=9223372036854775807)&&decide (e.name.size<=1048576)&&decide (e.other.size<=1048576)&&decide (e.kids.length<=1048576)
theorem zLA (t:Nd) (h:t.flat.all zPd=true):t.sane:=fun x hx=>by
 have:=List.all_eq_true.1 h x hx;simp only[zPd,zF,decide_eq_true_eq]at this;obtain⟨⟨⟨⟨⟨⟨⟨a,b⟩,c⟩,d⟩,e⟩,f⟩,g⟩,k⟩:=this;exact⟨a,b,c,d,e,f,g,k⟩
theorem zKv:Den Γ G 595 [(.agg [.t (ti (zIv).kind),.t (.str (zIv).name),.t (.str (zIv).other),.t (ti (zIv).n),.t (ti (zIv).len),.t (ti (zIv).init),.t (tb (zIv).ghost),.t (.sl ((zIv).kids.map Nd.enc)),.t (ti (zIv).pos)])]=some (.tup [zKE zMG,.t (.sl [[ti 50,ti 7],[ti 50,ti 7]])]):=by
 have:=zHi zIv (by decide) (zLA _ (by kernel_rfl));rw[zKp]at this;exact this
theorem zKu:Den Γ G 595 [(.agg [.t (ti (zIu).kind),.t (.str (zIu).name),.t (.str (zIu).other),.t (ti (zIu).n),.t (ti (zIu).len),.t (ti (zIu).init),.t (tb (zIu).ghost),.t (.sl ((zIu).kids.map Nd.enc)),.t (ti (zIu).pos)])]=some (.tup [zKE zMF,.t (.sl [[ti 50,ti 7],[ti 42,ti 0]])]):=by
 have:=zHi zIu (by decide) (zLA _ (by kernel_rfl));rw[zKo]at this;exact this
theorem zMB:Den Γ G 600 [zKE zMG]=some (.tup [.t (.sl [[ti 1],[ti 0]]),vi 0]):=zNQ 3000 (by kernel_rfl)
def h04:List (Nat×List V×V):=[(595,[(.agg [.t (ti (zIv).kind),.t (.str (zIv).name),.t (.str (zIv).other),.t (ti (zIv).n),.t (ti (zIv).len),.t (ti (zIv).init),.t (tb (zIv).ghost),.t (.sl ((zIv).kids.map Nd.enc)),.t (ti (zIv).pos)])],.tup [zKE zMG,.t (.sl [[ti 50,ti 7],[ti 50,ti 7]])]),(595,[(.agg [.t (ti (zIu).kind),.t (.str (zIu).name),.t (.str (zIu).other),.t (ti (zIu).n),.t (ti (zIu).len),.t (ti (zIu).init),.t (tb (zIu).ghost),.t (.sl ((zIu).kids.map Nd.enc)),.t (ti (zIu).pos)])],.tup [zKE zMF,.t (.sl [[ti 50,ti 7],[ti 42,ti 0]])]),(600,[zKE zMG],.tup [.t (.sl [[ti 1],[ti 0]]),vi 0])]
theorem zLg:Den Γ G 593 []=some (vb true):=by
 refine zNj (zM8 (l:=h04) ?_) 3000 (by kernel_rfl);simp only[h04,List.mem_cons,List.not_mem_nil,or_false];rintro e (rfl | rfl | rfl)
 ·exact zKv
 ·exact zKu
 ·exact zMB
end Rg
end
section
namespace Rg
open Go
def zGI (L:Int) (f:Nd->Int->Int) (s:Int) (k:Nd):Int:=if s<=L then s+f k (L-s)else s
def zGD:Nat->Nd->Int->Int
 | 0,_,L=>L+1
 | d+1,n,L=>if(n.kids.length:Int)>L then L+1 else n.kids.foldl (zGI L (zGD d)) 1
theorem zH0 {f:Nd->Int->Int} {L:Int} (hf: ∀k l,0<=l->1<=f k l/\f k l<=l+1): ∀(l:List Nd) (s:Int),1<=s->s<=L+1->1<=l.foldl (zGI L f) s/\l.foldl (zGI L f) s<=L+1/\s<=l.foldl (zGI L f) s
 | [],s,h1,h2=>⟨h1,h2,Int.le_refl _⟩
 | a::l,s,h1,h2=>by
   rw[List.foldl_cons];have Fe:zGI L f s a=if s<=L then s+f a (L-s)else s:=rfl
   rw[Fe]
   by_cases h:s<=L
   ·rw[if_pos h];have:=hf a (L-s) (by omega);obtain⟨z1,z2,z3⟩:=zH0 (L:=L) hf l (s+f a (L-s)) (by omega) (by omega);exact⟨z1,z2,by omega⟩
   ·rw[if_neg h];exact zH0 (L:=L) hf l s h1 h2
theorem zHe: ∀(d:Nat) (n:Nd) (L:Int),0<=L->1<=zGD d n L/\zGD d n L<=L+1
 | 0,n,L,h=>by unfold zGD;omega
 | d+1,n,L,h=>by
   unfold zGD;split
   ·omega
   ·obtain⟨z1,z2,_⟩:=zH0 (L:=L) (fun k l hl=>zHe d k l hl) n.kids 1 (by omega) (by omega);exact⟨z1,z2⟩
theorem zI8: ∀(d:Nat) (n:Nd) (L:Int),0<=L->zGD d n L<=L->(n.size:Int)=zGD d n L
 | 0,n,L,h,h2=>by unfold zGD at h2;omega
 | d+1,n,L,h,h2=>by
   unfold zGD at h2⊢;split at h2
   ·omega
   rename_i hk;rw[if_neg hk]
   have key: ∀(l:List Nd) (s:Int),1<=s->s<=L+1->l.foldl (zGI L (zGD d)) s<=L->l.foldl (zGI L (zGD d)) s=s+((l.map Nd.size).sum:Nat):=fun l=>by
    induction l with
    | nil=>intro s _ _ _;simp
    | cons a l ih=>
      intro s s1 s2 A5;rw[List.foldl_cons]at A5⊢;have Fe:zGI L (zGD d) s a=if s<=L then s+zGD d a (L-s)else s:=rfl
      by_cases hs:s<=L
      ·rw[Fe,if_pos hs]at A5⊢;have hr:=zHe d a (L-s) (by omega);have hm:=(zH0 (L:=L) (fun k l hl=>zHe d k l hl) l (s+zGD d a (L-s)) (by omega) (by omega)).2.2;have hc:=zI8 d a (L-s) (by omega) (by omega);rw[ih _ (by omega) (by omega) A5];simp only[List.map_cons,List.sum_cons];omega
      ·rw[Fe,if_neg hs]at A5⊢;have hm:=(zH0 (L:=L) (fun k l hl=>zHe d k l hl) l s (by omega) (by omega)).2.2;omega
   rw[key n.kids 1 (by omega) (by omega) h2,Nd.size_eq];omega
theorem zMf: ∀(d:Nat) (n:Nd) (L:Int),n.sane->0<=L->L<=400->d<=60->Den Γ G 606 [(.agg [.t (ti (n).kind),.t (.str (n).name),.t (.str (n).other),.t (ti (n).n),.t (ti (n).len),.t (ti (n).init),.t (tb (n).ghost),.t (.sl ((n).kids.map Nd.enc)),.t (ti (n).pos)]),vi L,vi d]=some (vi (zGD d n L)):=by
 intro d
 induction d with
 | zero=>
   intro n L hs h1 h2 _;have hw:IntKind.i64.wrap (L+1)=L+1:=by simp[IntKind.wrap,IntKind.signed,IntKind.bits];omega
   (refine zag Γ606 rfl ?_;dsimp only[zNO])
   simp -dsimp -implicitDefEqProofs only[go_sem,seval,hw]
   try rfl
 | succ d ih=>
   intro n L hs h1 h2 hd;have hw:IntKind.i64.wrap (L+1)=L+1:=by simp[IntKind.wrap,IntKind.signed,IntKind.bits];omega
   have e0:(((d+1:Nat):Int)=0)=False:=eq_false (by omega);have Mw:=hs.self.kids;have Mn: ∀z:Int,-1000<=z->z<=2000000->IntKind.i64.wrap z=z:=fun z _ _=>by simp[IntKind.wrap,IntKind.signed,IntKind.bits];omega
   (refine zag Γ606 rfl ?_;dsimp only[zNO])
   by_cases c1:(n.kids.length:Int)>L
   ·have c1':=eq_true c1;have hm:zGD (d+1) n L=L+1:=by rw[zGD,if_pos c1]
    rw[hm];simp -dsimp -implicitDefEqProofs only[go_sem,seval,e0,c1',hw]
    try rfl
   have c1':=eq_false c1;have hm:zGD (d+1) n L=n.kids.foldl (zGI L (zGD d)) 1:=by rw[zGD,if_neg c1]
   rw[hm];simp -dsimp -implicitDefEqProofs only[go_sem,seval,e0,c1'];refine zaT 35184371040640 n.kids.length (fun i f=>(f 8).v=vi i/\(f 7).v=vi ((n.kids.take i).foldl (zGI L (zGD d)) 1)) rfl rfl ⟨by simp -dsimp -implicitDefEqProofs only[go_sem,seval],by simp -dsimp -implicitDefEqProofs only[go_sem,seval];try rfl⟩ ?_;rintro i f u x bb hi ⟨g8,g7⟩;have hr:=zH0 (L:=L) (fun k l hl=>zHe d k l hl) (n.kids.take i) 1 (by omega) (by omega)
   generalize hS:(n.kids.take i).foldl (zGI L (zGD d)) 1=S at *
   by_cases AV:i<n.kids.length
   rotate_left
   ·have e1:((i:Int)<(n.kids.length:Int))=False:=eq_false (by omega);have:i=n.kids.length:=by omega
    subst this;rw[List.take_length]at hS;simp -dsimp -implicitDefEqProofs only[go_sem,seval,g8,g7,e1];rw[hS];try rfl
   have e1:((i:Int)<(n.kids.length:Int))=True:=eq_true (by omega);obtain⟨a,ha,Cp⟩:=zai AV
   by_cases c2:S<=L
   rotate_left
   ·have c2':=eq_false c2
    have CP:n.kids.foldl (zGI L (zGD d)) 1=S:=by
     have h3:n.kids.foldl (zGI L (zGD d)) 1=(n.kids.drop i).foldl (zGI L (zGD d)) S:=by
      rw[<- hS,<- List.foldl_append,List.take_append_drop]
     rw[h3]
     generalize n.kids.drop i=l
     induction l with
     | nil=>rfl
     | cons b l ihl=>rw[List.foldl_cons,zGI,if_neg c2];exact ihl
    simp -dsimp -implicitDefEqProofs only[go_sem,seval,g8,g7,e1,c2'];rw[CP];try rfl
   have c2':=eq_true c2;have Bj:(n.kids.map Nd.enc)[i]? =some a.enc:=by rw[zJ,ha];rfl
   have w1:=Mn (L-S) (by omega) (by omega);have w2:IntKind.i64.wrap (((d+1:Nat):Int)-1)=(d:Int):=by rw[Mn _ (by omega) (by omega)];omega
   have Da:=ih a (L-S) (hs.kid Cp) (by omega) (by omega) (by omega);have Gc:=zHe d a (L-S) (by omega);have w3:=Mn (S+zGD d a (L-S)) (by omega) (by omega);have w4:=zan i (by omega);simp -dsimp -implicitDefEqProofs only[go_sem,seval,g8,g7,e1,c2',Bj,Nd.enc_eq,w1,w2,Da,w3,w4];refine⟨AV,by simp -dsimp -implicitDefEqProofs only[go_sem,seval],?_⟩;simp -dsimp -implicitDefEqProofs only[go_sem,seval];rw[zaf ha,List.foldl_append,hS,List.foldl_cons,List.foldl_nil,zGI,if_pos c2]
theorem zNL (n:Nd) (hs:n.sane):Den Γ G 594 [(.agg [.t (ti (n).kind),.t (.str (n).name),.t (.str (n).other),.t (ti (n).n),.t (ti (n).len),.t (ti (n).init),.t (tb (n).ghost),.t (.sl ((n).kids.map Nd.enc)),.t (ti (n).pos)]),vi 400]=some (vb (decide (zGD 60 n 400<=400))):=by
 have h:Den Γ G 606 [(.agg [.t (ti (n).kind),.t (.str (n).name),.t (.str (n).other),.t (ti (n).n),.t (ti (n).len),.t (ti (n).init),.t (tb (n).ghost),.t (.sl ((n).kids.map Nd.enc)),.t (ti (n).pos)]),vi 400,vi 60]=some (vi (zGD 60 n 400)):=zMf 60 n 400 hs (by omega) (by omega) (by omega)
 (refine zag Γ594 rfl ?_;dsimp only[zOv])
 simp -dsimp -implicitDefEqProofs only[go_sem,seval,h]
 try rfl
theorem zMK {n:Nd} (h:zGD 60 n 400<=400):n.size<=400:=by
 have:=zI8 60 n 400 (by omega) h;omega
namespace Nd
mutual
def bare:Nd->Nd
 | .mk a b c d e f g k _=> .mk a b c d e f g (zMQ k) 0
def zMQ:List Nd->List Nd
 | []=>[]
 | e::r=>bare e::zMQ r
end
end Nd
abbrev w64 (n:Int):Int:=IntKind.i64.wrap n
namespace Nd
mutual
def zQR:Nd->Int->Nd
 | .mk a b c d e f g k p,z=> .mk a b c d e f g (zQO k z 0) (w64 (p+z))
def zQO:List Nd->Int->Nat->List Nd
 | [],_,_=>[]
 | e::r,z,i=>zQR e (w64 (w64 (z*3)+(i:Nat)))::zQO r z (i+1)
end
end Nd
structure Mo.ok (m:Mo):Prop where
 r:m.rely.sane
 g:m.guar.sane
 f:m.frame.length<2^30/\ ∀k∈m.frame,k.sane
structure Pr.ok (q:Pr):Prop where
 p:q.params.length<2^31
 l:q.locals.length<2^31
 c:q.calls.length<2^30
 b:q.body.sane
structure Ct.okS (ct:Ct):Prop where
 m:ct.mods.length<2^30/\ ∀m∈ct.mods,m.ok
 v:ct.vars.length<2^31
 l:ct.locks.length<2^30/\ ∀l∈ct.locks,l.inv.sane
 p:ct.procs.length<2^30/\ ∀p∈ct.procs,p.ok
 t:ct.thrs.length<2^30/\ ∀t∈ct.thrs,t.args.length<2^30
def Va.bare (v:Va):Va:={ v with pos:=0 }
def Mo.bare (m:Mo):Mo:=⟨m.name,m.owner,m.rely.bare,m.guar.bare,m.frame.map Nd.bare,0⟩
def Lk.bare (l:Lk):Lk:=⟨l.name,l.module,l.inv.bare,0⟩
def Pr.bare (p:Pr):Pr:=⟨p.name,p.module,p.params.map Va.bare,p.locals.map Va.bare,p.locked,p.body.bare,p.calls,0⟩
def Th.bare (t:Th):Th:={ t with pos:=0 }
def Ct.bare (c:Ct):Ct:=⟨c.mods.map Mo.bare,c.vars.map Va.bare,c.locks.map Lk.bare,c.procs.map Pr.bare,c.thrs.map Th.bare,c.bodies.map Nd.bare,c.diags.map fun d=>(d.1,0),c.names,c.recs.map fun r=>(r.1,r.2.map Nd.bare)⟩
def MoS.bare (s:MoS):MoS:=⟨s.ct.bare,s.found,s.m.bare⟩
def AddS.bare (s:AddS):AddS:=⟨s.ct.bare,s.known,s.vs.map Va.bare⟩
theorem zHU:Nd.noneN.sane:=fun x hx=>by
 have:x= .noneN:=by simpa[Nd.noneN,Nd.flat_eq,Nd.kids]using hx
 subst this;refine⟨?_,?_,?_,?_,?_,Nat.zero_le _,Nat.zero_le _,Nat.zero_le _⟩<;>simp[Nd.noneN,Nd.kind,Nd.n,Nd.len,Nd.init,Nd.pos]
theorem zHD {t:Nd} (h:t.sane):(zGC t).sane:=by
 unfold zGC
 cases hk:t.kids with
 | nil=>exact zHU
 | cons a l=>exact h.kid (by rw[hk];simp)
structure Mo.okM (m:Mo) (i:Nat):Prop where
 r:m.rely.sane
 g:m.guar.sane
 f: ∀k∈m.frame,k.sane
 l:m.frame.length<=900*i
theorem zI1: ∀(l:List Nd) (st:MoS) (i:Nat),(∀a∈l,a.sane/\a.size<900)->st.m.okM i->(l.foldl zGw st).m.okM (i+l.length)
 | [],st,i,_,h=>h
 | a::l,st,i,hs,h=>by
   have hk:=zGM a;have hl:(zGo a 2).length<=a.kids.length:=List.length_filter_le _ _;obtain⟨h1,h2⟩:=hs a (by simp)
   have AE:(zGw st a).m.okM (i+1):=by
    have h0:st.m.okM (i+1):=⟨h.r,h.g,h.f,by have:=h.l;omega⟩
    unfold zGw;split
    ·split
     ·exact h0
     ·split
      ·exact⟨zHD h1,h0.g,h0.f,h0.l⟩
      ·split
       ·exact⟨h0.r,zHD h1,h0.f,h0.l⟩
       ·refine⟨h0.r,h0.g,fun k hk=> ?_,by have:=h.l;simp only[zM];omega⟩;rcases List.mem_append.1 hk with hk | hk
        ·exact h.f k hk
        ·exact h1.kid (List.mem_filter.1 hk).1
    ·exact h0
   have:=zI1 l (zGw st a) (i+1) (fun b hb=>hs b (by simp[hb])) AE;rw[List.foldl_cons,List.length_cons,show i+(l.length+1)=i+1+l.length by omega];exact this
theorem zLP (ct:Ct) (n:Nd) (hs:n.sane) (hz:n.size<900):(ct.module n).m.ok:=by
 have h:=zI1 n.kids ⟨ct,[],⟨n.name,n.other,.noneN,.noneN,[],n.pos⟩⟩ 0 (fun a ha=>⟨hs.kid ha,by have:=Nd.size_kid ha;omega⟩) ⟨zHU,zHU,by simp,by simp⟩;have hk:=zGM n;exact⟨h.r,h.g,by have:=h.l;show(ct.module n).m.frame.length<2^30;unfold Ct.module;omega,h.f⟩
theorem zIr: ∀(l:List Nd) (st:Ct×List ByteArray),(∀a∈l,a.sane/\a.size<900)->(∀m∈st.1.mods,m.ok)-> ∀m∈(l.foldl zGu st).1.mods,m.ok
 | [],st,_,h=>h
 | a::l,st,hs,h=>by
   refine zIr l _ (fun b hb=>hs b (by simp[hb])) ?_;have rp: ∀(c:Ct) (e p:Int),(c.report e p).mods=c.mods:=fun c e p=>by unfold Ct.report;split<;>rfl
   unfold zGu;split
   ·rw[rp];exact h
   ·split
    ·rw[rp];exact h
    ·obtain⟨d,hd⟩:=zHI { st.1 with bodies:=st.1.bodies++[a] } a;intro m hm;simp only[hd,List.mem_append,List.mem_singleton]at hm;rcases hm with hm | rfl
     ·exact h m hm
     ·exact zLP _ a (hs a (by simp)).1 (hs a (by simp)).2
theorem zIS (m:Int) (ct:Ct) (a:Nd):(zGl m ct a).locks=ct.locks\/(zGl m ct a).locks=ct.locks++[⟨a.name,m,zGC a,a.pos⟩]:=by
 have rp: ∀(c:Ct) (e p:Int),(c.report e p).locks=c.locks:=fun c e p=>by unfold Ct.report;split<;>rfl
 unfold zGl;split
 rotate_left
 ·exact .inl rfl
 split
 ·exact .inl (rp _ _ _)
 split
 ·obtain⟨d,hd⟩:=zG0 (zGo a 52) (ct,[]);have hf:(ct.fields a).1= { ct with diags:=d }:=hd;exact .inl (by simp[Ct.addName,hf])
 split
 ·have h1:(ct.shared m a).1.locks=ct.locks:=by
   have fin: ∀vs:List Va,(ct.sharedFin a vs).1.locks=ct.locks:=fun vs=>by
    unfold Ct.sharedFin;split
    ·rfl
    ·exact rp _ _ _
   unfold Ct.shared;split
   ·exact rp _ _ _
   ·split
    ·split
     ·exact fin _
     ·exact rp _ _ _
    ·split
     ·exact rp _ _ _
     ·exact fin _
  left;split
  ·exact h1
  ·exact h1
 split
 ·have h1:(ct.lock m a).1.locks=ct.locks\/(ct.lock m a).1.locks=ct.locks++[⟨a.name,m,zGC a,a.pos⟩]:=by
   unfold Ct.lock;split
   ·exact .inl (rp _ _ _)
   ·exact .inr rfl
  split
  ·exact h1
  ·exact h1
 ·obtain⟨d,hd⟩:=zJj ct m a;exact .inl (by simp[Ct.addName,hd])
structure DcS (ct:Ct):Prop where
 l: ∀l∈ct.locks,l.inv.sane
 p: ∀p∈ct.procs,p.locals.length<900
theorem DcS.step {ct:Ct} (h:DcS ct) (m:Int) (a:Nd) (hs:a.sane) (hz:a.size<900):DcS (zGl m ct a):=by
 refine⟨?_,?_⟩
 ·rcases zIS m ct a with e | e
  ·rw[e];exact h.l
  ·rw[e];intro l hl;rcases List.mem_append.1 hl with hl | hl
   ·exact h.l l hl
   ·rw[List.mem_singleton]at hl;subst hl;exact zHD hs
 ·rcases zHy m ct a with e | e
  ·rw[e];exact h.p
  ·rw[e];intro p hp;rcases List.mem_append.1 hp with hp | hp
   ·exact h.p p hp
   ·rw[List.mem_singleton]at hp;subst hp;obtain⟨_,h2⟩:=zIK m ((zGj a 34).flat.filter fun a=>decide (a.kind=35)) { zGp ct m a with vs:=[] } (by simp);obtain⟨h5,_,_⟩:=zI6 (k:=34) hs hz;have h3:=List.length_filter_le (fun a:Nd=>decide (a.kind=35)) (zGj a 34).flat;rw[Nd.flat_len]at h3;simp only[List.length_nil,Nat.zero_add]at h2;exact Nat.lt_of_le_of_lt (show(zGr ct m a).vs.length<=_ from h2) (by omega)
theorem DcS.fold (m:Int): ∀(l:List Nd) {ct:Ct},DcS ct->(∀a∈l,a.sane/\a.size<900)->DcS (l.foldl (zGl m) ct)
 | [],ct,h,_=>h
 | a::l,ct,h,hs=>DcS.fold m l (h.step m a (hs a (by simp)).1 (hs a (by simp)).2) fun b hb=>hs b (by simp[hb])
theorem zKW {st:Ct×List ByteArray} {a:Nd} (ha:a.kids.length<2^30) (h:st.1.thrs.length<=4/\ ∀t∈st.1.thrs,t.args.length<2^30):(zGx st a).1.thrs.length<=4/\ ∀t∈(zGx st a).1.thrs,t.args.length<2^30:=by
 have rp: ∀(c:Ct) (e p:Int),(c.report e p).thrs=c.thrs:=fun c e p=>by unfold Ct.report;split<;>rfl
 unfold zGx;split
 ·rw[rp];exact h
 split
 ·rw[rp];exact h
 rename_i h4;split
 ·rw[rp];exact h
 split
 ·exact h
 split
 ·rw[rp];exact h
 split
 ·rw[rp];exact h
 ·refine⟨by simp only[zM,List.length_singleton];omega,fun t ht=> ?_⟩;rcases List.mem_append.1 ht with ht | ht
  ·exact h.2 t ht
  ·rw[List.mem_singleton]at ht;subst ht;simpa using ha
theorem zIV: ∀(l:List Nd) (st:Ct×List ByteArray),(∀a∈l,a.kids.length<2^30)->(st.1.thrs.length<=4/\ ∀t∈st.1.thrs,t.args.length<2^30)->(l.foldl zGx st).1.thrs.length<=4/\ ∀t∈(l.foldl zGx st).1.thrs,t.args.length<2^30
 | [],st,_,h=>h
 | a::l,st,hs,h=>zIV l _ (fun b hb=>hs b (by simp[hb])) (zKW (hs a (by simp)) h)
theorem zML {t:Nd} (hz:t.size<900) (hs:t.sane): ∃M,M=Ct.nil.modules t/\DcI M M.decls 900/\DcS M.decls/\M.mods.length<=6/\(∀m∈M.mods,m.ok)/\M.thrs=[]/\M.procs=[]/\M.locks=[]/\M.vars=[]:=by
 obtain⟨dM,bM,mM,hM,D5,VJ,Ue⟩:=zI0 t;have Fu: ∀b∈bM,b∈t.kids:=fun b hb=>D5.subset hb
 have IY:(bM.map fun b=>b.kids.length).sum<900:=by
  have h1:=zJ6 (fun b:Nd=>b.kids.length) D5;have h2:=zKG t.kids;have h3:=Nd.size_eq t;omega
 refine⟨_,rfl,?_⟩;have Jv: ∀m∈(Ct.nil.modules t).mods,m.ok:=zIr (zGo t 60) (Ct.nil,[]) (fun a ha=>⟨hs.kid (List.mem_filter.1 ha).1,by have:=Nd.size_kid (List.mem_filter.1 ha).1;omega⟩) (by simp[Ct.nil]);rw[hM]at Jv⊢;obtain⟨M,Su⟩: ∃M,M=({ Ct.nil with diags:=dM,bodies:=bM,mods:=mM }:Ct):=⟨_,rfl⟩
 rw[<- Su]at Jv⊢;have Tm:M.bodies=bM:=by rw[Su]
 have Ti:DcI M M 0:=by
  refine⟨⟨⟨?_,?_⟩,?_,?_,?_,?_⟩,rfl,rfl,rfl,?_⟩<;>simp[Su,Ct.nil]
 have Sv:DcS M:=⟨by simp[Su,Ct.nil],by simp[Su,Ct.nil]⟩
 have key: ∀(l:List (Nd×Nat)) (c:Ct) (D:Nat),(∀q∈l,q.1∈t.kids)->DcI M c D->DcS c-> ∃c',c'=l.foldl (fun c q=>q.1.kids.foldl (zGl (q.2:Nat)) c) c/\DcI M c' (D+(l.map fun q=>q.1.kids.length).sum)/\DcS c':=fun l=>by
  induction l with
  | nil=>intro c D _ h1 h2;exact⟨c,rfl,h1,h2⟩
  | cons q l ih=>
    intro c D hq h1 h2;have Nn:=hq q (by simp);have Tn:=hs.kid Nn;have Vy:=Nd.size_kid Nn;have hh: ∀a∈q.1.kids,a.sane/\a.size<900:=fun a ha=>⟨Tn.kid ha,by have:=Nd.size_kid ha;omega⟩
    obtain⟨c',e,h3,h4⟩:=ih _ _ (fun b hb=>hq b (by simp[hb])) (h1.fold (q.2:Nat) q.1.kids hh) (h2.fold (q.2:Nat) q.1.kids hh);refine⟨c',e,?_,h4⟩;rw[List.map_cons,List.sum_cons,<- Nat.add_assoc];exact h3
 have UI: ∀q∈M.bodies.zipIdx,q.1∈t.kids:=fun q hq=>Fu _ (by rw[<- Tm];exact List.fst_mem_of_mem_zipIdx hq)
 obtain⟨c',e,h1,h2⟩:=key M.bodies.zipIdx M 0 UI Ti Sv;have IB:M.decls=c':=e.symm
 have AS:(M.bodies.zipIdx.map fun q=>q.1.kids.length).sum=(bM.map fun b=>b.kids.length).sum:=by
  rw[Tm,show(fun q:Nd×Nat=>q.1.kids.length)=(fun b:Nd=>b.kids.length)∘Prod.fst from rfl,<- List.map_map,List.zipIdx_map_fst]
 rw[AS]at h1;rw[IB];refine⟨⟨⟨h1.ok.ok,h1.ok.rn,?_,?_,?_⟩,h1.mo,h1.th,h1.bo,h1.pr⟩,h2,by rw[Su];exact Ue,Jv,by rw[Su];rfl,by rw[Su];rfl,by rw[Su];rfl,by rw[Su];rfl⟩
 ·exact Nat.le_trans h1.ok.vl (Nat.mul_le_mul_right _ (by omega))
 ·have:=h1.ok.ll;omega
 ·have:=h1.ok.pl;omega
theorem zIC {t:Nd} (hz:t.size<900) (hs:t.sane):(collectM t).okS:=by
 unfold collectM;split
 rotate_left
 ·refine⟨?_,?_,?_,?_,?_⟩<;>simp[Ct.nil]
 obtain⟨M,hM,hd,Sr,h6,Li,BG,_,_,_⟩:=zML hz hs;rw[<- hM];obtain⟨dT,thT,hT⟩:=zHs (zGo t 61) (M.decls,[]);have SV:M.decls.threads t= { M.decls with diags:=dT,thrs:=thT }:=hT
 have Dv:=zIV (zGo t 61) (M.decls,[]) (fun a ha=>by
  have h1:=Nd.size_kid (List.mem_filter.1 ha).1;have h2:=zGM a
  omega) (by rw[show(M.decls,([]:List ByteArray)).1.thrs=[]from hd.th.trans BG];simp)
 have MW:(M.decls.threads t).thrs.length<=4/\ ∀x∈(M.decls.threads t).thrs,x.args.length<2^30:=Dv;have Up:(M.decls.threads t).mods=M.mods:=by rw[SV];exact hd.mo
 have SG:(M.decls.threads t).procs=M.decls.procs:=by rw[SV]
 have Uq:(M.decls.threads t).locks=M.decls.locks:=by rw[SV]
 have Vq:(M.decls.threads t).vars=M.decls.vars:=by rw[SV]
 refine⟨?_,?_,?_,?_,?_⟩
 ·show(M.decls.threads t).mods.length<2^30/\ ∀m∈(M.decls.threads t).mods,m.ok;rw[Up];exact⟨by omega,Li⟩
 ·show(M.decls.threads t).vars.length<2^31;rw[Vq];exact Nat.lt_of_le_of_lt hd.ok.vl (by decide)
 ·show(M.decls.threads t).locks.length<2^30/\ ∀l∈(M.decls.threads t).locks,l.inv.sane;rw[Uq];exact⟨by have:=hd.ok.ll;omega,Sr.l⟩
 ·show(M.decls.threads t).callsM.procs.length<2^30/\ ∀p∈(M.decls.threads t).callsM.procs,p.ok;have BL:(M.decls.threads t).callsM.procs.length=M.decls.procs.length:=by simp[Ct.callsM,SG]
  refine⟨by rw[BL];have:=hd.ok.pl;omega,fun p hp=> ?_⟩;have Tj:(M.decls.threads t).callsM.cok:=zI9 fun p hp=>(hd.pr p (by rw[<- SG];exact hp)).s.1
  have hc:=(Tj p hp).1;obtain⟨q,hq,rfl⟩:=List.mem_map.1 hp;rw[SG]at hq;have h1:=hd.pr q hq;have h2:=Sr.p q hq;exact⟨by have:=h1.l;show q.params.length<2^31;omega,by show q.locals.length<2^31;omega,hc,h1.s.2⟩
 ·show(M.decls.threads t).thrs.length<2^30/\ ∀x∈(M.decls.threads t).thrs,x.args.length<2^30;exact⟨by have:=MW.1;omega,MW.2⟩
theorem zGV {σ α:Type} {f:σ->α->σ} {P:σ->Prop} (h: ∀s a,P s->P (f s a)): ∀(l:List α) (s:σ),P s->P (l.foldl f s)
 | [],s,hs=>hs
 | a::l,s,hs=>zGV h l _ (h s a hs)
theorem zJ8 {d:List (Int×Int)} (h:d.length<=20) (e p:Int):(zJx d e p).length<=20:=by
 unfold zJx;split
 ·simp;omega
 ·exact h
theorem zGB {c:Ct} (h:c.diags.length<=20) (e p:Int):(c.report e p).diags.length<=20:=by
 rw[zHF];exact zJ8 h e p
theorem zLR {c:Ct} (h:c.diags.length<=20) (n:Nd):(c.module n).ct.diags.length<=20:=by
 unfold Ct.module;refine zGV (P:=fun s:MoS=>s.ct.diags.length<=20) (fun s a hs=> ?_) _ _ h;unfold zGw;split
 ·split
  ·exact zGB hs _ _
  ·split
   ·exact hs
   ·split<;>exact hs
 ·exact hs
theorem zK9 {c:Ct} (h:c.diags.length<=20) (t:Nd):(c.modules t).diags.length<=20:=by
 unfold Ct.modules;refine zGV (P:=fun s:Ct×List ByteArray=>s.1.diags.length<=20) (fun s a hs=> ?_) _ _ h;unfold zGu;split
 ·exact zGB hs _ _
 ·split
  ·exact zGB hs _ _
  ·exact zLR (c:={ s.1 with bodies:=s.1.bodies++[a] }) hs a
theorem zMb {c:Ct} (h:c.diags.length<=20) (n:Nd):(c.fields n).1.diags.length<=20:=by
 unfold Ct.fields;refine zGV (P:=fun s:Ct×List Nd=>s.1.diags.length<=20) (fun s a hs=> ?_) _ _ h;unfold zGm;split
 ·exact zGB hs _ _
 ·split
  ·exact hs
  ·exact zGB hs _ _
theorem zLz {c:Ct} (h:c.diags.length<=20) (m:Int) (n:Nd):(c.shared m n).1.diags.length<=20:=by
 have fin: ∀vs:List Va,(c.sharedFin n vs).1.diags.length<=20:=fun vs=>by
  unfold Ct.sharedFin;split
  ·exact h
  ·exact zGB h _ _
 unfold Ct.shared;split
 ·exact zGB h _ _
 ·split
  ·split
   ·exact fin _
   ·exact zGB h _ _
  ·split
   ·exact zGB h _ _
   ·exact fin _
theorem zNc {c:Ct} (h:c.diags.length<=20) (m:Int) (n:Nd):(c.lock m n).1.diags.length<=20:=by
 unfold Ct.lock;split
 ·exact zGB h _ _
 ·exact h
theorem zJb (m:Int) (l:List Nd) (s:AddS) (h:s.ct.diags.length<=20):(l.foldl (zGn m) s).ct.diags.length<=20:=by
 refine zGV (P:=fun s:AddS=>s.ct.diags.length<=20) (fun s a hs=> ?_) _ _ h;unfold zGn;split
 ·exact zGB hs _ _
 ·split
  ·exact hs
  ·exact zGB hs _ _
theorem zM7 {c:Ct} (h:c.diags.length<=20) (m:Int) (n:Nd):(c.proc m n).diags.length<=20:=by
 unfold Ct.proc zGr;exact zJb m _ _ (show(zGp c m n).ct.diags.length<=20 from zJb m _ _ h)
theorem zKt {c:Ct} (h:c.diags.length<=20) (m:Int) (n:Nd):(zGl m c n).diags.length<=20:=by
 unfold zGl;split
 ·split
  ·exact zGB h _ _
  ·split
   ·exact zMb h n
   ·split
    ·split<;>exact zLz h m n
    ·split
     ·split<;>exact zNc h m n
     ·exact zM7 h m n
 ·exact h
theorem zMM {c:Ct} (h:c.diags.length<=20):c.decls.diags.length<=20:=by
 unfold Ct.decls;exact zGV (P:=fun c:Ct=>c.diags.length<=20) (fun c q hc=>zGV (P:=fun c:Ct=>c.diags.length<=20) (fun c a hc=>zKt hc _ a) _ _ hc) _ _ h
theorem zKV {c:Ct} (h:c.diags.length<=20) (t:Nd):(c.threads t).diags.length<=20:=by
 unfold Ct.threads;refine zGV (P:=fun s:Ct×List ByteArray=>s.1.diags.length<=20) (fun s a hs=> ?_) _ _ h;unfold zGx;split
 ·exact zGB hs _ _
 split
 ·exact zGB hs _ _
 split
 ·exact zGB hs _ _
 split
 ·exact hs
 split
 ·exact zGB hs _ _
 split
 ·exact zGB hs _ _
 ·exact hs
theorem zLn (t:Nd):(collectM t).diags.length<=20:=by
 unfold collectM;split
 rotate_left
 ·simp[Ct.nil]
 ·have h1:=zKV (zMM (zK9 (c:=.nil) (by simp[Ct.nil]) t)) t
  have h2:((Ct.nil.modules t).decls.threads t).callsM.diags.length<=20:=zGV (P:=fun d:List (Int×Int)=>d.length<=20) (fun d p hd=>by
   unfold zHB;split
   ·exact zJ8 hd _ _
   ·exact hd) _ _ h1
  exact zGV (P:=fun d:List (Int×Int)=>d.length<=20) (fun d p hd=>by
   unfold cycD;split
   ·exact zJ8 hd _ _
   ·exact hd) _ _ h2
abbrev num (z:Int):List UInt8:=Go.Lib.itoa z
@[go_sem]theorem zSw (a b:List UInt8):bs a++bs b=bs (a++b):=by
 unfold bs;apply ByteArray.ext;simp
@[go_sem]theorem zxe (a:List UInt8):(bs a).size=a.length:=by simp[bs,ByteArray.size]
theorem zSn (s:ByteArray):bs s.data.toList=s:=by simp[bs]
theorem zwL (z:Int) (h: -9223372036854775808<=z/\z<=9223372036854775807):(num z).length<=21:=Go.Lib.itoa_length_le z h.1 h.2
theorem zuI (z:Int) (h: -9223372036854775808<=z/\z<=9223372036854775807):Den Γ G 240 [vi z]=some (.t (.str (bs (num z)))):=by
 refine zs3 Γ240 rfl rfl ?_;show(if _ then _ else _)=_;rw[if_pos h];rfl
structure Ct.more (m:Int) (a b:Ct):Prop where
 v: ∃x,b.vars=a.vars++x
 l: ∃x,b.locks=a.locks++x
 p: ∃x:List Pr,b.procs=a.procs++x/\ ∀p∈x,p.module=m
theorem Ct.more.refl (m:Int) (a:Ct):a.more m a:=⟨⟨[],by simp⟩,⟨[],by simp⟩,[],by simp,by simp⟩
theorem Ct.more.trans {m:Int} {a b c:Ct} (h:a.more m b) (k:b.more m c):a.more m c:=by
 obtain⟨⟨x,hx⟩,⟨y,hy⟩,z,hz,Mj⟩:=h;obtain⟨⟨x',Dc⟩,⟨y',Sd⟩,z',Mk,BI⟩:=k;exact⟨⟨x++x',by rw[Dc,hx,zQ]⟩,⟨y++y',by rw[Sd,hy,zQ]⟩,z++z',by rw[Mk,hz,zQ],fun p hp=>(List.mem_append.1 hp).elim (Mj p) (BI p)⟩
theorem zQy (m:Int) (ct:Ct) (a:Nd): ∃x,(zGl m ct a).vars=ct.vars++x:=by
 have rp: ∀(c:Ct) (e p:Int),(c.report e p).vars=c.vars:=fun c e p=>by unfold Ct.report;split<;>rfl
 unfold zGl;split
 rotate_left
 ·exact⟨[],by simp⟩
 split
 ·exact⟨[],by simp[rp]⟩
 split
 ·obtain⟨d,hd⟩:=zG0 (zGo a 52) (ct,[]);have hf:(ct.fields a).1= { ct with diags:=d }:=hd;exact⟨[],by simp[Ct.addName,hf]⟩
 split
 ·have h1: ∃x,(ct.shared m a).1.vars=ct.vars++x:=by
   have fin: ∀vs:List Va,∃x,(ct.sharedFin a vs).1.vars=ct.vars++x:=fun vs=>by
    unfold Ct.sharedFin;split
    ·exact⟨vs,rfl⟩
    ·exact⟨[],by simp[rp]⟩
   unfold Ct.shared;split
   ·exact⟨[],by simp[rp]⟩
   ·split
    ·split
     ·exact fin _
     ·exact⟨[],by simp[rp]⟩
    ·split
     ·exact⟨[],by simp[rp]⟩
     ·exact fin _
  split
  ·exact h1
  ·exact h1
 split
 ·have h1:(ct.lock m a).1.vars=ct.vars:=by
   unfold Ct.lock;split
   ·exact rp _ _ _
   ·rfl
  split
  ·exact⟨[],by simp[Ct.addName,h1]⟩
  ·exact⟨[],by simp[h1]⟩
 ·obtain⟨d,hd⟩:=zJj ct m a;exact⟨[],by simp[Ct.addName,hd]⟩
theorem zQz (m:Int) (ct:Ct) (a:Nd):ct.more m (zGl m ct a):=by
 refine⟨zQy m ct a,?_,?_⟩
 ·rcases zIS m ct a with h | h
  ·exact⟨[],by rw[h];simp⟩
  ·exact⟨_,h⟩
 ·rcases zHy m ct a with h | h
  ·exact⟨[],by rw[h];simp,by simp⟩
  ·exact⟨_,h,by simp⟩
theorem zQj (m:Int): ∀(l:List Nd) (ct:Ct),ct.more m (l.foldl (zGl m) ct)
 | [],ct=> .refl m ct
 | a::l,ct=>(zQz m ct a).trans (zQj m l _)
theorem zQx: ∀(l:List (Nd×Nat)) (c:Ct) (D:Int),(∀q∈l,(q.2:Int)<D)->(∀p∈c.procs,0<=p.module/\p.module<D)-> ∀p∈(l.foldl (fun c q=>q.1.kids.foldl (zGl (q.2:Nat)) c) c).procs,0<=p.module/\p.module<D
 | [],c,D,_,h=>h
 | q::l,c,D,hl,h=>by
   refine zQx l _ D (fun x hx=>hl x (by simp[hx])) fun p hp=> ?_
   obtain⟨x,hx,hm⟩:=(zQj (q.2:Nat) q.1.kids c).p;rw[hx]at hp;rcases List.mem_append.1 hp with hp | hp
   ·exact h p hp
   ·have:=hm p hp;have:=hl q (by simp);omega
theorem zQN {c:Ct} (hp:c.procs=[]): ∀p∈c.decls.procs,0<=p.module/\p.module<c.bodies.length:=by
 refine zQx _ _ _ (fun q hq=> ?_) (by simp[hp]);have:=List.snd_lt_of_mem_zipIdx hq;omega
theorem zQv (c:Ct):c.decls.mods=c.mods:=by
 unfold Ct.decls;refine zGV (P:=fun s:Ct=>s.mods=c.mods) (fun s q hs=> ?_) _ _ rfl;refine zGV (P:=fun s:Ct=>s.mods=c.mods) (fun s a hs=> ?_) _ _ hs;exact(zJr _ s a).1.trans hs
structure Ct.ext (A B:Ct):Prop where
 m: ∃x,B.mods=A.mods++x/\x.length<=1
 v: ∃x,B.vars=A.vars++x
 l: ∃x,B.locks=A.locks++x
 n:A.procs.length<=B.procs.length
 p: ∀(i:Nat) p,A.procs[i]? =some p-> ∃c:List Int,B.procs[i]? =some { p with calls:=c }/\p.calls=c.filter (fun j:Int=>decide (j<(A.procs.length:Int)))
theorem zQw {t:Nd} (hk:t.kind=62):(collectM t).mods=(Ct.nil.modules t).mods/\(collectM t).vars=(Ct.nil.modules t).decls.vars/\(collectM t).locks=(Ct.nil.modules t).decls.locks/\
 (collectM t).procs=(Ct.nil.modules t).decls.procs.map fun p=>{ p with calls:=zGG ((Ct.nil.modules t).mods.map Mo.name) ((Ct.nil.modules t).decls.procs.map fun p=>(p.module,p.name)) p }:=by
 unfold collectM;rw[if_pos hk];obtain⟨dT,thT,hT⟩:=zHs (zGo t 61) ((Ct.nil.modules t).decls,[]);have SV:(Ct.nil.modules t).decls.threads t= { (Ct.nil.modules t).decls with diags:=dT,thrs:=thT }:=hT;rw[SV];simp only[Ct.cyclesM,Ct.callsM,Ct.mn,Ct.pk];exact⟨zQv _,trivial,trivial,by rw[zQv]⟩
theorem zQZ {α:Type} {l:List α} {a:α} (h:l.Nodup) (ha:a∉ l):(l++[a]).Nodup:=by
 rw[List.nodup_append];exact⟨h,by simp,fun x hx y hy=>by rw[List.mem_singleton]at hy;subst hy;rintro rfl;exact ha hx⟩
theorem zRa (ct:Ct) (n:Nd):(ct.module n).m.name=n.name:=by
 unfold Ct.module;refine zGV (P:=fun s:MoS=>s.m.name=n.name) (fun s a hs=> ?_) _ _ rfl;unfold zGw;split
 ·split
  ·exact hs
  ·split
   ·exact hs
   ·split<;>exact hs
 ·exact hs
theorem zRj (t:Nd) (hs:t.sane):((Ct.nil.modules t).mods.map Mo.name).Nodup/\ ∀m∈(Ct.nil.modules t).mods,m.name.size<=1048576:=by
 have key: ∀(l:List Nd) (st:Ct×List ByteArray),(∀a∈l,a.name.size<=1048576)->st.2=st.1.mods.map Mo.name/\st.2.Nodup/\(∀m∈st.1.mods,m.name.size<=1048576)->
  (l.foldl zGu st).2=(l.foldl zGu st).1.mods.map Mo.name/\(l.foldl zGu st).2.Nodup/\(∀m∈(l.foldl zGu st).1.mods,m.name.size<=1048576):=by
  intro l
  induction l with
  | nil=>intro st _ h;exact h
  | cons a l ih=>
    intro st hl ⟨h1,h2,h3⟩;refine ih _ (fun b hb=>hl b (by simp[hb])) ?_;have rp: ∀(c:Ct) (e p:Int),(c.report e p).mods=c.mods:=fun c e p=>by unfold Ct.report;split<;>rfl
    unfold zGu
    by_cases c1:zG5 st.2 a.name=true
    ·rw[if_pos c1];simp only[rp];exact⟨h1,h2,h3⟩
    rw[if_neg c1]
    by_cases c2:st.1.mods.length>=6
    ·rw[if_pos c2];simp only[rp];exact⟨h1,h2,h3⟩
    rw[if_neg c2];obtain⟨d,hd⟩:=zHI { st.1 with bodies:=st.1.bodies++[a] } a;have hn:=zRa { st.1 with bodies:=st.1.bodies++[a] } a;have ha:=hl a (by simp);simp only[hd];refine⟨by rw[List.map_append,List.map_cons,List.map_nil,hn,h1],zQZ h2 (fun h=>c1 (zIf.2 h)),fun m hm=> ?_⟩;rcases List.mem_append.1 hm with hm | hm
    ·exact h3 m hm
    ·rw[List.mem_singleton]at hm;rw[hm,hn];exact ha
 obtain⟨h1,h2,h3⟩:=key (zGo t 60) (Ct.nil,[]) (fun a ha=>(hs.kid (List.mem_filter.1 ha).1).self.name) ⟨rfl,by simp,by simp[Ct.nil]⟩;unfold Ct.modules;exact⟨h1▸h2,h3⟩
structure NmI (B:Nat) (ct:Ct):Prop where
 k:(ct.procs.map fun p=>(p.module,p.name)).Nodup
 n: ∀p∈ct.procs,(p.module,p.name)∈ct.names
 l: ∀p∈ct.procs,((p.params++p.locals).map Va.name).Nodup
 s: ∀p∈ct.procs,p.name.size<=1048576
 v: ∀v∈ct.vars,(0<=v.module/\v.module<B)/\v.name.size<=2^23
theorem NmI.mono {B:Nat} {a b:Ct} (h:NmI B a) (h1:b.procs=a.procs) (h2:b.vars=a.vars) (h3: ∀k∈a.names,k∈b.names):NmI B b:=
 ⟨by rw[h1];exact h.k,by rw[h1];exact fun p hp=>h3 _ (h.n p hp),by rw[h1];exact h.l,by rw[h1];exact h.s,by rw[h2];exact h.v⟩
theorem zQV (m:Int): ∀(l:List Nd) (st:AddS) (P:List ByteArray),st.known=P++st.vs.map Va.name->st.known.Nodup->(l.foldl (zGn m) st).known=P++(l.foldl (zGn m) st).vs.map Va.name/\(l.foldl (zGn m) st).known.Nodup
 | [],st,P,h,h2=>⟨h,h2⟩
 | a::l,st,P,h,h2=>by
   rw[List.foldl_cons];refine zQV m l (zGn m st a) P ?_ ?_
   ·unfold zGn;split
    ·exact h
    ·split
     ·simp only[List.map_append,List.map_cons,List.map_nil];rw[h,zQ];rfl
     ·exact h
   ·unfold zGn;split
    ·exact h2
    ·rename_i c1;split
     ·exact zQZ h2 (fun hm=>c1 (zIf.2 hm))
     ·exact h2
theorem zRh (ct:Ct) (m:Int) (n:Nd):(((zGp ct m n).vs++(zGr ct m n).vs).map Va.name).Nodup:=by
 obtain⟨h1,h2⟩:=zQV m (zGo n 58) ⟨ct,[],[]⟩ [] rfl (by simp);have HF:(zGp ct m n).known=(zGp ct m n).vs.map Va.name:=by simpa[zGp]using h1
 obtain⟨h3,h4⟩:=zQV m ((zGj n 34).flat.filter fun a=>decide (a.kind=35)) { zGp ct m n with vs:=[] } ((zGp ct m n).vs.map Va.name) (by simpa using HF) h2;rw[List.map_append];have BV:(zGr ct m n).known=(zGp ct m n).vs.map Va.name++(zGr ct m n).vs.map Va.name:=h3;rw[<- BV];exact h4
theorem zQ8 {ct:Ct} (Bm:ct.ok) (m:Int) {n:Nd} (hn:Nd.okN n):(ct.shared m n).1.procs=ct.procs/\ ∃x:List Va,(ct.shared m n).1.vars=ct.vars++x/\ ∀v∈x,v.module=m/\v.name.size<=2^23:=by
 have rv: ∀(c:Ct) (e p:Int),(c.report e p).vars=c.vars:=fun c e p=>by unfold Ct.report;split<;>rfl
 have rp: ∀(e p:Int),(ct.report e p).procs=ct.procs/\ ∃x:List Va,(ct.report e p).vars=ct.vars++x/\ ∀v∈x,v.module=m/\v.name.size<=2^23:=fun e p=>⟨zGF _ _ _,[],by rw[rv];simp,by simp⟩
 have fin: ∀vs:List Va,(∀v∈vs,v.module=m/\v.name.size<=2^23)->(ct.sharedFin n vs).1.procs=ct.procs/\ ∃x:List Va,(ct.sharedFin n vs).1.vars=ct.vars++x/\ ∀v∈x,v.module=m/\v.name.size<=2^23:=fun vs hv=>by
  unfold Ct.sharedFin;split
  ·exact⟨rfl,vs,rfl,hv⟩
  ·exact rp _ _
 have GE:=hn.name;unfold Ct.shared;split
 ·exact rp _ _
 split
 ·split
  ·refine fin _ fun v hv=> ?_
   rw[List.mem_singleton]at hv;subst hv;exact⟨rfl,by show n.name.size<=2^23;omega⟩
  ·exact rp _ _
 split
 ·exact rp _ _
 ·rename_i r hr;have PX:=List.mem_of_find?_eq_some hr;refine fin _ fun v hv=> ?_
  obtain⟨f,hf,rfl⟩:=List.mem_map.1 hv;have:=(Bm.rw r PX f hf).2;refine⟨rfl,?_⟩;show(zKd n.name f.name).size<=2^23;unfold zKd;rw[ByteArray.size_append,ByteArray.size_append,show(bs [46]).size=1 from rfl];omega
theorem zRd {B:Nat} {ct:Ct} (h:NmI B ct) (Bm:ct.ok) {m:Int} (hm:0<=m/\m<B) {a:Nd} (hs:a.sane):NmI B (zGl m ct a):=by
 have rv: ∀(c:Ct) (e p:Int),(c.report e p).vars=c.vars:=fun c e p=>by unfold Ct.report;split<;>rfl
 have rp: ∀(e p:Int),NmI B (ct.report e p):=fun e p=>h.mono (zGF _ _ _) (rv _ _ _) (by rw[(zGE _ _ _).1];exact fun _ h=>h)
 have an: ∀(c:Ct) (k:Key),NmI B c->NmI B (c.addName k):=fun c k hc=>hc.mono rfl rfl (fun x hx=>by simp[Ct.addName,hx])
 unfold zGl;split
 rotate_left
 ·exact h
 split
 ·exact rp _ _
 rename_i T1;split
 ·obtain⟨d,hd⟩:=zG0 (zGo a 52) (ct,[]);have hf:(ct.fields a).1= { ct with diags:=d }:=hd;refine an _ _ ?_;rw[hf];exact h.mono rfl rfl (fun _ h=>h)
 split
 ·obtain⟨h1,x,h2,h3⟩:=zQ8 Bm m hs.self;have C6:=(zJC ct m a).1
  have Lb:NmI B (ct.shared m a).1:=⟨by rw[h1];exact h.k,by rw[h1,C6];exact h.n,by rw[h1];exact h.l,by rw[h1];exact h.s,fun v hv=>by
   rw[h2]at hv;rcases List.mem_append.1 hv with hv | hv
   ·exact h.v v hv
   ·obtain⟨e1,e2⟩:=h3 v hv
    exact⟨by rw[e1];exact hm,e2⟩⟩
  split
  ·exact an _ _ Lb
  ·exact Lb
 split
 ·have hl:NmI B (ct.lock m a).1:=by
   unfold Ct.lock;split
   ·exact rp _ _
   ·exact h.mono rfl rfl (fun _ h=>h)
  split
  ·exact an _ _ hl
  ·exact hl
 ·obtain⟨d,hd⟩:=zJj ct m a;have VD:=zRh ct m a;rw[hd];have BD:(m,a.name)∉ ct.names:=fun hx=>T1 (zIf.2 hx)
  refine⟨?_,?_,?_,?_,h.v⟩
  ·show(List.map (fun p:Pr=>(p.module,p.name)) (ct.procs++[_])).Nodup;rw[List.map_append,List.map_cons,List.map_nil];refine zQZ h.k fun hx=> ?_
   obtain⟨p,hp,he⟩:=List.mem_map.1 hx;exact BD (by have:=h.n p hp;rw[he]at this;exact this)
  ·intro p hp;rcases List.mem_append.1 hp with hp | hp
   ·exact List.mem_append_left _ (h.n p hp)
   ·rw[List.mem_singleton]at hp;subst hp;exact List.mem_append_right _ (by simp)
  ·intro p hp;rcases List.mem_append.1 hp with hp | hp
   ·exact h.l p hp
   ·rw[List.mem_singleton]at hp;subst hp;exact VD
  ·intro p hp;rcases List.mem_append.1 hp with hp | hp
   ·exact h.s p hp
   ·rw[List.mem_singleton]at hp;subst hp;exact hs.self.name
theorem zQ1 {B:Nat} {m:Int} (hm:0<=m/\m<B): ∀(l:List Nd) {ct:Ct} {D:Nat},ct.okD D->NmI B ct->(∀a∈l,a.sane/\a.size<900)->(l.foldl (zGl m) ct).okD (D+l.length)/\NmI B (l.foldl (zGl m) ct)
 | [],ct,D,h,n,_=>⟨h,n⟩
 | a::l,ct,D,h,n,hl=>by
   obtain⟨h1,h2⟩:=hl a (by simp);have:=zQ1 hm l (zIA m ct D a h h1 h2) (zRd n h.ok hm h1) fun b hb=>hl b (by simp[hb])
   rw[List.foldl_cons,List.length_cons,show D+(l.length+1)=D+1+l.length by omega];exact this
theorem zQ7 {B:Nat}: ∀(l:List (Nd×Nat)) {ct:Ct} {D:Nat},(∀q∈l,q.2<B/\q.1.sane/\q.1.size<900)->ct.okD D->NmI B ct->NmI B (l.foldl (fun c q=>q.1.kids.foldl (zGl (q.2:Nat)) c) ct)
 | [],ct,D,_,_,n=>n
 | q::l,ct,D,hq,h,n=>by
   obtain⟨h1,h2,h3⟩:=hq q (by simp);obtain⟨k1,k2⟩:=zQ1 (m:=(q.2:Nat)) (B:=B) (by omega) q.1.kids h n fun a ha=>⟨h2.kid ha,by have:=Nd.size_kid ha;omega⟩
   exact zQ7 l (fun x hx=>hq x (by simp[hx])) k1 k2
structure Ct.nms (C:Ct):Prop where
 mn:(C.mods.map Mo.name).Nodup
 ms: ∀m∈C.mods,m.name.size<=1048576
 pk:(C.procs.map fun p=>(p.module,p.name)).Nodup
 pl: ∀p∈C.procs,((p.params++p.locals).map Va.name).Nodup
 ps: ∀p∈C.procs,p.name.size<=1048576
 pm: ∀p∈C.procs,0<=p.module/\p.module<C.mods.length
 vm: ∀v∈C.vars,(0<=v.module/\v.module<C.mods.length)/\v.name.size<=2^23
theorem zRe {t:Nd} (hz:t.size<900) (hs:t.sane):(collectM t).nms:=by
 by_cases hk:t.kind=62
 rotate_left
 ·have:collectM t= .nil:=by unfold collectM;rw[if_neg hk]
  rw[this];refine⟨?_,?_,?_,?_,?_,?_,?_⟩<;>simp[Ct.nil]
 obtain⟨a1,a2,a3,a4⟩:=zQw hk;obtain⟨m1,m2⟩:=zRj t hs;obtain⟨dM,bM,mM,hM,D5,VJ,_⟩:=zI0 t;have D4:(Ct.nil.modules t).bodies.length=(Ct.nil.modules t).mods.length:=by rw[hM];exact VJ.symm
 have Nt:(Ct.nil.modules t).procs=[]:=by rw[hM];rfl
 have IV:=zQN Nt
 have hB:NmI (Ct.nil.modules t).bodies.length (Ct.nil.modules t).decls:=by
  unfold Ct.decls;refine zQ7 (D:=0) _ (fun q hq=> ?_) ?_ ?_
  ·have h1:=List.snd_lt_of_mem_zipIdx hq;have h2:q.1∈bM:=by have:=List.fst_mem_of_mem_zipIdx hq;rw[hM]at this;exact this
   have h3:=D5.subset h2;exact⟨by omega,hs.kid h3,by have:=Nd.size_kid h3;omega⟩
  ·rw[hM];refine⟨⟨?_,?_⟩,?_,?_,?_,?_⟩<;>simp[Ct.nil]
  ·rw[hM];refine⟨?_,?_,?_,?_,?_⟩<;>simp[Ct.nil]
 have D8: ∀p∈(collectM t).procs,∃q∈(Ct.nil.modules t).decls.procs,∃c,p= { q with calls:=c }:=fun p hp=>by
  rw[a4]at hp;obtain⟨q,hq,rfl⟩:=List.mem_map.1 hp;exact⟨q,hq,_,rfl⟩
 refine⟨by rw[a1];exact m1,by rw[a1];exact m2,?_,?_,?_,?_,?_⟩
 ·rw[a4,List.map_map];exact hB.k
 ·intro p hp;obtain⟨q,hq,c,rfl⟩:=D8 p hp;exact hB.l q hq
 ·intro p hp;obtain⟨q,hq,c,rfl⟩:=D8 p hp;exact hB.s q hq
 ·intro p hp;obtain⟨q,hq,c,rfl⟩:=D8 p hp;rw[a1,<- D4];exact IV q hq
 ·rw[a2,a1,<- D4];exact hB.v
end Rg
end
