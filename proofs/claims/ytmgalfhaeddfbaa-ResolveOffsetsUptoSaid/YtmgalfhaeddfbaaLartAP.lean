/- Part of the proof of laws of relyguardlaw04. No condition. -/
import Derived.Test.YtmgalfhaeddfbaaLartAJ
import Derived.Test.YtmgalfhaeddfbaaLartAI
import Derived.Test.YtmgalfhaeddfbaaLartAO
import Derived.Test.YtmgalfhaeddfbaaLartAK
import Derived.Test.YtmgalfhaeddfbaaLartAN
set_option linter.unusedVariables false
set_option linter.unusedSimpArgs false
section
namespace Rg
open Go
inductive Tr (α:Type)where
 | nil
 | node (v:Option α) (l r:Tr α)
namespace Tr
variable {α:Type}
noncomputable def get (t:Tr α):Nat->Option α:=
 Tr.rec (motive:=fun _=>Nat->Option α) (fun _=>none) (fun v _ _ a b n=>Nat.rec v (fun m _=>Nat.rec (a (Nat.div m 2)) (fun _ _=>b (Nat.div m 2)) (Nat.mod m 2)) n) t
noncomputable def node1 (ih:Tr α->Nat->α->Tr α) (v:Option α) (l r:Tr α) (n:Nat) (x:α):Tr α:=
 Nat.rec (.node (some x) l r) (fun m _=>Nat.rec (.node v (ih l (Nat.div m 2) x) r) (fun _ _=> .node v l (ih r (Nat.div m 2) x)) (Nat.mod m 2)) n
noncomputable def put (f:Nat):Tr α->Nat->α->Tr α:=
 Nat.rec (fun t _ _=>t) (fun _ ih t=>Tr.rec (motive:=fun _=>Nat->α->Tr α) (node1 ih none .nil .nil) (fun v l r _ _=>node1 ih v l r) t) f
theorem zHN (v:Option α) (l r:Tr α) (m:Nat):(Tr.node v l r).get (m+1)=if m % 2=0 then l.get (m/ 2)else r.get (m/ 2):=by
 show Nat.rec (motive:=fun _=>Option α) (l.get (m/ 2)) (fun _ _=>r.get (m/ 2)) (m % 2)=_;cases m % 2<;>rfl
theorem zK5 (ih:Tr α->Nat->α->Tr α) (v:Option α) (l r:Tr α) (m:Nat) (x:α):node1 ih v l r (m+1) x=if m % 2=0 then .node v (ih l (m/ 2) x) r else .node v l (ih r (m/ 2) x):=by
 show Nat.rec (motive:=fun _=>Tr α) (.node v (ih l (m/ 2) x) r) (fun _ _=> .node v l (ih r (m/ 2) x)) (m % 2)=_;cases m % 2<;>rfl
theorem zJN (ih:Tr α->Nat->α->Tr α) (n:Nat) (x:α) (hi: ∀m,m<n-> ∀t j,(ih t m x).get j=if j=m then some x else t.get j) (v:Option α) (l r:Tr α) (j:Nat):
 (node1 ih v l r n x).get j=if j=n then some x else(Tr.node v l r).get j:=by
 cases n with
 | zero=>cases j<;>rfl
 | succ m=>
   rw[zK5]
   by_cases h:m % 2=0
   ·rw[if_pos h]
    cases j with
    | zero=>rfl
    | succ j=>
      rw[zHN,zHN]
      by_cases h2:j % 2=0
      ·rw[if_pos h2,if_pos h2,hi _ (by omega)]
       by_cases h3:j=m
       ·rw[if_pos (by rw[h3]),if_pos (by rw[h3])]
       ·rw[if_neg (by omega),if_neg (by omega)]
      ·rw[if_neg h2,if_neg h2,if_neg (by omega)]
   ·rw[if_neg h]
    cases j with
    | zero=>rfl
    | succ j=>
      rw[zHN,zHN]
      by_cases h2:j % 2=0
      ·rw[if_pos h2,if_pos h2,if_neg (by omega)]
      ·rw[if_neg h2,if_neg h2,hi _ (by omega)]
       by_cases h3:j=m
       ·rw[if_pos (by rw[h3]),if_pos (by rw[h3])]
       ·rw[if_neg (by omega),if_neg (by omega)]
theorem get_put: ∀(f:Nat) (t:Tr α) (n:Nat) (x:α),n<f-> ∀j,(put f t n x).get j=if j=n then some x else t.get j:=by
 intro f
 induction f with
 | zero=>intro t n x h;omega
 | succ f ih=>
   intro t n x h j;have hi: ∀m,m<n-> ∀t j,(put f t m x).get j=if j=m then some x else t.get j:=fun m hm t j=>ih t m x (by omega) j
   cases t with
   | nil=>
     show(node1 (put f) none .nil .nil n x).get j=_;rw[zJN _ n x hi]
     have : ∀k,(Tr.node none .nil .nil:Tr α).get k=(Tr.nil:Tr α).get k:=by
      intro k
      cases k with
      | zero=>rfl
      | succ k=>rw[zHN];split<;>rfl
     rw[this]
   | node v l r=>exact zJN _ n x hi v l r j
end Tr
structure Fn (α:Type)where
 base:Nat->α
 ov:Tr α
namespace Fn
variable {α:Type}
noncomputable def app (f:Fn α) (k:Nat):α:=match f.ov.get k with
 | some v=>v
 | none=>f.base k
noncomputable def set (f:Fn α) (k:Nat) (v:α):Fn α:=Fn.rec (fun b o=>⟨b,o.put (k+1) k v⟩) f
def of (f:Nat->α):Fn α:=⟨f,.nil⟩
theorem app_set (f:Fn α) (k:Nat) (v:α):(f.set k v).app=upd f.app k v:=by
 funext j
 unfold app set upd;simp only;rw[Tr.get_put (k+1) f.ov k v (by omega)]
 by_cases h:j=k
 ·rw[if_pos h,if_pos h]
 ·rw[if_neg h,if_neg h]
end Fn
structure E where
 env:Fn V
 loc:Fn (Option (List V))
 adr:Fn (Option (Nat×Nat))
 used:Fn Bool
 heap:Fn (Option O)
 nxt:Nat
 bas:Nat
namespace E
noncomputable def st (e:E):St:=⟨e.env.app,e.loc.app,e.adr.app,e.used.app,e.heap.app,e.nxt,e.bas⟩
def begin (e:E) (n:Nat):E:={ e with adr:=.of fun _=>none,used:=.of fun _=>false,bas:=e.nxt,nxt:=e.nxt+n }
noncomputable def hpSet (h:Fn (Option O)):List (Nat×O)->Fn (Option O)
 | []=>h
 | (k,o)::r=>hpSet (h.set k (some o)) r
theorem hpSet_app (h:Fn (Option O)) (l:List (Nat×O)):(hpSet h l).app=zbf h.app l:=by
 induction l generalizing h with
 | nil=>rfl
 | cons a l ih=>rw[hpSet,zbf,ih,Fn.app_set]
noncomputable def apply(s:E) (dst:Option Nat) (e:Eff):E:=
 { s with
   env:=match dst with | some d=>s.env.set d e.val | none=>s.env
   adr:=match dst with | some d=>s.adr.set d e.adr | none=>s.adr
   loc:=match dst with
    | some d=>(match e.wloc with | some (b,cs)=>s.loc.set b (some cs) | none=>s.loc).set d e.loc
    | none=>match e.wloc with | some (b,cs)=>s.loc.set b (some cs) | none=>s.loc
   used:=match e.adr with | some (b,_)=>s.used.set b true | none=>s.used
   heap:=hpSet s.heap e.hp }
theorem apply_st (s:E) (dst:Option Nat) (e:Eff):(s.apply dst e).st=s.st.apply dst e:=by
 unfold apply st St.apply;rcases dst with _ | d<;>rcases e with⟨val,adr,loc,wloc,hp⟩<;>rcases wloc with _ | ⟨b,cs⟩<;>rcases adr with _ | ⟨a1,a2⟩<;>simp only[Fn.app_set,hpSet_app]
def init (args:List V) (h:Fn (Option O)) (n:Nat):E:=⟨.of (zfz args),.of fun _=>none,.of fun _=>none,.of fun _=>false,h,n,n⟩
noncomputable def fill:Fn V->List Nat->List V->Fn V
 | env,t::ts,v::vs=>fill (env.set t v) ts vs
 | env,_,_=>env
theorem zMJ (f:Fn V) (ts:List Nat) (vs:List V):(fill f ts vs).app=zhB f.app ts vs:=by
 induction ts generalizing f vs with
 | nil=>cases vs<;>rfl
 | cons t ts ih=>cases vs with
   | nil=>rfl
   | cons v vs=>rw[fill,zhB,ih,Fn.app_set]
noncomputable def round (h:Fn (Option O)) (n k:Nat) (env:Nat->V) (ps:List Nat) (bd:C) (vs:List V):E:=
 ⟨fill (.of env) ps vs,.of fun _=>none,.of fun _=>none,.of fun _=>false,h.set k (some (.loop env ps bd .enter)),n,n⟩
theorem round_st (h:Fn (Option O)) (n k:Nat) (env:Nat->V) (ps:List Nat) (bd:C) (vs:List V):(round h n k env ps bd vs).st=zht h.app n k env ps bd vs:=by
 unfold round st zht;simp only[zMJ,Fn.app_set];rfl
noncomputable def freeB (s:E) (dst:Option Nat) (e:Eff):Bool:=match dst with
 | none=>true
 | some d=> !s.used.app d&&match e.adr with
   | some (b,_)=> !decide (b=d)
   | none=>true
theorem free_of {s:E} {dst:Option Nat} {e:Eff} (h:s.freeB dst e=true):s.st.free dst e:=by
 intro d hd;subst hd;unfold freeB at h;simp only[zF,Bool.not_eq_true']at h;refine⟨h.1,fun b o hb=> ?_⟩;rw[hb]at h;simpa using h.2
end E
inductive ET where
 | code (c:C) (s:E)
 | loop (b:C) (s:E)
 | ops (draw:Bool) (p:Nat) (l:List ROp) (s:E)
 | pcall (f:Nat) (args:List V)
 | rcall (f:Nat) (args:List V) (h:Fn (Option O)) (n:Nat)
inductive EO where
 | code (e:Ex) (s:E)
 | ops (s:E)
 | val (v:V)
 | vals (v:V) (h:Fn (Option O)) (n:Nat)
noncomputable def ET.task:ET->Task
 | .code c s=> .code c s.st
 | .loop b s=> .loop b s.st
 | .ops d p l s=> .ops d p l s.st
 | .pcall f a=> .pcall f a
 | .rcall f a h n=> .rcall f a h.app n
noncomputable def EO.out:EO->Out
 | .code e s=> .code e s.st
 | .ops s=> .ops s.st
 | .val v=> .val v
 | .vals v h n=> .vals v h.app n
def zLL:Ex->Bool
 | .exit _=>false
 | _=>true
theorem zJJ {e:Ex} (h:zLL e=true): ∀id,e≠ .exit id:=by
 rintro id rfl;cases h
def zHa:Option EO->Option (Ex×E)
 | some (.code e s)=>some (e,s)
 | _=>none
def zLq:Option EO->Option E
 | some (.ops s)=>some s
 | _=>none
def zMl:Option EO->Option V
 | some (.val v)=>some v
 | _=>none
def zJa:Option EO->Option (V×Fn (Option O)×Nat)
 | some (.vals v h n)=>some (v,h,n)
 | _=>none
theorem zGH {x:Option EO} {e:Ex} {s:E} (h:zHa x=some (e,s)):x=some (.code e s):=by
 unfold zHa at h;split at h
 ·cases h;rfl
 ·cases h
theorem zJw {x:Option EO} {s:E} (h:zLq x=some s):x=some (.ops s):=by
 unfold zLq at h;split at h
 ·cases h;rfl
 ·cases h
theorem zKS {x:Option EO} {v:V} (h:zMl x=some v):x=some (.val v):=by
 unfold zMl at h;split at h
 ·cases h;rfl
 ·cases h
theorem zII {x:Option EO} {v:V} {hp:Fn (Option O)} {n:Nat} (h:zJa x=some (v,hp,n)):x=some (.vals v hp n):=by
 unfold zJa at h;split at h
 ·cases h;rfl
 ·cases h
noncomputable def loopAt (h:Fn (Option O)) (k:Nat):Option ((Nat->V)×List Nat×C×LSt):=match h.app k with
 | some (.loop env ps b st)=>some (env,ps,b,st)
 | _=>none
theorem zHL {h:Fn (Option O)} {k:Nat} {env:Nat->V} {ps:List Nat} {b:C} {st:LSt} (e:loopAt h k=some (env,ps,b,st)):h.app k=some (.loop env ps b st):=by
 unfold loopAt at e;split at e
 ·rename_i h0;cases e;exact h0
 ·cases e
def LSt.isReady:LSt->Bool
 | .ready=>true
 | _=>false
def LSt.isEnter:LSt->Bool
 | .enter=>true
 | _=>false
def LSt.isBusy:LSt->Bool
 | .busy=>true
 | _=>false
def roundOf:C->Option (C×C)
 | .round a b=>some (a,b)
 | _=>none
def zNg:C->Option Ext
 | .ext e=>some e
 | _=>none
def zO4:V->Option Nat
 | .yl k=>some k
 | _=>none
def zJZ:AOp->Option (Bool×Opd×List Opd)
 | .call r f a=>some (r,f,a)
 | _=>none
def zJp:AOp->Option (Opd×List Opd)
 | .fcall f a=>some (f,a)
 | _=>none
def ask (b:Bool):Option Unit:=if b then some ()else none
theorem zGQ {b:Bool} {u:Unit} (h:ask b=some u):b=true:=by
 unfold ask at h;split at h
 ·assumption
 ·cases h
section
variable (Γ:Nat->Option F) (G:Nat->List T) (R:ET->Option EO)
noncomputable def evCode (s:E):C->Option EO
 | .skip=>some (.code .normal s)
 | .ret=>some (.code .ret s)
 | .exit id=>some (.code (.exit id) s)
 | .region d l=>(zLq (R (.ops d 0 l (s.begin l.length)))).bind fun s'=>some (.code .normal s')
 | .regionD ck l=>(zLq (R (.ops true 0 l (s.begin l.length)))).bind fun s'=>(ask (zgO G s'.st l ck)).bind fun _=>some (.code .normal s')
 | .seq a b=>(zHa (R (.code a s))).bind fun q=>match q with
   | (.normal,s1)=>(zHa (R (.code b s1))).bind fun q=>some (.code q.1 q.2)
   | (e,s1)=>some (.code e s1)
 | .cond c a b=>(zd5 G s.st c).bind fun t=>(zHa (R (.code (if t then a else b) s))).bind fun q=>some (.code q.1 q.2)
 | .block id b=>(zHa (R (.code b s))).bind fun q=>some (.code (if q.1= .exit id then .normal else q.1) q.2)
 | .loop b=>(zHa (R (.loop b s))).bind fun q=>some (.code q.1 q.2)
 | .rangeF x ps bd=>(evl G s.st x).bind fun fv=>(zfC fv).bind fun g=>(Γ g.1).bind fun fn=>(ask fn.raw).bind fun _=>
   (zJa (R (.rcall g.1 (g.2.1++[.yl s.nxt]++g.2.2) (s.heap.set s.nxt (some (.loop s.env.app ps bd .ready))) (s.nxt+1)))).bind fun r=>
   (loopAt r.2.1 s.nxt).bind fun q=>(LSt.ends q.2.2.2).bind fun e=>some (.code e { s with heap:=r.2.1.set s.nxt (some .dead),nxt:=r.2.2 })
 | .ext _=>none
 | .round _ _=>none
noncomputable def evRest (d:Bool) (p:Nat) (o:ROp) (l:List ROp) (s:E) (e:Eff):Option EO:=
 (zLq (R (.ops d (p+1) l (s.apply o.dst e)))).bind fun s'=>some (.ops s')
noncomputable def evYield (d:Bool) (p:Nat) (o:ROp) (l:List ROp) (s:E) (k:Nat) (vs:List V):Option EO:=
 (loopAt s.heap k).bind fun q=>(ask (LSt.isReady q.2.2.2)).bind fun _=>(roundOf q.2.2.1).bind fun c=>(ask (decide (vs.length=q.2.1.length))).bind fun _=>
 (zHa (R (.code c.1 (.round s.heap s.nxt k q.1 q.2.1 (.round c.1 c.2) vs)))).bind fun r1=>(ask (decide (r1.1= .normal))).bind fun _=>
 (loopAt r1.2.heap k).bind fun q1=>(ask (LSt.isEnter q1.2.2.2)).bind fun _=>
 (zHa (R (.code c.2 { r1.2 with heap:=r1.2.heap.set k (some (.loop q1.1 q1.2.1 q1.2.2.1 .busy)) }))).bind fun r2=>
 (loopAt r2.2.heap k).bind fun q2=>(ask (LSt.isBusy q2.2.2.2)).bind fun _=>
 evRest R d p o l { s with heap:=r2.2.heap.set k (some (.loop q2.1 q2.2.1 q2.2.2.1 r2.1.toL)),nxt:=r2.2.nxt } { val:=.t (.bool (decide (r2.1=Ex.normal))) }
noncomputable def evOp (d:Bool) (p:Nat) (o:ROp) (l:List ROp) (s:E):Option EO:=match zJZ o.op with
 | some (raw,f,args)=>(ask (s.freeB o.dst {})).bind fun _=>(evl G s.st f).bind fun fv=>(zgE G s.st args).bind fun vs=>match zO4 fv with
   | some k=>(ask raw).bind fun _=>evYield R d p o l s k vs
   | none=>(zfC fv).bind fun g=>(Γ g.1).bind fun fn=>if raw then
      (ask (!zHX f)).bind fun _=>(zJ3 s.st.heap g.2.1).bind fun a'=>(zJa (R (.rcall g.1 (a'++vs++g.2.2) s.heap s.nxt))).bind fun r=>evRest R d p o l { s with heap:=r.2.1,nxt:=r.2.2 } { val:=r.1 }
     else(ask (!fn.raw)).bind fun _=>((g.2.1++vs++g.2.2).mapM (toT1 s.st.heap)).bind fun rs=>(zMl (R (.pcall g.1 rs))).bind fun r=>
      (ask (!d||r.scalar||((g.2.1++vs++g.2.2).flatMap (zba s.st.heap)).isEmpty)).bind fun _=>
      evRest R d p o l s { val:=r,hp:=if r.scalar then []else freezes s.st.heap ((g.2.1++vs++g.2.2).flatMap (zba s.st.heap)) }
 | none=>match zJp o.op with
   | some (f,args)=>(ask (s.freeB o.dst {})).bind fun _=>(evl G s.st f).bind fun fv=>(zgE G s.st args).bind fun vs=>(zfC fv).bind fun g=>(Γ g.1).bind fun fn=>(ask fn.raw).bind fun _=>
     ((g.2.1++vs++g.2.2).mapM (toT1 s.st.heap)).bind fun rs=>(ask ((g.2.1++vs++g.2.2).flatMap (zba s.st.heap)).isEmpty).bind fun _=>
     (zJa (R (.rcall g.1 rs (.of fun _=>none) 0))).bind fun r=>(zqm (s.bas+p) r.1 r.2.1.app).bind fun e=>evRest R d p o l s e
   | none=>(zaj G p s.st o.op).bind fun e=>(ask (s.freeB o.dst e)).bind fun _=>evRest R d p o l s e
noncomputable def evStep:ET->Option EO
 | .code c s=>evCode Γ G R s c
 | .loop b s=>(zHa (R (.code b s))).bind fun q=>match q with
   | (.normal,s1)=>(zHa (R (.loop b s1))).bind fun q=>some (.code q.1 q.2)
   | (e,s1)=>some (.code e s1)
 | .ops _ _ [] s=>some (.ops s)
 | .ops d p (o::l) s=>(zcs s.st o.guard).bind fun w=>if w then evOp Γ G R d p o l s else(ask (s.freeB o.dst {})).bind fun _=>evRest R d p o l s {}
 | .pcall g args=>(Γ g).bind fun fn=>(ask (!fn.raw)).bind fun _=>match zNg fn.body with
   | some e=>(zev e args).bind fun r=>some (.val r)
   | none=>(zHa (R (.code fn.body (.init args (.of fun _=>none) 0)))).bind fun q=>(ask (zLL q.1)).bind fun _=>(zeM q.2.st fn.results).bind fun v=>(reify q.2.st.heap v).bind fun r=>some (.val r)
 | .rcall g args h m=>(Γ g).bind fun fn=>if fn.raw=false then(args.mapM (toT1 h.app)).bind fun rs=>(zMl (R (.pcall g rs))).bind fun r=>some (.vals r (E.hpSet h (if r.scalar then []else freezes h.app (args.flatMap (zba h.app)))) m)else(ask fn.raw).bind fun _=>match zNg fn.body with
   | some e=>(zd3 e args h.app m).bind fun r=>some (.vals r.1 (.of r.2.1) r.2.2)
   | none=>(zHa (R (.code fn.body (.init args h m)))).bind fun q=>(ask (zLL q.1)).bind fun _=>(zeM q.2.st fn.results).bind fun v=>some (.vals v q.2.heap q.2.nxt)
end
noncomputable def ev (Γ:Nat->Option F) (G:Nat->List T):Nat->ET->Option EO
 | 0=>fun _=>none
 | n+1=>evStep Γ G (ev Γ G n)
section
variable {Γ:Nat->Option F} {G:Nat->List T} {R:ET->Option EO}
def zHr (Γ:Nat->Option F) (G:Nat->List T) (R:ET->Option EO):Prop:= ∀t o,R t=some o->Big Γ G t.task o.out
theorem bind_some {α β:Type} {x:Option α} {f:α->Option β} {b:β} (h:x.bind f=some b): ∃a,x=some a/\f a=some b:=by
 cases x with
 | none=>cases h
 | some a=>exact⟨a,rfl,h⟩
theorem zJS (hR:zHr Γ G R) {s:E} {c:C} {o:EO} (h:evCode Γ G R s c=some o):Big Γ G (.code c s.st) o.out:=by
 cases c with
 | skip=>simp only[evCode,zA]at h;subst h;exact .skip
 | ret=>simp only[evCode,zA]at h;subst h;exact .ret
 | exit id=>simp only[evCode,zA]at h;subst h;exact .exit
 | region d l=>
   simp only[evCode]at h;obtain⟨s',h1,h⟩:=bind_some h;simp only[zA]at h;subst h
   exact .region (hR _ _ (zJw h1))
 | regionD ck l=>
   simp only[evCode]at h;obtain⟨s',h1,h⟩:=bind_some h;obtain⟨u,h2,h⟩:=bind_some h;simp only[zA]at h;subst h
   exact .regionD (hR _ _ (zJw h1)) (zGQ h2)
 | seq a b=>
   simp only[evCode]at h;obtain⟨⟨e,s1⟩,h1,h⟩:=bind_some h;have g1:=hR _ _ (zGH h1)
   cases e with
   | normal=>
     obtain⟨⟨e2,s2⟩,h2,h⟩:=bind_some h;simp only[zA]at h;subst h
     exact .seqN g1 (hR _ _ (zGH h2))
   | exit id=>simp only[zA]at h;subst h;exact .seqX g1 (by intro h;cases h)
   | ret=>simp only[zA]at h;subst h;exact .seqX g1 (by intro h;cases h)
 | cond c a b=>
   simp only[evCode]at h;obtain⟨t,ht,h⟩:=bind_some h;obtain⟨⟨e,s1⟩,h1,h⟩:=bind_some h;simp only[zA]at h;subst h
   exact .cond ht (hR _ _ (zGH h1))
 | block id b=>
   simp only[evCode]at h;obtain⟨⟨e,s1⟩,h1,h⟩:=bind_some h;simp only[zA]at h;subst h
   exact .block (hR _ _ (zGH h1))
 | loop b=>
   simp only[evCode]at h;obtain⟨⟨e,s1⟩,h1,h⟩:=bind_some h;simp only[zA]at h;subst h
   exact .loop (hR _ _ (zGH h1))
 | rangeF x ps bd=>
   simp only[evCode]at h;obtain⟨fv,As,h⟩:=bind_some h;obtain⟨⟨g,a,b⟩,Ax,h⟩:=bind_some h;obtain⟨fn,hg,h⟩:=bind_some h;obtain⟨_,hr,h⟩:=bind_some h;obtain⟨⟨r,h',n'⟩,hc,h⟩:=bind_some h;obtain⟨⟨env',ps',bd',st⟩,hl,h⟩:=bind_some h;obtain⟨e,he,h⟩:=bind_some h;simp only[zA]at h;subst h;have g1:=hR _ _ (zII hc);simp only[ET.task,EO.out,Fn.app_set]at g1;have:=Big.rangeF (s:=s.st) (ps:=ps) (bd:=bd) As Ax hg trivial g1 (zHL hl) he
   simpa only[EO.out,E.st,Fn.app_set]using this
 | ext e=>simp[evCode]at h
 | round a b=>simp[evCode]at h
theorem zGO (hR:zHr Γ G R) {d:Bool} {p:Nat} {ro:ROp} {l:List ROp} {s:E} {e:Eff} {o:EO} (h:evRest R d p ro l s e=some o): ∃s',o= .ops s'/\Big Γ G (.ops d (p+1) l (s.st.apply ro.dst e)) (.ops s'.st):=by
 obtain⟨s',h1,h⟩:=bind_some h;simp only[zA]at h;subst h;have:=hR _ _ (zJw h1);simp only[ET.task,EO.out,E.apply_st]at this;exact⟨s',rfl,this⟩
theorem zLe {st:LSt} (h:st.isReady=true):st= .ready:=by cases st<;>first | rfl | cases h
theorem zLf {st:LSt} (h:st.isEnter=true):st= .enter:=by cases st<;>first | rfl | cases h
theorem zL4 {st:LSt} (h:st.isBusy=true):st= .busy:=by cases st<;>first | rfl | cases h
theorem zK0 {c a b:C} (h:roundOf c=some (a,b)):c= .round a b:=by cases c<;>first | (cases h;rfl) | cases h
theorem zKM {c:C} {e:Ext} (h:zNg c=some e):c= .ext e:=by cases c<;>first | (cases h;rfl) | cases h
theorem zMW {v:V} {k:Nat} (h:zO4 v=some k):v= .yl k:=by cases v<;>first | (cases h;rfl) | cases h
theorem zMk {o:AOp} {r:Bool} {f:Opd} {a:List Opd} (h:zJZ o=some (r,f,a)):o= .call r f a:=by cases o<;>first | (cases h;rfl) | cases h
theorem zLj {o:AOp} {f:Opd} {a:List Opd} (h:zJp o=some (f,a)):o= .fcall f a:=by cases o<;>first | (cases h;rfl) | cases h
theorem zJq (hR:zHr Γ G R) {d:Bool} {p:Nat} {ro:ROp} {l:List ROp} {s:E} {k:Nat} {vs:List V} {o:EO} {f:Opd} {args:List Opd} (hw:zcs s.st ro.guard=some true) (hf:s.st.free ro.dst {}) (ho:ro.op= .call true f args)
 (As:evl G s.st f=some (.yl k)) (Au:zgE G s.st args=some vs) (h:evYield R d p ro l s k vs=some o):Big Γ G (.ops d p (ro::l) s.st) o.out:=by
 unfold evYield at h;obtain⟨⟨env,ps,bd,st⟩,hk,z1⟩:=bind_some h;obtain⟨_,AE,z2⟩:=bind_some z1;obtain⟨⟨ca,cb⟩,hc,z3⟩:=bind_some z2;obtain⟨_,Ac,z4⟩:=bind_some z3;obtain⟨⟨e1,s1⟩,h1,z5⟩:=bind_some z4;obtain⟨_,Oa,z6⟩:=bind_some z5;obtain⟨⟨env1,ps1,bd1,st1⟩,AT,z7⟩:=bind_some z6;obtain⟨_,Nc,z8⟩:=bind_some z7;obtain⟨⟨e2,s2⟩,h2,z9⟩:=bind_some z8;obtain⟨⟨env',ps',bd',st2⟩,AF,z10⟩:=bind_some z9;obtain⟨_,Gs,z11⟩:=bind_some z10;have q1:=zLe (zGQ AE);have q2:=zLf (zGQ Nc);have q3:=zL4 (zGQ Gs);have q4:=zK0 hc;have q5:=of_decide_eq_true (zGQ Oa);have q6:=of_decide_eq_true (zGQ Ac);simp only at q1 q2 q3 q4 q5 q6 h1 h2 hk AT AF z11;subst q1 q2 q3 q4 q5;obtain⟨s',rfl,hb⟩:=zGO hR z11;have g1:=hR _ _ (zGH h1);have g2:=hR _ _ (zGH h2);simp only[ET.task,EO.out,E.round_st]at g1 g2;refine .opsYield (s:=s.st) (s1:=s1.st) (s2:=s2.st) (e:=e2) hw hf ho As (zHL hk) Au q6 g1 (zHL AT) ?_ (zHL AF) ?_
 ·simpa only[E.st,Fn.app_set]using g2
 ·simpa only[E.st,Fn.app_set]using hb
theorem zLk (hR:zHr Γ G R) {d:Bool} {p:Nat} {ro:ROp} {l:List ROp} {s:E} {o:EO} (hw:zcs s.st ro.guard=some true) (h:evOp Γ G R d p ro l s=some o):Big Γ G (.ops d p (ro::l) s.st) o.out:=by
 unfold evOp at h;split at h
 ·rename_i raw f args Da;have ho:=zMk Da;obtain⟨_,hf,h⟩:=bind_some h;obtain⟨fv,As,h⟩:=bind_some h;obtain⟨vs,Au,h⟩:=bind_some h;have Bd:=E.free_of (zGQ hf);split at h
  ·rename_i k hk;obtain⟨_,hr,h⟩:=bind_some h;have Ah:=zMW hk;rw[Ah]at As;rw[zGQ hr]at ho;exact zJq hR hw Bd ho As Au h
  ·obtain⟨⟨g,a,b⟩,Ax,h⟩:=bind_some h;obtain⟨fn,hg,h⟩:=bind_some h;split at h
   ·rename_i HT;rw[HT]at ho;obtain⟨_,T1,h⟩:=bind_some h;obtain⟨a',Bu,h⟩:=bind_some h;obtain⟨⟨r,h',n'⟩,hc,h⟩:=bind_some h;obtain⟨s',rfl,hb⟩:=zGO hR h;have g1:=hR _ _ (zII hc);exact .opsRaw hw Bd ho As Ax Bu hg (fun hk=>by have:=zGQ T1;rw[hk]at this;cases this) Au g1 hb
   ·rename_i HT;have HT:raw=false:=by simpa using HT
    rw[HT]at ho;obtain⟨_,hr,h⟩:=bind_some h;obtain⟨rs,AD,h⟩:=bind_some h;obtain⟨r,hc,h⟩:=bind_some h;obtain⟨_,hd,h⟩:=bind_some h;obtain⟨s',rfl,hb⟩:=zGO hR h;have g1:=hR _ _ (zKS hc);have Dz:fn.raw=false:=by simpa using zGQ hr
    have JS:=zGQ hd;simp only[Bool.or_eq_true,Bool.not_eq_true',List.isEmpty_iff]at JS;refine .opsPure hw Bd ho As Ax hg Dz Au AD g1 (fun h0=> ?_) hb;rcases JS with(JS | JS) | JS
    ·rw[JS]at h0;cases h0
    ·exact .inl JS
    ·exact .inr JS
 ·split at h
  ·rename_i f args Da;have ho:=zLj Da;obtain⟨_,hf,h⟩:=bind_some h;obtain⟨fv,As,h⟩:=bind_some h;obtain⟨vs,Au,h⟩:=bind_some h;obtain⟨⟨g,a,b⟩,Ax,h⟩:=bind_some h;obtain⟨fn,hg,h⟩:=bind_some h;obtain⟨_,hr,h⟩:=bind_some h;obtain⟨rs,AD,h⟩:=bind_some h;obtain⟨_,hd,h⟩:=bind_some h;obtain⟨⟨r,h',n'⟩,hc,h⟩:=bind_some h;obtain⟨e,he,h⟩:=bind_some h;obtain⟨s',rfl,hb⟩:=zGO hR h;have g1:=hR _ _ (zII hc);exact .opsFresh hw (E.free_of (zGQ hf)) ho As Ax hg trivial Au AD (List.isEmpty_iff.1 (zGQ hd)) g1 he hb
  ·obtain⟨e,he,h⟩:=bind_some h;obtain⟨_,hf,h⟩:=bind_some h;obtain⟨s',rfl,hb⟩:=zGO hR h;exact .opsEff hw (E.free_of (zGQ hf)) he hb
theorem zH7 (hR:zHr Γ G R):zHr Γ G (evStep Γ G R):=by
 intro t o h
 cases t with
 | code c s=>exact zJS hR h
 | loop b s=>
   simp only[evStep]at h;obtain⟨⟨e,s1⟩,h1,h⟩:=bind_some h;have g1:=hR _ _ (zGH h1)
   cases e with
   | normal=>
     obtain⟨⟨e2,s2⟩,h2,h⟩:=bind_some h;simp only[zA]at h;subst h
     exact .loopN g1 (hR _ _ (zGH h2))
   | exit id=>simp only[zA]at h;subst h;exact .loopX g1 (by intro h;cases h)
   | ret=>simp only[zA]at h;subst h;exact .loopX g1 (by intro h;cases h)
 | ops d p l s=>
   cases l with
   | nil=>simp only[evStep,zA]at h;subst h;exact .opsNil
   | cons ro l=>
     simp only[evStep]at h;obtain⟨w,hw,h⟩:=bind_some h
     cases w with
     | true=>exact zLk hR hw h
     | false=>
       simp only[zG,if_false]at h;obtain⟨_,hf,h⟩:=bind_some h;obtain⟨s',rfl,hb⟩:=zGO hR h
       exact .opsSkip hw (E.free_of (zGQ hf)) hb
 | pcall g args=>
   simp only[evStep]at h;obtain⟨fn,hg,h⟩:=bind_some h;obtain⟨_,hr,h⟩:=bind_some h;have Dz:fn.raw=false:=by simpa using zGQ hr
   split at h
   ·rename_i e he;obtain⟨r,hx,h⟩:=bind_some h;simp only[zA]at h;subst h;exact .pext hg Dz (zKM he) hx
   ·obtain⟨⟨e,s1⟩,h1,h⟩:=bind_some h;obtain⟨_,hn,h⟩:=bind_some h;obtain⟨v,hv,h⟩:=bind_some h;obtain⟨r,Bh,h⟩:=bind_some h;simp only[zA]at h;subst h
    exact .pcall hg Dz (hR _ _ (zGH h1)) (zJJ (zGQ hn)) hv Bh
 | rcall g args hp m=>
   simp only[evStep]at h;obtain⟨fn,hg,h⟩:=bind_some h;split at h
   ·rename_i hr;obtain⟨rs,AD,h⟩:=bind_some h;obtain⟨r,hc,h⟩:=bind_some h;simp only[zA]at h;subst h;have:=Big.rpure (n:=m) hg hr AD (hR _ _ (zKS hc));rw[<- E.hpSet_app]at this;exact this
   obtain⟨_,hr,h⟩:=bind_some h;split at h
   ·rename_i e he;obtain⟨⟨r,h',n'⟩,hx,h⟩:=bind_some h;simp only[zA]at h;subst h;exact .rext hg (zGQ hr) (zKM he) hx
   ·obtain⟨⟨e,s1⟩,h1,h⟩:=bind_some h;obtain⟨_,hn,h⟩:=bind_some h;obtain⟨v,hv,h⟩:=bind_some h;simp only[zA]at h;subst h;exact .rcall hg (zGQ hr) (hR _ _ (zGH h1)) (zJJ (zGQ hn)) hv
theorem zKN: ∀n,zHr Γ G (ev Γ G n)
 | 0=>fun _ _ h=>by cases h
 | n+1=>zH7 (zKN n)
theorem zNQ (n:Nat) {g:Nat} {args:List V} {r:V} (h:ev Γ G n (.pcall g args)=some (.val r)):Den Γ G g args=some r:=zhC.2 (zKN n _ _ h)
end
/-! The same evaluator in a form that the kernel runs with less room. -/
abbrev TG:=Nat->Option F
abbrev TL:=Nat->List T
abbrev TR:=ET->Option EO
theorem zG3 {α β:Type} (x:Option α) (f:α->Option β):x.bind f=Option.rec none f x:=by cases x<;>rfl
theorem zGS {α:Type} (x:Option EO) (f:E->Option α):(zLq x).bind f=Option.rec none (fun o=>EO.rec (fun _ _=>none) f (fun _=>none) (fun _ _ _=>none) o) x:=by
 cases x with
 | none=>rfl
 | some o=>cases o<;>rfl
theorem zGU {α:Type} (x:Option EO) (f:Ex×E->Option α):(zHa x).bind f=Option.rec none (fun o=>EO.rec (fun e s=>f (e,s)) (fun _=>none) (fun _=>none) (fun _ _ _=>none) o) x:=by
 cases x with
 | none=>rfl
 | some o=>cases o<;>rfl
theorem zG8 {α:Type} (x:Option EO) (f:V->Option α):(zMl x).bind f=Option.rec none (fun o=>EO.rec (fun _ _=>none) (fun _=>none) f (fun _ _ _=>none) o) x:=by
 cases x with
 | none=>rfl
 | some o=>cases o<;>rfl
theorem zGT {α:Type} (x:Option EO) (f:V×Fn (Option O)×Nat->Option α):(zJa x).bind f=Option.rec none (fun o=>EO.rec (fun _ _=>none) (fun _=>none) (fun _=>none) (fun v h n=>f (v,h,n)) o) x:=by
 cases x with
 | none=>rfl
 | some o=>cases o<;>rfl
noncomputable def valsE (v:V) (s:E):EO:=E.rec (fun _ _ _ _ heap nxt _=>EO.vals v heap nxt) s
theorem zHg (v:V) (s:E):EO.vals v s.heap s.nxt=valsE v s:=by cases s;rfl
theorem zHj {α:Type} (b:Bool) (f:Unit->Option α):(ask b).bind f=Bool.rec none (f ()) b:=by cases b<;>rfl
theorem zHC {α:Type} (b:Bool) (x y:α):(if b=true then x else y)=Bool.rec y x b:=by cases b<;>rfl
noncomputable def stE (t:Option Nat) (env:Fn V) (loc:Fn (Option (List V))) (adr:Fn (Option (Nat×Nat))) (used:Fn Bool) (heap:Fn (Option O)) (nxt bas:Nat) (v:V) (a:Option (Nat×Nat)) (c:Option (List V)) (w:Option (Nat×List V)):E:=
 Option.rec ⟨env,Option.rec loc (fun w=>loc.set w.1 (some w.2)) w,adr,Option.rec used (fun a=>used.set a.1 true) a,heap,nxt,bas⟩
  (fun t=>⟨env.set t v,(Option.rec loc (fun w=>loc.set w.1 (some w.2)) w:Fn (Option (List V))).set t c,adr.set t a,Option.rec used (fun a=>used.set a.1 true) a,heap,nxt,bas⟩) t
noncomputable def restE (R:TR) (d:Bool) (p:Nat) (t:Option Nat) (l:List ROp) (env:Fn V) (loc:Fn (Option (List V))) (adr:Fn (Option (Nat×Nat))) (used:Fn Bool) (heap:Fn (Option O)) (nxt bas:Nat) (e:Eff):Option EO:=
 Option.rec none (fun q=>EO.rec (fun _ _=>none) (fun s'=>some (.ops s')) (fun _=>none) (fun _ _ _=>none) q) (R (.ops d (p+1) l
  (Eff.rec (fun v a c w hp=>List.rec (stE t env loc adr used heap nxt bas v a c w) (fun _ _ _=>stE t env loc adr used (E.hpSet heap hp) nxt bas v a c w) hp) e)))
theorem zJi (R:TR) (d:Bool) (p:Nat) (t:Option Nat) (g:Option (Nat×Bool)) (op:AOp) (l:List ROp) (env:Fn V) (loc:Fn (Option (List V))) (adr:Fn (Option (Nat×Nat))) (used:Fn Bool) (heap:Fn (Option O)) (nxt bas:Nat) (e:Eff):
 evRest R d p ⟨g,t,op⟩ l ⟨env,loc,adr,used,heap,nxt,bas⟩ e=restE R d p t l env loc adr used heap nxt bas e:=by
 have h:E.apply ⟨env,loc,adr,used,heap,nxt,bas⟩ t e=Eff.rec (fun v a c w hp=>List.rec (stE t env loc adr used heap nxt bas v a c w) (fun _ _ _=>stE t env loc adr used (E.hpSet heap hp) nxt bas v a c w) hp) e:=by
  obtain⟨v,a,c,w,hp⟩:=e;cases t<;>cases hp<;>rcases a with _ | ⟨a1,a2⟩<;>rcases w with _ | ⟨w1,w2⟩<;>rfl
 unfold evRest restE;rw[zGS];simp only[h]
theorem zNG (Γ:TG) (G:TL) (R:TR) (d:Bool) (p:Nat) (g:Option (Nat×Bool)) (t:Option Nat) (op:AOp) (l:List ROp) (env:Fn V) (loc:Fn (Option (List V))) (adr:Fn (Option (Nat×Nat))) (used:Fn Bool) (heap:Fn (Option O)) (nxt bas:Nat) (h1:zJZ op=none) (h2:zJp op=none):
 (Option.rec none (fun e=>Bool.rec none (restE R d p t l env loc adr used heap nxt bas e) (E.freeB ⟨env,loc,adr,used,heap,nxt,bas⟩ t e)) (zaj G p (E.st ⟨env,loc,adr,used,heap,nxt,bas⟩) op):Option EO)=evOp Γ G R d p ⟨g,t,op⟩ l ⟨env,loc,adr,used,heap,nxt,bas⟩:=by
 simp only[evOp,h1,h2,zHj,zJi];simp only[zG3]
noncomputable def evO1 (op:AOp): {f:TG->TL->TR->Bool->Nat->Option (Nat×Bool)->Option Nat->List ROp->Fn V->Fn (Option (List V))->Fn (Option (Nat×Nat))->Fn Bool->Fn (Option O)->Nat->Nat->Option EO//
 ∀Γ G R d p g t l env loc adr used heap nxt bas,f Γ G R d p g t l env loc adr used heap nxt bas=evOp Γ G R d p ⟨g,t,op⟩ l ⟨env,loc,adr,used,heap,nxt,bas⟩}:=by
 induction op
 case call r f a=>exact⟨_,fun Γ G R d p g t l env loc adr used heap nxt bas=>by simp only[evOp,zJZ,zJi,zGS,zGU,zG8,zGT,zHg,zHj];(try simp only[zG3,zHC]);rfl⟩
 case fcall f a=>exact⟨_,fun Γ G R d p g t l env loc adr used heap nxt bas=>by simp only[evOp,zJZ,zJp,zJi,zGS,zGU,zG8,zGT,zHg,zHj];(try simp only[zG3,zHC]);rfl⟩
 all_goals exact⟨_,fun Γ G R d p g t l env loc adr used heap nxt bas=>by refine Eq.trans ?_ (zNG Γ G R d p g t _ l env loc adr used heap nxt bas rfl rfl);simp only[zaj,zC,zG3];rfl⟩
noncomputable def begE (s:E) (n:Nat):E:=
 E.rec (fun env loc _ _ heap nxt _=>Nat.rec ⟨env,loc,.of fun _=>none,.of fun _=>false,heap,n,0⟩ (fun m _=>⟨env,loc,.of fun _=>none,.of fun _=>false,heap,m+1+n,m+1⟩) nxt) s
theorem zNm (s:E) (n:Nat):s.begin n=begE s n:=by
 obtain⟨env,loc,adr,used,heap,nxt,bas⟩:=s;cases nxt
 ·show(⟨env,loc,_,_,heap,0+n,0⟩:E)=⟨env,loc,_,_,heap,n,0⟩;rw[Nat.zero_add]
 ·rfl
noncomputable def evC1 (c:C): {f:TG->TL->TR->E->Option EO// ∀Γ G R s,f Γ G R s=evCode Γ G R s c}:=by
 induction c<;>exact⟨_,fun Γ G R s=>by simp only[evCode,zNm,zGS,zGU,zG8,zGT,zHg,zHj];(try simp only[zG3,zHC]);rfl⟩
noncomputable def skp (env:Fn V) (loc:Fn (Option (List V))) (adr:Fn (Option (Nat×Nat))) (used:Fn Bool) (heap:Fn (Option O)) (nxt bas:Nat) (dst:Option Nat):E:=
 Option.rec ⟨env,loc,adr,used,heap,nxt,bas⟩ (fun d=>⟨env.set d .undef,loc.set d none,adr.set d none,used,heap,nxt,bas⟩) dst
theorem zNA (env:Fn V) (loc:Fn (Option (List V))) (adr:Fn (Option (Nat×Nat))) (used:Fn Bool) (heap:Fn (Option O)) (nxt bas:Nat) (dst:Option Nat):E.apply ⟨env,loc,adr,used,heap,nxt,bas⟩ dst {}=skp env loc adr used heap nxt bas dst:=by
 cases dst<;>rfl
theorem zNh (Γ:TG) (G:TL) (R:TR) (d:Bool) (p:Nat) (o:ROp) (l:List ROp) (env:Fn V) (loc:Fn (Option (List V))) (adr:Fn (Option (Nat×Nat))) (used:Fn Bool) (heap:Fn (Option O)) (nxt bas:Nat):
 (Option.rec none (fun w=>Bool.rec (Bool.rec none (Option.rec none (fun q=>EO.rec (fun _ _=>none) (fun s'=>some (.ops s')) (fun _=>none) (fun _ _ _=>none) q) (R (.ops d (p+1) l (skp env loc adr used heap nxt bas o.dst)))) (E.freeB ⟨env,loc,adr,used,heap,nxt,bas⟩ o.dst {}))
   ((evO1 o.op).1 Γ G R d p o.guard o.dst l env loc adr used heap nxt bas) w) (zcs (E.st ⟨env,loc,adr,used,heap,nxt,bas⟩) o.guard):Option EO)=evStep Γ G R (.ops d p (o::l) ⟨env,loc,adr,used,heap,nxt,bas⟩):=by
 simp only[evStep]
 cases zcs (E.st ⟨env,loc,adr,used,heap,nxt,bas⟩) o.guard with
 | none=>rfl
 | some w=>
   cases w with
   | true=>exact(evO1 o.op).2 ..
   | false=>
     simp only[zD,zG,if_false,evRest,zNA]
     cases E.freeB ⟨env,loc,adr,used,heap,nxt,bas⟩ o.dst {}with
     | false=>rfl
     | true=>
       simp only[zGS,zHj]
noncomputable def evS1 (t:ET): {f:TG->TL->TR->Option EO// ∀Γ G R,f Γ G R=evStep Γ G R t}:=by
 induction t with
 | code c s=>exact⟨fun Γ G R=>(evC1 c).1 Γ G R s,fun Γ G R=>(evC1 c).2 Γ G R s⟩
 | loop b s=>exact⟨_,fun Γ G R=>by simp only[evStep,zGS,zGU,zG8,zGT,zHg,zHj];(try simp only[zG3,zHC]);rfl⟩
 | ops d p l s=>
   induction l with
   | nil=>exact⟨_,fun Γ G R=>by simp only[evStep,zGS,zGU,zG8,zGT,zHg,zHj];(try simp only[zG3,zHC]);rfl⟩
   | cons o l _=>
     induction s with
     | mk env loc adr used heap nxt bas=>exact⟨_,fun Γ G R=>zNh Γ G R d p o l env loc adr used heap nxt bas⟩
 | pcall g a=>exact⟨_,fun Γ G R=>by simp only[evStep,zGS,zGU,zG8,zGT,zHg,zHj];(try simp only[zG3,zHC]);rfl⟩
 | rcall g a h m=>exact⟨_,fun Γ G R=>by simp only[evStep,zGS,zGU,zG8,zGT,zHg,zHj];(try simp only[zG3,zHC]);rfl⟩
noncomputable def knownT (K:Nat->List V->Option V) (t:ET):Option V:=ET.rec (fun _ _=>none) (fun _ _=>none) (fun _ _ _ _=>none) K (fun _ _ _ _=>none) t
noncomputable def ev2 (K:Nat->List V->Option V) (Γ:TG) (G:TL) (n:Nat):TR:=Nat.rec (fun _=>none) (fun _ R t=>Option.rec ((evS1 t).1 Γ G R) (fun r=>some (.val r)) (knownT K t)) n
theorem zJT {Γ:TG} {G:TL} {K:Nat->List V->Option V} (hK: ∀g args r,K g args=some r->Den Γ G g args=some r): ∀n,zHr Γ G (ev2 K Γ G n)
 | 0=>fun _ _ h=>by cases h
 | n+1=>by
   intro t o h;have h':(Option.rec ((evS1 t).1 Γ G (ev2 K Γ G n)) (fun r=>some (.val r)) (knownT K t):Option EO)=some o:=h
   cases hk:knownT K t with
   | none=>
     rw[hk]at h';have h2:(evS1 t).1 Γ G (ev2 K Γ G n)=some o:=h';rw[(evS1 t).2]at h2
     exact zH7 (zJT hK n) _ _ h2
   | some r=>
     rw[hk]at h';cases h'
     cases t with
     | pcall g a=>exact zhC.1 (hK g a r hk)
     | _=>cases hk
theorem zNj {Γ:TG} {G:TL} {K:Nat->List V->Option V} (hK: ∀g args r,K g args=some r->Den Γ G g args=some r) (n:Nat) {g:Nat} {args:List V} {r:V} (h:ev2 K Γ G n (.pcall g args)=some (.val r)):Den Γ G g args=some r:=
 zhC.2 (zJT hK n _ _ h)
end Rg
end
section
set_option maxRecDepth 100000
namespace Rg
open Go
mutual
def eqT:T->T->Bool
 | .int k a,.int l b=>decide (k=l)&&decide (a=b)
 | .bool a,.bool b=>decide (a=b)
 | .str a,.str b=>decide (a.data.toList=b.data.toList)
 | .sl a,.sl b=>zNr a b
 | .ip a,.ip b=>eqR a b
 | _,_=>false
def eqR:List T->List T->Bool
 | [],[]=>true
 | x::a,y::b=>eqT x y&&eqR a b
 | _,_=>false
def zNr:List (List T)->List (List T)->Bool
 | [],[]=>true
 | x::a,y::b=>eqR x y&&zNr a b
 | _,_=>false
end
mutual
theorem zMV: ∀{a b:T},eqT a b=true->a=b
 | .int k a,b,h=>by
   cases b<;>simp only[eqT,zF,decide_eq_true_eq,zG]at h
   rw[h.1,h.2]
 | .bool a,b,h=>by
   cases b<;>simp only[eqT,decide_eq_true_eq,zG]at h
   rw[h]
 | .str a,b,h=>by
   cases b<;>simp only[eqT,decide_eq_true_eq,zG]at h
   rename_i b
   have:a=b:=by
    cases a;cases b
    congr
    exact Array.toList_inj.1 h
   rw[this]
 | .sl a,b,h=>by
   cases b<;>simp only[eqT,zG]at h
   rw[zMd h]
 | .nilp,b,h=>by simp[eqT]at h
 | .nils,b,h=>by simp[eqT]at h
 | .nilm,b,h=>by simp[eqT]at h
 | .nilf,b,h=>by simp[eqT]at h
 | .nili,b,h=>by simp[eqT]at h
 | .ip a,b,h=>by
   cases b<;>simp only[eqT,zG]at h
   rw[zKO h]
 | .fn _ _ _,b,h=>by simp[eqT]at h
 | .fa _ _,b,h=>by simp[eqT]at h
 | .opq,b,h=>by simp[eqT]at h
 | .slc _,b,h=>by simp[eqT]at h
theorem zKO: ∀{a b:List T},eqR a b=true->a=b
 | [],[],_=>rfl
 | [],_::_,h=>by simp[eqR]at h
 | _::_,[],h=>by simp[eqR]at h
 | x::a,y::b,h=>by
   simp only[eqR,zF]at h;rw[zMV h.1,zKO h.2]
theorem zMd: ∀{a b:List (List T)},zNr a b=true->a=b
 | [],[],_=>rfl
 | [],_::_,h=>by simp[zNr]at h
 | _::_,[],h=>by simp[zNr]at h
 | x::a,y::b,h=>by
   simp only[zNr,zF]at h;rw[zKO h.1,zMd h.2]
end
def zJV:List V->Option (List T)
 | []=>some []
 | .t x::r=>(zJV r).map (x:: ·)
 | _=>none
theorem zID: ∀{l:List V} {r:List T},zJV l=some r->l=r.map V.t
 | [],r,h=>by cases h;rfl
 | .t x::l,r,h=>by
   simp only[zJV,zE]at h;obtain⟨y,hy,rfl⟩:=h
   rw[zID hy];rfl
 | .ms _ _ _::_,_,h=>by cases h
 | .mp _ _ _::_,_,h=>by cases h
 | .mm _::_,_,h=>by cases h
 | .yl _::_,_,h=>by cases h
 | .ifc _ _::_,_,h=>by cases h
 | .fn _ _ _::_,_,h=>by cases h
 | .agg _::_,_,h=>by cases h
 | .tup _::_,_,h=>by cases h
 | .undef::_,_,h=>by cases h
 | .lb::_,_,h=>by cases h
def eqV:V->V->Bool
 | .t a,.t b=>eqT a b
 | .agg a,.agg b=>match zJV a,zJV b with
   | some x,some y=>eqR x y
   | _,_=>false
 | _,_=>false
theorem zNP {a b:V} (h:eqV a b=true):a=b:=by
 unfold eqV at h;split at h
 ·rw[zMV h]
 ·split at h
  ·rename_i h1 h2;rw[zID h1,zID h2,zKO h]
  ·cases h
 ·cases h
def zNq:List V->List V->Bool
 | [],[]=>true
 | x::a,y::b=>eqV x y&&zNq a b
 | _,_=>false
theorem zMc: ∀{a b:List V},zNq a b=true->a=b
 | [],[],_=>rfl
 | [],_::_,h=>by simp[zNq]at h
 | _::_,[],h=>by simp[zNq]at h
 | x::a,y::b,h=>by
   simp only[zNq,zF]at h;rw[zNP h.1,zMc h.2]
def zPc (l:List (Nat×List V×V)) (g:Nat) (args:List V):Option V:=(l.find? fun e=>e.1==g&&zNq e.2.1 args).map (·.2.2)
theorem zM8 {l:List (Nat×List V×V)} (h: ∀e∈l,Den Γ G e.1 e.2.1=some e.2.2): ∀g args r,zPc l g args=some r->Den Γ G g args=some r:=by
 intro g args r hr;unfold zPc at hr;rw[zE]at hr;obtain⟨e,he,rfl⟩:=hr;have h1:=List.find?_some he;simp only[zF,beq_iff_eq]at h1;rw[<- h1.1,<- zMc h1.2];exact h e (List.mem_of_find?_eq_some he)
end Rg
end
section
set_option maxRecDepth 100000
namespace Rg
open Go
abbrev zHM (k:Int) (nm:List UInt8) (n:Int):Nd:=.mk k (bs nm) (bs []) n 0 0 false [] 0
def hdM (nm call:List UInt8):Nd:=.mk 60 (bs nm) (bs [65,110,110]) 0 0 0 false
 [.mk 51 (bs [114]) (bs []) 0 0 0 false [zHM 52 [97] 3,zHM 52 [98] 2] 0,
  .mk 50 (bs [118]) (bs [114]) 0 2 1 false [] 0,
  .mk 50 (bs [120]) (bs []) 2 0 5 false [] 7,
  .mk 57 (bs [112]) (bs []) 0 0 0 false [zHM 58 [107] 2,.mk 34 (bs []) (bs []) 0 0 0 false [zHM 35 [108] 1,.mk 33 (bs call) (bs []) 0 0 0 false [zHM 1 [] 1] 0] 0] 0] 0
def hdT:Nd:=.mk 61 (bs [116]) (bs [78,46,112]) 1 0 0 false [zHM 1 [] 3] 0
def zIv:Nd:=.mk 62 (bs []) (bs []) 0 0 0 false [hdM [77] [78,46,112],hdM [78] [113],hdT] 0
def zIu:Nd:=.mk 62 (bs []) (bs []) 0 0 0 false [hdM [77] [77,46,112]] 0
def hdV (m:Int) (nm:List UInt8) (w len init:Int):Va:=⟨bs nm,w,len,init,false,m,0⟩
def hdP (m:Int) (call:List UInt8) (calls:List Int):Pr:=⟨bs [112],m,[⟨bs [107],2,0,0,false,m,0⟩],[⟨bs [108],1,0,0,false,m,0⟩],bs [],.mk 34 (bs []) (bs []) 0 0 0 false [zHM 35 [108] 1,.mk 33 (bs call) (bs []) 0 0 0 false [zHM 1 [] 1] 0] 0,calls,0⟩
def zOH (nm:List UInt8):Mo:=⟨bs nm,bs [65,110,110],.noneN,.noneN,[],0⟩
def zOG (m:Int):List Va:=[hdV m [118,46,97] 3 2 1,hdV m [118,46,98] 2 2 1]
def zMG:Ct:=⟨[zOH [77],zOH [78]],zOG 0++zOG 1,[],[hdP 0 [78,46,112] [1],hdP 1 [113] []],[⟨bs [116],1,[3],true,0⟩],[hdM [77] [78,46,112],hdM [78] [113]],[(50,7),(50,7)],
 [(0,bs [114]),(0,bs [118]),(0,bs [112]),(1,bs [114]),(1,bs [118]),(1,bs [112])],[((0,bs [114]),[zHM 52 [97] 3,zHM 52 [98] 2]),((1,bs [114]),[zHM 52 [97] 3,zHM 52 [98] 2])]⟩
def zKn:Ct:={ zMG with procs:=[hdP 0 [78,46,112] [],hdP 1 [113] []] }
theorem zJB (a:Int):sortI [a]=[a]:=by simp[sortI]
theorem zLv:sortI []=[]:=by simp[sortI]
theorem zNe:(Ct.nil.modules zIv).decls.threads zIv=zKn:=by kernel_rfl
theorem zL9:zKn.callsM=zMG:=by
 have h1:zGG zKn.mn zKn.pk (hdP 0 [78,46,112] [])=[1]:=by
  unfold zGG;rw[show(hdP 0 [78,46,112] []).body.flat.foldl (zGy zKn.mn zKn.pk (hdP 0 [78,46,112] []).module) []=[1]by kernel_rfl];exact zJB 1
 have h2:zGG zKn.mn zKn.pk (hdP 1 [113] [])=[]:=by
  unfold zGG;rw[show(hdP 1 [113] []).body.flat.foldl (zGy zKn.mn zKn.pk (hdP 1 [113] []).module) []=[]by kernel_rfl];exact zLv
 have h3:zKn.procs.foldl (zHB zKn.locks) zKn.diags=zKn.diags:=by kernel_rfl
 unfold Ct.callsM;rw[h3,show zKn.procs=[hdP 0 [78,46,112] [],hdP 1 [113] []]from rfl,List.map_cons,List.map_cons,List.map_nil,h1,h2];rfl
theorem zLt {g:List (List Int)} {i j:Nat} (w:Way g i j):g.getD i []≠[]:=by
 cases w with
 | one h=>intro e;rw[e]at h;simp at h
 | cons h t=>intro e;rw[e]at h;simp at h
theorem zNJ: ∀i,reachB [[1],[]] i=false:=fun i=>by
 unfold reachB;simp only[decide_eq_false_iff_not];have h1: ∀j,¬Way [[1],[]] 1 j:=fun j w=>zLt w rfl
 have h2: ∀k j,¬Way [[1],[]] (k+2) j:=fun k j w=>zLt w (by simp)
 intro w
 match i,w with
 | 0,w=>
   cases w with
   | one h=>simp at h
   | cons h t=>
     rename_i j;have:j=1:=by simp at h;omega
     subst this
     exact h1 _ t
 | 1,w=>exact h1 _ w
 | k+2,w=>exact h2 _ _ w
theorem zKp:collectM zIv=zMG:=by
 have hk:zIv.kind=62:=rfl;unfold collectM;rw[if_pos hk,zNe,zL9];have hg:zMG.graph=[[1],[]]:=rfl;unfold Ct.cyclesM
 have : ∀(l:List (Pr×Nat)) (d:List (Int×Int)),l.foldl (cycD zMG.graph) d=d:=fun l=>by
  induction l with
  | nil=>intro d;rfl
  | cons a l ih=>
    intro d;rw[List.foldl_cons,cycD,hg,zNJ];have:=ih d;rw[hg]at this;exact this
 rw[this]
def zMF:Ct:=⟨[zOH [77]],zOG 0,[],[hdP 0 [77,46,112] [0]],[],[hdM [77] [77,46,112]],[(50,7)],[(0,bs [114]),(0,bs [118]),(0,bs [112])],[((0,bs [114]),[zHM 52 [97] 3,zHM 52 [98] 2])]⟩
def zL7:Ct:={ zMF with procs:=[hdP 0 [77,46,112] []] }
theorem zNd:(Ct.nil.modules zIu).decls.threads zIu=zL7:=by kernel_rfl
theorem zL8:zL7.callsM=zMF:=by
 have h1:zGG zL7.mn zL7.pk (hdP 0 [77,46,112] [])=[0]:=by
  unfold zGG;rw[show(hdP 0 [77,46,112] []).body.flat.foldl (zGy zL7.mn zL7.pk (hdP 0 [77,46,112] []).module) []=[0]by kernel_rfl];exact zJB 0
 have h3:zL7.procs.foldl (zHB zL7.locks) zL7.diags=zL7.diags:=by kernel_rfl
 unfold Ct.callsM;rw[h3,show zL7.procs=[hdP 0 [77,46,112] []]from rfl,List.map_cons,List.map_nil,h1];rfl
theorem zKo:collectM zIu= { zMF with diags:=[(50,7),(42,0)] }:=by
 have hk:zIu.kind=62:=rfl;unfold collectM;rw[if_pos hk,zNd,zL8];have hg:zMF.graph=[[0]]:=rfl
 have hb:reachB [[0]] 0=true:=by
  unfold reachB;simp only[decide_eq_true_eq];exact .one (by simp)
 unfold Ct.cyclesM;rw[hg]
 have:zMF.procs.zipIdx.foldl (cycD [[0]]) zMF.diags=[(50,7),(42,0)]:=by
  show cycD [[0]] zMF.diags (hdP 0 [77,46,112] [0],0)=_;unfold cycD;rw[if_pos hb];rfl
 rw[this]
def zPd (e:Nd):Bool:=decide (-9223372036854775808<=e.kind/\e.kind<=9223372036854775807)&&decide (-9223372036854775808<=e.n/\e.n<=9223372036854775807)&&decide (-9223372036854775808<=e.len/\e.len<=9223372036854775807)&&decide (-9223372036854775808<=e.init/\e.init<=9223372036854775807)&&decide (-9223372036854775808<=e.pos/\e.pos<=9223372036854775807)&&decide (e.name.size<=1048576)&&decide (e.other.size<=1048576)&&decide (e.kids.length<=1048576)
theorem zLA (t:Nd) (h:t.flat.all zPd=true):t.sane:=fun x hx=>by
 have:=List.all_eq_true.1 h x hx;simp only[zPd,zF,decide_eq_true_eq]at this;obtain⟨⟨⟨⟨⟨⟨⟨a,b⟩,c⟩,d⟩,e⟩,f⟩,g⟩,k⟩:=this;exact⟨a,b,c,d,e,f,g,k⟩
theorem zKv:Den Γ G 595 [(.agg [.t (ti (zIv).kind),.t (.str (zIv).name),.t (.str (zIv).other),.t (ti (zIv).n),.t (ti (zIv).len),.t (ti (zIv).init),.t (tb (zIv).ghost),.t (.sl ((zIv).kids.map Nd.enc)),.t (ti (zIv).pos)])]=some (.tup [zKE zMG,.t (.sl [[ti 50,ti 7],[ti 50,ti 7]])]):=by
 have:=zHi zIv (by decide) (zLA _ (by kernel_rfl));rw[zKp]at this;exact this
theorem zKu:Den Γ G 595 [(.agg [.t (ti (zIu).kind),.t (.str (zIu).name),.t (.str (zIu).other),.t (ti (zIu).n),.t (ti (zIu).len),.t (ti (zIu).init),.t (tb (zIu).ghost),.t (.sl ((zIu).kids.map Nd.enc)),.t (ti (zIu).pos)])]=some (.tup [zKE zMF,.t (.sl [[ti 50,ti 7],[ti 42,ti 0]])]):=by
 have:=zHi zIu (by decide) (zLA _ (by kernel_rfl));rw[zKo]at this;exact this
theorem zMB:Den Γ G 600 [zKE zMG]=some (.tup [.t (.sl [[ti 1],[ti 0]]),vi 0]):=zNQ 3000 (by kernel_rfl)
def h04:List (Nat×List V×V):=[(595,[(.agg [.t (ti (zIv).kind),.t (.str (zIv).name),.t (.str (zIv).other),.t (ti (zIv).n),.t (ti (zIv).len),.t (ti (zIv).init),.t (tb (zIv).ghost),.t (.sl ((zIv).kids.map Nd.enc)),.t (ti (zIv).pos)])],.tup [zKE zMG,.t (.sl [[ti 50,ti 7],[ti 50,ti 7]])]),(595,[(.agg [.t (ti (zIu).kind),.t (.str (zIu).name),.t (.str (zIu).other),.t (ti (zIu).n),.t (ti (zIu).len),.t (ti (zIu).init),.t (tb (zIu).ghost),.t (.sl ((zIu).kids.map Nd.enc)),.t (ti (zIu).pos)])],.tup [zKE zMF,.t (.sl [[ti 50,ti 7],[ti 42,ti 0]])]),(600,[zKE zMG],.tup [.t (.sl [[ti 1],[ti 0]]),vi 0])]
theorem zLg:Den Γ G 593 []=some (vb true):=by
 refine zNj (zM8 (l:=h04) ?_) 3000 (by kernel_rfl);simp only[h04,List.mem_cons,List.not_mem_nil,or_false];rintro e (rfl | rfl | rfl)
 ·exact zKv
 ·exact zKu
 ·exact zMB
end Rg
end
section
namespace Rg
open Go
def zGI (L:Int) (f:Nd->Int->Int) (s:Int) (k:Nd):Int:=if s<=L then s+f k (L-s)else s
def zGD:Nat->Nd->Int->Int
 | 0,_,L=>L+1
 | d+1,n,L=>if(n.kids.length:Int)>L then L+1 else n.kids.foldl (zGI L (zGD d)) 1
theorem zH0 {f:Nd->Int->Int} {L:Int} (hf: ∀k l,0<=l->1<=f k l/\f k l<=l+1): ∀(l:List Nd) (s:Int),1<=s->s<=L+1->1<=l.foldl (zGI L f) s/\l.foldl (zGI L f) s<=L+1/\s<=l.foldl (zGI L f) s
 | [],s,h1,h2=>⟨h1,h2,Int.le_refl _⟩
 | a::l,s,h1,h2=>by
   rw[List.foldl_cons];have Fe:zGI L f s a=if s<=L then s+f a (L-s)else s:=rfl
   rw[Fe]
   by_cases h:s<=L
   ·rw[if_pos h];have:=hf a (L-s) (by omega);obtain⟨z1,z2,z3⟩:=zH0 (L:=L) hf l (s+f a (L-s)) (by omega) (by omega);exact⟨z1,z2,by omega⟩
   ·rw[if_neg h];exact zH0 (L:=L) hf l s h1 h2
theorem zHe: ∀(d:Nat) (n:Nd) (L:Int),0<=L->1<=zGD d n L/\zGD d n L<=L+1
 | 0,n,L,h=>by unfold zGD;omega
 | d+1,n,L,h=>by
   unfold zGD;split
   ·omega
   ·obtain⟨z1,z2,_⟩:=zH0 (L:=L) (fun k l hl=>zHe d k l hl) n.kids 1 (by omega) (by omega);exact⟨z1,z2⟩
theorem zI8: ∀(d:Nat) (n:Nd) (L:Int),0<=L->zGD d n L<=L->(n.size:Int)=zGD d n L
 | 0,n,L,h,h2=>by unfold zGD at h2;omega
 | d+1,n,L,h,h2=>by
   unfold zGD at h2⊢;split at h2
   ·omega
   rename_i hk;rw[if_neg hk]
   have key: ∀(l:List Nd) (s:Int),1<=s->s<=L+1->l.foldl (zGI L (zGD d)) s<=L->l.foldl (zGI L (zGD d)) s=s+((l.map Nd.size).sum:Nat):=fun l=>by
    induction l with
    | nil=>intro s _ _ _;simp
    | cons a l ih=>
      intro s s1 s2 A5;rw[List.foldl_cons]at A5⊢;have Fe:zGI L (zGD d) s a=if s<=L then s+zGD d a (L-s)else s:=rfl
      by_cases hs:s<=L
      ·rw[Fe,if_pos hs]at A5⊢;have hr:=zHe d a (L-s) (by omega);have hm:=(zH0 (L:=L) (fun k l hl=>zHe d k l hl) l (s+zGD d a (L-s)) (by omega) (by omega)).2.2;have hc:=zI8 d a (L-s) (by omega) (by omega);rw[ih _ (by omega) (by omega) A5];simp only[List.map_cons,List.sum_cons];omega
      ·rw[Fe,if_neg hs]at A5⊢;have hm:=(zH0 (L:=L) (fun k l hl=>zHe d k l hl) l s (by omega) (by omega)).2.2;omega
   rw[key n.kids 1 (by omega) (by omega) h2,Nd.size_eq];omega
theorem zMf: ∀(d:Nat) (n:Nd) (L:Int),n.sane->0<=L->L<=400->d<=60->Den Γ G 606 [(.agg [.t (ti (n).kind),.t (.str (n).name),.t (.str (n).other),.t (ti (n).n),.t (ti (n).len),.t (ti (n).init),.t (tb (n).ghost),.t (.sl ((n).kids.map Nd.enc)),.t (ti (n).pos)]),vi L,vi d]=some (vi (zGD d n L)):=by
 intro d
 induction d with
 | zero=>
   intro n L hs h1 h2 _;have hw:IntKind.i64.wrap (L+1)=L+1:=by simp[IntKind.wrap,IntKind.signed,IntKind.bits];omega
   (refine zag Γ606 rfl ?_;dsimp only[zNO])
   simp -dsimp -implicitDefEqProofs only[go_sem,seval,hw]
   try rfl
 | succ d ih=>
   intro n L hs h1 h2 hd;have hw:IntKind.i64.wrap (L+1)=L+1:=by simp[IntKind.wrap,IntKind.signed,IntKind.bits];omega
   have e0:(((d+1:Nat):Int)=0)=False:=eq_false (by omega);have Mw:=hs.self.kids;have Mn: ∀z:Int,-1000<=z->z<=2000000->IntKind.i64.wrap z=z:=fun z _ _=>by simp[IntKind.wrap,IntKind.signed,IntKind.bits];omega
   (refine zag Γ606 rfl ?_;dsimp only[zNO])
   by_cases c1:(n.kids.length:Int)>L
   ·have c1':=eq_true c1;have hm:zGD (d+1) n L=L+1:=by rw[zGD,if_pos c1]
    rw[hm];simp -dsimp -implicitDefEqProofs only[go_sem,seval,e0,c1',hw]
    try rfl
   have c1':=eq_false c1;have hm:zGD (d+1) n L=n.kids.foldl (zGI L (zGD d)) 1:=by rw[zGD,if_neg c1]
   rw[hm];simp -dsimp -implicitDefEqProofs only[go_sem,seval,e0,c1'];refine zaT 35184371040640 n.kids.length (fun i f=>(f 8).v=vi i/\(f 7).v=vi ((n.kids.take i).foldl (zGI L (zGD d)) 1)) rfl rfl ⟨by simp -dsimp -implicitDefEqProofs only[go_sem,seval],by simp -dsimp -implicitDefEqProofs only[go_sem,seval];try rfl⟩ ?_;rintro i f u x bb hi ⟨g8,g7⟩;have hr:=zH0 (L:=L) (fun k l hl=>zHe d k l hl) (n.kids.take i) 1 (by omega) (by omega)
   generalize hS:(n.kids.take i).foldl (zGI L (zGD d)) 1=S at *
   by_cases AV:i<n.kids.length
   rotate_left
   ·have e1:((i:Int)<(n.kids.length:Int))=False:=eq_false (by omega);have:i=n.kids.length:=by omega
    subst this;rw[List.take_length]at hS;simp -dsimp -implicitDefEqProofs only[go_sem,seval,g8,g7,e1];rw[hS];try rfl
   have e1:((i:Int)<(n.kids.length:Int))=True:=eq_true (by omega);obtain⟨a,ha,Cp⟩:=zai AV
   by_cases c2:S<=L
   rotate_left
   ·have c2':=eq_false c2
    have CP:n.kids.foldl (zGI L (zGD d)) 1=S:=by
     have h3:n.kids.foldl (zGI L (zGD d)) 1=(n.kids.drop i).foldl (zGI L (zGD d)) S:=by
      rw[<- hS,<- List.foldl_append,List.take_append_drop]
     rw[h3]
     generalize n.kids.drop i=l
     induction l with
     | nil=>rfl
     | cons b l ihl=>rw[List.foldl_cons,zGI,if_neg c2];exact ihl
    simp -dsimp -implicitDefEqProofs only[go_sem,seval,g8,g7,e1,c2'];rw[CP];try rfl
   have c2':=eq_true c2;have Bj:(n.kids.map Nd.enc)[i]? =some a.enc:=by rw[zJ,ha];rfl
   have w1:=Mn (L-S) (by omega) (by omega);have w2:IntKind.i64.wrap (((d+1:Nat):Int)-1)=(d:Int):=by rw[Mn _ (by omega) (by omega)];omega
   have Da:=ih a (L-S) (hs.kid Cp) (by omega) (by omega) (by omega);have Gc:=zHe d a (L-S) (by omega);have w3:=Mn (S+zGD d a (L-S)) (by omega) (by omega);have w4:=zan i (by omega);simp -dsimp -implicitDefEqProofs only[go_sem,seval,g8,g7,e1,c2',Bj,Nd.enc_eq,w1,w2,Da,w3,w4];refine⟨AV,by simp -dsimp -implicitDefEqProofs only[go_sem,seval],?_⟩;simp -dsimp -implicitDefEqProofs only[go_sem,seval];rw[zaf ha,List.foldl_append,hS,List.foldl_cons,List.foldl_nil,zGI,if_pos c2]
theorem zNL (n:Nd) (hs:n.sane):Den Γ G 594 [(.agg [.t (ti (n).kind),.t (.str (n).name),.t (.str (n).other),.t (ti (n).n),.t (ti (n).len),.t (ti (n).init),.t (tb (n).ghost),.t (.sl ((n).kids.map Nd.enc)),.t (ti (n).pos)]),vi 400]=some (vb (decide (zGD 60 n 400<=400))):=by
 have h:Den Γ G 606 [(.agg [.t (ti (n).kind),.t (.str (n).name),.t (.str (n).other),.t (ti (n).n),.t (ti (n).len),.t (ti (n).init),.t (tb (n).ghost),.t (.sl ((n).kids.map Nd.enc)),.t (ti (n).pos)]),vi 400,vi 60]=some (vi (zGD 60 n 400)):=zMf 60 n 400 hs (by omega) (by omega) (by omega)
 (refine zag Γ594 rfl ?_;dsimp only[zOv])
 simp -dsimp -implicitDefEqProofs only[go_sem,seval,h]
 try rfl
theorem zMK {n:Nd} (h:zGD 60 n 400<=400):n.size<=400:=by
 have:=zI8 60 n 400 (by omega) h;omega
namespace Nd
mutual
def bare:Nd->Nd
 | .mk a b c d e f g k _=> .mk a b c d e f g (zMQ k) 0
def zMQ:List Nd->List Nd
 | []=>[]
 | e::r=>bare e::zMQ r
end
theorem zKR: ∀l:List Nd,zMQ l=l.map bare
 | []=>rfl
 | e::r=>by rw[zMQ,zKR r];rfl
theorem bare_eq (t:Nd):t.bare= .mk t.kind t.name t.other t.n t.len t.init t.ghost (t.kids.map bare) 0:=by
 cases t;simp only[bare,zKR,kind,name,other,n,len,init,ghost,kids]
@[simp]theorem bare_kind (t:Nd):t.bare.kind=t.kind:=by rw[bare_eq];rfl
@[simp]theorem bare_name (t:Nd):t.bare.name=t.name:=by rw[bare_eq];rfl
@[simp]theorem bare_other (t:Nd):t.bare.other=t.other:=by rw[bare_eq];rfl
@[simp]theorem bare_n (t:Nd):t.bare.n=t.n:=by rw[bare_eq];rfl
@[simp]theorem bare_len (t:Nd):t.bare.len=t.len:=by rw[bare_eq];rfl
@[simp]theorem bare_init (t:Nd):t.bare.init=t.init:=by rw[bare_eq];rfl
@[simp]theorem bare_ghost (t:Nd):t.bare.ghost=t.ghost:=by rw[bare_eq];rfl
@[simp]theorem bare_kids (t:Nd):t.bare.kids=t.kids.map bare:=by rw[bare_eq];rfl
@[simp]theorem bare_pos (t:Nd):t.bare.pos=0:=by rw[bare_eq];rfl
theorem zJ1 (t:Nd):t.bare.size=t.size:=by
 induction t using Nd.ind with
 | _ t ih=>
   rw[size_eq,size_eq t,bare_kids,List.map_map]
   congr 2
   exact List.map_congr_left fun k hk=>ih k hk
end Nd
theorem zHG {es es':List (List T)} {i:Nat} (a:List T) {n:Nat} (z:List T) (hi:i<n) (he:es.length=i):(zGk (es++List.replicate (n-i) z)).set i (a.map V.t)=zGk (es++[a]++List.replicate (n-(i+1)) z):=by
 subst he;rw[show n-es.length=(n-(es.length+1))+1 by omega,List.replicate_succ,zGk,List.map_append,List.set_append_right _ _ (by simp)];simp[zGk]
def ndZ:List T:=[ti 0,.str (bs []),.str (bs []),ti 0,ti 0,ti 0,tb false,.nils,ti 0]
theorem zHO (t:Nd) (hs:t.sane):Den Γ G 658 [(.agg [.t (ti (t).kind),.t (.str (t).name),.t (.str (t).other),.t (ti (t).n),.t (ti (t).len),.t (ti (t).init),.t (tb (t).ghost),.t (.sl ((t).kids.map Nd.enc)),.t (ti (t).pos)])]=some (.agg [.t (ti (t.bare).kind),.t (.str (t.bare).name),.t (.str (t.bare).other),.t (ti (t.bare).n),.t (ti (t.bare).len),.t (ti (t.bare).init),.t (tb (t.bare).ghost),.t (.sl ((t.bare).kids.map Nd.enc)),.t (ti (t.bare).pos)]):=by
 induction t using Nd.ind with
 | _ t ih=>
   have Mw:=hs.self.kids;have hx: ∀k∈t.kids,Den Γ G 658 [(.agg [.t (ti (k).kind),.t (.str (k).name),.t (.str (k).other),.t (ti (k).n),.t (ti (k).len),.t (ti (k).init),.t (tb (k).ghost),.t (.sl ((k).kids.map Nd.enc)),.t (ti (k).pos)])]=some (.agg [.t (ti (k.bare).kind),.t (.str (k.bare).name),.t (.str (k.bare).other),.t (ti (k.bare).n),.t (ti (k.bare).len),.t (ti (k.bare).init),.t (tb (k.bare).ghost),.t (.sl ((k.bare).kids.map Nd.enc)),.t (ti (k.bare).pos)]):=fun k hk=>ih k hk (hs.kid hk)
   (refine zag Γ658 rfl ?_;dsimp only[zNU])
   have c0:((t.kids.length:Int)<0)=False:=eq_false (by omega);have c1:((t.kids.length:Int)<=(t.kids.length:Int)/\(t.kids.length:Int)<=4294967296)=True:=eq_true (by omega);simp -dsimp -implicitDefEqProofs only[go_sem,seval,c0,c1];refine zaq 33550352 t.kids.length (fun i f h' x'=>(f 12).v=vi i/\h' 7=some (.rows 9 (zGk (((t.kids.take i).map fun k=>k.bare.enc)++List.replicate (t.kids.length-i) ndZ)) false)) rfl ⟨by simp -dsimp -implicitDefEqProofs only[go_sem,seval],?_⟩ ?_
   ·simp only[zaC,zaA];rw[zaa,if_pos rfl];simp[zGk,ndZ]
   rintro i f u h1 x1 bb hi ⟨g,h7⟩
   by_cases AV:i<t.kids.length
   ·have e1:=eq_true AV;obtain⟨a,ha,Cp⟩:=zai AV;have Bj:(t.kids.map Nd.enc)[i]? =some a.enc:=by rw[zJ,ha];rfl
    have hw:=zan i (by omega);have hc:=hx a Cp;simp only[Nd.bare_kind,Nd.bare_name,Nd.bare_other,Nd.bare_n,Nd.bare_len,Nd.bare_init,Nd.bare_ghost,Nd.bare_kids,Nd.bare_pos]at hc;have hl:(zGk (((t.kids.take i).map fun k=>k.bare.enc)++List.replicate (t.kids.length-i) ndZ)).length=t.kids.length:=by simp;omega
    have E8:=zHG (es:=(t.kids.take i).map fun k=>k.bare.enc) (es':= []) a.bare.enc ndZ AV (by simp;omega);rw[show a.bare.enc.map V.t=[.t (ti a.kind),.t (.str a.name),.t (.str a.other),.t (ti a.n),.t (ti a.len),.t (ti a.init),.t (tb a.ghost),.t (.sl ((a.kids.map Nd.bare).map Nd.enc)),.t (ti 0)]from by rw[Nd.enc_eq];simp]at E8;obtain⟨row,Ap,_⟩:=zai (l:=zGk (((t.kids.take i).map fun k=>k.bare.enc)++List.replicate (t.kids.length-i) ndZ)) (i:=i) (by omega)
    have U2:row.length=9:=by
     have hm:=zL Ap;obtain⟨e,he,rfl⟩:=List.mem_map.1 hm;rw[List.length_map];rcases List.mem_append.1 he with he | he
     ·obtain⟨k,_,rfl⟩:=List.mem_map.1 he;exact zGz _
     ·rw[List.eq_of_mem_replicate he];rfl
    have S9:(9<=row.length)=True:=eq_true (by omega);have S8:List.drop 9 row=[]:=List.drop_eq_nil_of_le (by omega)
    generalize hR:zGk (((t.kids.take i).map fun k=>k.bare.enc)++List.replicate (t.kids.length-i) ndZ)=R at *
    simp -dsimp -implicitDefEqProofs only[go_sem,seval,g,e1,Bj,Nd.enc_eq,hc,h7,hl,Ap,hw,S9,S8];refine⟨AV,by simp -dsimp -implicitDefEqProofs only[go_sem,seval],?_⟩;simp -dsimp -implicitDefEqProofs only[go_sem,seval];rw[E8,zaf ha,List.map_append];rfl
   have e1:=eq_false AV;have:i=t.kids.length:=by omega
   subst this;rw[List.take_length,Nat.sub_self,List.replicate_zero,List.append_nil]at h7
   have z7:=zJd (i:=0) (len:=t.kids.length) (d:=999) h7 (by unfold rd;rw[if_pos (by simp),List.drop_zero,List.take_of_length_le (by simp)]) (zGJ fun e he=>by
    obtain⟨k,_,rfl⟩:=List.mem_map.1 he
    exact zG9 _)
   simp -dsimp -implicitDefEqProofs only[go_sem,seval,g,e1,↓z7];simp[List.map_map,Function.comp_def]
abbrev w64 (n:Int):Int:=IntKind.i64.wrap n
namespace Nd
mutual
def moved:Nd->Int->Nd
 | .mk a b c d e f g k p,z=> .mk a b c d e f g (moveds k z 0) (w64 (p+z))
def moveds:List Nd->Int->Nat->List Nd
 | [],_,_=>[]
 | e::r,z,i=>moved e (w64 (w64 (z*3)+(i:Nat)))::moveds r z (i+1)
end
theorem zG4 (t:Nd) (z:Int):t.moved z= .mk t.kind t.name t.other t.n t.len t.init t.ghost (moveds t.kids z 0) (w64 (t.pos+z)):=by
 cases t;simp only[moved,kind,name,other,n,len,init,ghost,kids,pos]
@[simp]theorem zIZ (t:Nd) (z:Int):(t.moved z).kids=moveds t.kids z 0:=by rw[zG4];rfl
@[simp]theorem zK7 (t:Nd) (z:Int):(t.moved z).kind=t.kind:=by rw[zG4];rfl
@[simp]theorem zK6 (t:Nd) (z:Int):(t.moved z).name=t.name:=by rw[zG4];rfl
@[simp]theorem zKe (t:Nd) (z:Int):(t.moved z).other=t.other:=by rw[zG4];rfl
@[simp]theorem zM9 (t:Nd) (z:Int):(t.moved z).n=t.n:=by rw[zG4];rfl
@[simp]theorem zLN (t:Nd) (z:Int):(t.moved z).len=t.len:=by rw[zG4];rfl
@[simp]theorem zK8 (t:Nd) (z:Int):(t.moved z).init=t.init:=by rw[zG4];rfl
@[simp]theorem zKf (t:Nd) (z:Int):(t.moved z).ghost=t.ghost:=by rw[zG4];rfl
@[simp]theorem zLM (t:Nd) (z:Int):(t.moved z).pos=w64 (t.pos+z):=by rw[zG4];rfl
theorem moveds_get: ∀(l:List Nd) (z:Int) (i j:Nat),(moveds l z i)[j]? =l[j]?.map fun e=>e.moved (w64 (w64 (z*3)+((i+j:Nat):Int)))
 | [],z,i,j=>by simp[moveds]
 | e::r,z,i,0=>by simp[moveds]
 | e::r,z,i,j+1=>by
   simp only[moveds,List.getElem?_cons_succ];rw[moveds_get r z (i+1) j,show i+1+j=i+(j+1)by omega]
theorem moveds_len: ∀(l:List Nd) (z:Int) (i:Nat),(moveds l z i).length=l.length
 | [],z,i=>rfl
 | e::r,z,i=>by simp[moveds,moveds_len r]
theorem zMX (n:Int): -9223372036854775808<=w64 n/\w64 n<=9223372036854775807:=by
 have e:w64 n=if n % 18446744073709551616>=9223372036854775808 then n % 18446744073709551616-18446744073709551616 else n % 18446744073709551616:=by
  simp[w64,IntKind.wrap,IntKind.signed,IntKind.bits]
 rw[e];split<;>omega
theorem moved_bare (t:Nd): ∀z,(t.moved z).bare=t.bare:=by
 induction t using Nd.ind with
 | _ t ih=>
   intro z;rw[bare_eq (t.moved z),bare_eq t];simp only[zK7,zK6,zKe,zM9,zLN,zK8,zKf,zIZ,mk.injEq,true_and,and_true];refine List.ext_getElem? fun j=> ?_
   rw[zJ,zJ,moveds_get]
   cases h:t.kids[j]? with
   | none=>rfl
   | some k=>simp[ih k (zL h)]
theorem moved_size (t:Nd) (z:Int):(t.moved z).size=t.size:=by
 rw[<- zJ1,moved_bare,zJ1]
theorem moved_sane (t:Nd) (hs:t.sane): ∀z,(t.moved z).sane:=by
 induction t using Nd.ind with
 | _ t ih=>
   intro z x hx;rw[flat_eq]at hx;rcases List.mem_cons.1 hx with rfl | hx
   ·have h:=hs.self;exact⟨by simpa using h.kind,by simpa using h.n,by simpa using h.len,by simpa using h.init,by rw[zLM];exact zMX _,by simpa using h.name,by simpa using h.other,by simpa[moveds_len]using h.kids⟩
   ·obtain⟨k,hk,hx⟩:=List.mem_flatMap.1 hx;rw[zIZ]at hk;obtain⟨j,hj⟩:=List.getElem?_of_mem hk;rw[moveds_get]at hj
    cases h:t.kids[j]? with
    | none=>rw[h]at hj;cases hj
    | some q=>
      rw[h]at hj;cases hj;exact ih q (zL h) (hs.kid (zL h)) _ x hx
end Nd
theorem zLO (t:Nd) (hs:t.sane): ∀z:Int,Den Γ G 651 [(.agg [.t (ti (t).kind),.t (.str (t).name),.t (.str (t).other),.t (ti (t).n),.t (ti (t).len),.t (ti (t).init),.t (tb (t).ghost),.t (.sl ((t).kids.map Nd.enc)),.t (ti (t).pos)]),vi z]=some (.agg [.t (ti (t.moved z).kind),.t (.str (t.moved z).name),.t (.str (t.moved z).other),.t (ti (t.moved z).n),.t (ti (t.moved z).len),.t (ti (t.moved z).init),.t (tb (t.moved z).ghost),.t (.sl ((t.moved z).kids.map Nd.enc)),.t (ti (t.moved z).pos)]):=by
 induction t using Nd.ind with
 | _ t ih=>
   intro z;have Mw:=hs.self.kids;have hx: ∀k∈t.kids,∀z,Den Γ G 651 [(.agg [.t (ti (k).kind),.t (.str (k).name),.t (.str (k).other),.t (ti (k).n),.t (ti (k).len),.t (ti (k).init),.t (tb (k).ghost),.t (.sl ((k).kids.map Nd.enc)),.t (ti (k).pos)]),vi z]=some (.agg [.t (ti (k.moved z).kind),.t (.str (k.moved z).name),.t (.str (k.moved z).other),.t (ti (k.moved z).n),.t (ti (k.moved z).len),.t (ti (k.moved z).init),.t (tb (k.moved z).ghost),.t (.sl ((k.moved z).kids.map Nd.enc)),.t (ti (k.moved z).pos)]):=fun k hk=>ih k hk (hs.kid hk)
   (refine zag Γ651 rfl ?_;dsimp only[zN0])
   have c0:((t.kids.length:Int)<0)=False:=eq_false (by omega);have c1:((t.kids.length:Int)<=(t.kids.length:Int)/\(t.kids.length:Int)<=4294967296)=True:=eq_true (by omega);simp -dsimp -implicitDefEqProofs only[go_sem,seval,c0,c1];refine zaq 34359476288 t.kids.length (fun i f h' x'=>(f 18).v=vi i/\h' 11=some (.rows 9 (zGk ((((Nd.moveds t.kids z 0).take i).map Nd.enc)++List.replicate (t.kids.length-i) ndZ)) false)) rfl ⟨by simp -dsimp -implicitDefEqProofs only[go_sem,seval],?_⟩ ?_
   ·simp only[zaC,zaA];rw[zaa,if_pos rfl];simp[zGk,ndZ]
   rintro i f u h1 x1 bb hi ⟨g,h7⟩;have L2:=Nd.moveds_len t.kids z 0
   by_cases AV:i<t.kids.length
   ·have e1:=eq_true AV;obtain⟨a,ha,Cp⟩:=zai AV;have Bj:(t.kids.map Nd.enc)[i]? =some a.enc:=by rw[zJ,ha];rfl
    have hw:=zan i (by omega);have Pc:(Nd.moveds t.kids z 0)[i]? =some (a.moved (w64 (w64 (z*3)+(i:Nat)))):=by rw[Nd.moveds_get,ha];simp
    have hc:=hx a Cp (w64 (w64 (z*3)+(i:Nat)));have hl:(zGk ((((Nd.moveds t.kids z 0).take i).map Nd.enc)++List.replicate (t.kids.length-i) ndZ)).length=t.kids.length:=by simp[L2];omega
    have E8:=zHG (es:=((Nd.moveds t.kids z 0).take i).map Nd.enc) (es':= []) (a.moved (w64 (w64 (z*3)+(i:Nat)))).enc ndZ AV (by simp[L2];omega)
    generalize hA:a.moved (w64 (w64 (z*3)+(i:Nat)))=A at *
    rw[show A.enc.map V.t=[.t (ti A.kind),.t (.str A.name),.t (.str A.other),.t (ti A.n),.t (ti A.len),.t (ti A.init),.t (tb A.ghost),.t (.sl (A.kids.map Nd.enc)),.t (ti A.pos)]from by rw[Nd.enc_eq];rfl]at E8;obtain⟨row,Ap,_⟩:=zai (l:=zGk ((((Nd.moveds t.kids z 0).take i).map Nd.enc)++List.replicate (t.kids.length-i) ndZ)) (i:=i) (by omega)
    have U2:row.length=9:=by
     have hm:=zL Ap;obtain⟨e,he,rfl⟩:=List.mem_map.1 hm;rw[List.length_map];rcases List.mem_append.1 he with he | he
     ·obtain⟨k,_,rfl⟩:=List.mem_map.1 he;exact zGz _
     ·rw[List.eq_of_mem_replicate he];rfl
    have S9:(9<=row.length)=True:=eq_true (by omega);have S8:List.drop 9 row=[]:=List.drop_eq_nil_of_le (by omega)
    generalize hR:zGk ((((Nd.moveds t.kids z 0).take i).map Nd.enc)++List.replicate (t.kids.length-i) ndZ)=R at *
    simp -dsimp -implicitDefEqProofs only[go_sem,seval,g,e1,Bj,Nd.enc_eq,hc,h7,hl,Ap,hw,S9,S8];refine⟨AV,by simp -dsimp -implicitDefEqProofs only[go_sem,seval],?_⟩;simp -dsimp -implicitDefEqProofs only[go_sem,seval];rw[E8,zaf Pc,List.map_append];rfl
   have e1:=eq_false AV;have:i=t.kids.length:=by omega
   subst this;rw[List.take_of_length_le (by omega),Nat.sub_self,List.replicate_zero,List.append_nil]at h7
   have z7:=zJd (i:=0) (len:=t.kids.length) (d:=999) h7 (by unfold rd;rw[if_pos (by simp[L2]),List.drop_zero,List.take_of_length_le (by simp[L2])]) (zGJ fun e he=>by
    obtain⟨k,_,rfl⟩:=List.mem_map.1 he
    exact zG9 _)
   simp -dsimp -implicitDefEqProofs only[go_sem,seval,g,e1,↓z7];simp
theorem zO3 (b:Bool):(b==b)=true:=by simp
theorem zO0:(true != false)=true:=rfl
theorem zO1:(true != true)=false:=rfl
theorem zH2 (l:List Nd) (hl:l.length<2^30) (h: ∀k∈l,Den Γ G 655 [(.agg [.t (ti (k).kind),.t (.str (k).name),.t (.str (k).other),.t (ti (k).n),.t (ti (k).len),.t (ti (k).init),.t (tb (k).ghost),.t (.sl ((k).kids.map Nd.enc)),.t (ti (k).pos)]),(.agg [.t (ti (k).kind),.t (.str (k).name),.t (.str (k).other),.t (ti (k).n),.t (ti (k).len),.t (ti (k).init),.t (tb (k).ghost),.t (.sl ((k).kids.map Nd.enc)),.t (ti (k).pos)])]=some (vb true)):Den Γ G 656 [.t (.sl (l.map Nd.enc)),.t (.sl (l.map Nd.enc))]=some (vb true):=by
 (refine zag Γ656 rfl ?_;dsimp only[zNW])
 simp -dsimp -implicitDefEqProofs only[go_sem,seval];refine zaT 134215728 l.length (fun i f=>(f 5).v=vi i) rfl rfl (by simp -dsimp -implicitDefEqProofs only[go_sem,seval]) ?_;rintro i f u x bb hi g
 by_cases AV:i<l.length
 ·have e1:=eq_true AV;obtain⟨a,ha,Cp⟩:=zai AV;have Bj:(l.map Nd.enc)[i]? =some a.enc:=by rw[zJ,ha];rfl
  have hw:=zan i (by omega);have hc:=h a Cp;simp -dsimp -implicitDefEqProofs only[go_sem,seval,g,e1,Bj,Nd.enc_eq,hc,hw];exact⟨AV,by simp -dsimp -implicitDefEqProofs only[go_sem,seval]⟩
 ·have e1:=eq_false AV;simp -dsimp -implicitDefEqProofs only[go_sem,seval,g,e1]
  try rfl
theorem zGW (t:Nd) (hs:t.sane):Den Γ G 655 [(.agg [.t (ti (t).kind),.t (.str (t).name),.t (.str (t).other),.t (ti (t).n),.t (ti (t).len),.t (ti (t).init),.t (tb (t).ghost),.t (.sl ((t).kids.map Nd.enc)),.t (ti (t).pos)]),(.agg [.t (ti (t).kind),.t (.str (t).name),.t (.str (t).other),.t (ti (t).n),.t (ti (t).len),.t (ti (t).init),.t (tb (t).ghost),.t (.sl ((t).kids.map Nd.enc)),.t (ti (t).pos)])]=some (vb true):=by
 induction t using Nd.ind with
 | _ t ih=>
   have hk:=zH2 t.kids (by have:=hs.self.kids;omega) fun k hk=>ih k hk (hs.kid hk)
   (refine zag Γ655 rfl ?_;dsimp only[zNX])
   simp -dsimp -implicitDefEqProofs only[go_sem,seval,hk,zO3,zO0,zO1]
   try rfl
theorem zJg (l:List Nd) (hl:l.length<2^30) (hs: ∀k∈l,k.sane):Den Γ G 656 [.t (.sl (l.map Nd.enc)),.t (.sl (l.map Nd.enc))]=some (vb true):=
 zH2 l hl fun k hk=>zGW k (hs k hk)
theorem zFw (l:List Int) (hl:l.length<2^30):Den Γ G 605 [.t (.sl (l.map fun n=>[ti n])),.t (.sl (l.map fun n=>[ti n]))]=some (vb true):=by
 (refine zag Γ605 rfl ?_;dsimp only[zOs])
 simp -dsimp -implicitDefEqProofs only[go_sem,seval];refine zaT 67106864 l.length (fun i f=>(f 5).v=vi i) rfl rfl (by simp -dsimp -implicitDefEqProofs only[go_sem,seval]) ?_;rintro i f u x bb hi g
 by_cases AV:i<l.length
 ·have e1:=eq_true AV;obtain⟨a,ha,Cp⟩:=zai AV;have Bj:(l.map fun n=>[ti n])[i]? =some [ti a]:=by rw[zJ,ha];rfl
  have hw:=zan i (by omega);simp -dsimp -implicitDefEqProofs only[go_sem,seval,g,e1,Bj,hw];exact⟨AV,by simp -dsimp -implicitDefEqProofs only[go_sem,seval]⟩
 ·have e1:=eq_false AV;simp -dsimp -implicitDefEqProofs only[go_sem,seval,g,e1]
  try rfl
theorem zHm (l:List Va) (hl:l.length<2^40):Den Γ G 647 [.t (.sl (l.map Va.enc)),.t (.sl (l.map Va.enc))]=some (vb true):=by
 (refine zag Γ647 rfl ?_;dsimp only[zN3])
 simp -dsimp -implicitDefEqProofs only[go_sem,seval];refine zaT 67106864 l.length (fun i f=>(f 5).v=vi i) rfl rfl (by simp -dsimp -implicitDefEqProofs only[go_sem,seval]) ?_;rintro i f u x bb hi g
 by_cases AV:i<l.length
 ·have e1:=eq_true AV;obtain⟨a,ha,Cp⟩:=zai AV;have Bj:(l.map Va.enc)[i]? =some [.str a.name,ti a.w,ti a.len,ti a.init,tb a.ghost,ti a.module,ti a.pos]:=by rw[zJ,ha];rfl
  have hw:=zan i (by omega);simp -dsimp -implicitDefEqProofs only[go_sem,seval,g,e1,Bj,hw,zO3,zO0,zO1];exact⟨AV,by simp -dsimp -implicitDefEqProofs only[go_sem,seval]⟩
 ·have e1:=eq_false AV;simp -dsimp -implicitDefEqProofs only[go_sem,seval,g,e1]
  try rfl
structure Mo.ok (m:Mo):Prop where
 r:m.rely.sane
 g:m.guar.sane
 f:m.frame.length<2^30/\ ∀k∈m.frame,k.sane
def moV (m:Mo):V:=.agg (m.enc.map V.t)
def lkV (l:Lk):V:=.agg (l.enc.map V.t)
def prV (p:Pr):V:=.agg (p.enc.map V.t)
theorem zMT (m:Mo):moV m= .agg (zIb m (.t (.sl (m.frame.map Nd.enc)))):=by simp[moV,Mo.enc,zIb,Nd.enc_eq]
theorem zLI (p:Pr):prV p= .agg [.t (.str p.name),.t (ti p.module),.t (.sl (p.params.map Va.enc)),.t (.sl (p.locals.map Va.enc)),.t (.str p.locked),.t (ti p.body.kind),.t (.str p.body.name),.t (.str p.body.other),.t (ti p.body.n),.t (ti p.body.len),.t (ti p.body.init),.t (tb p.body.ghost),.t (.sl (p.body.kids.map Nd.enc)),.t (ti p.body.pos),.t (.sl (p.calls.map fun n=>[ti n])),.t (ti p.pos)]:=by simp[prV,Pr.enc,Nd.enc_eq]
theorem zMU (l:Lk):lkV l= .agg [.t (.str l.name),.t (ti l.module),.t (ti l.inv.kind),.t (.str l.inv.name),.t (.str l.inv.other),.t (ti l.inv.n),.t (ti l.inv.len),.t (ti l.inv.init),.t (tb l.inv.ghost),.t (.sl (l.inv.kids.map Nd.enc)),.t (ti l.inv.pos),.t (ti l.pos)]:=by simp[lkV,Lk.enc,Nd.enc_eq]
theorem zIM (m:Mo) (h:m.ok):Den Γ G 648 [moV m,moV m]=some (vb true):=by
 have h1:=zGW m.rely h.r;have h2:=zGW m.guar h.g;have h3:=zJg m.frame h.f.1 h.f.2;rw[zMT];unfold zIb
 (refine zag Γ648 rfl ?_;dsimp only[zN2])
 simp -dsimp -implicitDefEqProofs only[go_sem,seval,h1,h2,h3]
 try rfl
theorem zJE (l:Lk) (h:l.inv.sane):Den Γ G 649 [lkV l,lkV l]=some (vb true):=by
 have h1:=zGW l.inv h;rw[zMU]
 (refine zag Γ649 rfl ?_;dsimp only[zN1])
 simp -dsimp -implicitDefEqProofs only[go_sem,seval,h1]
 try rfl
structure Pr.ok (q:Pr):Prop where
 p:q.params.length<2^31
 l:q.locals.length<2^31
 c:q.calls.length<2^30
 b:q.body.sane
theorem zJD (p:Pr) (h:p.ok) (c:List Int) (b:Bool) (hb:b=true->c=p.calls):Den Γ G 650 [prV p,prV { p with calls:=c },vb b]=some (vb true):=by
 have h1:=zHm p.params (by have:=h.p;omega);have h2:=zHm p.locals (by have:=h.l;omega);have h3:=zGW p.body h.b;rw[zLI,zLI]
 cases b with
 | false=>
   (refine zag Γ650 rfl ?_;dsimp only[zNM])
   simp -dsimp -implicitDefEqProofs only[go_sem,seval,h1,h2,h3]
   try rfl
 | true=>
   have h4:=zFw p.calls h.c;rw[hb rfl]
   (refine zag Γ650 rfl ?_;dsimp only[zNM])
   simp -dsimp -implicitDefEqProofs only[go_sem,seval,h1,h2,h3,h4]
   try rfl
structure Ct.okS (ct:Ct):Prop where
 m:ct.mods.length<2^30/\ ∀m∈ct.mods,m.ok
 v:ct.vars.length<2^31
 l:ct.locks.length<2^30/\ ∀l∈ct.locks,l.inv.sane
 p:ct.procs.length<2^30/\ ∀p∈ct.procs,p.ok
 t:ct.thrs.length<2^30/\ ∀t∈ct.thrs,t.args.length<2^30
theorem zFV (ct:Ct) (h:ct.okS):Den Γ G 652 [zKE ct,zKE ct]=some (vb true):=by
 have hv:=zHm ct.vars (by have:=h.v;omega);have hm:=h.m.1;have hl:=h.l.1;have hp:=h.p.1;have ht:=h.t.1;unfold zKE
 (refine zag Γ652 rfl ?_;dsimp only[zNZ])
 simp -dsimp -implicitDefEqProofs only[go_sem,seval,hv];refine zaT 4722357475670390472752 ct.mods.length (fun i f=>(f 5).v=vi i) rfl rfl (by simp -dsimp -implicitDefEqProofs only[go_sem,seval]) ?_;rintro i f u x bb hi g
 by_cases AV:i<ct.mods.length
 ·have e1:=eq_true AV;obtain⟨a,ha,Cp⟩:=zai AV;have Bj:(ct.mods.map Mo.enc)[i]? =some a.enc:=by rw[zJ,ha];rfl
  rw[show a.enc=[.str a.name,.str a.owner,ti a.rely.kind,.str a.rely.name,.str a.rely.other,ti a.rely.n,ti a.rely.len,ti a.rely.init,tb a.rely.ghost,.sl (a.rely.kids.map Nd.enc),ti a.rely.pos,ti a.guar.kind,.str a.guar.name,.str a.guar.other,ti a.guar.n,ti a.guar.len,ti a.guar.init,tb a.guar.ghost,.sl (a.guar.kids.map Nd.enc),ti a.guar.pos,.sl (a.frame.map Nd.enc),ti a.pos]from by simp[Mo.enc,Nd.enc_eq]]at Bj;have hw:=zan i (by omega);have hc:Den Γ G 648 [moV a,moV a]=some (vb true):=zIM a (h.m.2 a Cp);rw[zMT]at hc;unfold zIb at hc;simp -dsimp -implicitDefEqProofs only[go_sem,seval,g,e1,Bj,hc,hw];exact⟨AV,by simp -dsimp -implicitDefEqProofs only[go_sem,seval]⟩
 have e1:=eq_false AV;simp -dsimp -implicitDefEqProofs only[go_sem,seval,g,e1];refine zaT 2475875356204277680153034832 ct.locks.length (fun i f=>(f 6).v=vi i) rfl rfl (by simp -dsimp -implicitDefEqProofs only[go_sem,seval]) ?_;rintro i2 f2 u2 x2 bb2 Cq g2
 by_cases Hi:i2<ct.locks.length
 ·have e2:=eq_true Hi;obtain⟨a,ha,Cp⟩:=zai Hi;have Bj:(ct.locks.map Lk.enc)[i2]? =some a.enc:=by rw[zJ,ha];rfl
  rw[show a.enc=[.str a.name,ti a.module,ti a.inv.kind,.str a.inv.name,.str a.inv.other,ti a.inv.n,ti a.inv.len,ti a.inv.init,tb a.inv.ghost,.sl (a.inv.kids.map Nd.enc),ti a.inv.pos,ti a.pos]from by simp[Lk.enc,Nd.enc_eq]]at Bj;have hw:=zan i2 (by omega);have hc:Den Γ G 649 [lkV a,lkV a]=some (vb true):=zJE a (h.l.2 a Cp);rw[zMU]at hc;simp -dsimp -implicitDefEqProofs only[go_sem,seval,g2,e2,Bj,hc,hw];exact⟨Hi,by simp -dsimp -implicitDefEqProofs only[go_sem,seval]⟩
 have e2:=eq_false Hi;simp -dsimp -implicitDefEqProofs only[go_sem,seval,g2,e2];refine zaT 1298071738753628336372074284056720 ct.procs.length (fun i f=>(f 7).v=vi i) rfl rfl (by simp -dsimp -implicitDefEqProofs only[go_sem,seval]) ?_;rintro i3 f3 u3 x3 bb3 C8 g3
 by_cases LX:i3<ct.procs.length
 ·have e3:=eq_true LX;obtain⟨a,ha,Cp⟩:=zai LX;have Bj:(ct.procs.map Pr.enc)[i3]? =some a.enc:=by rw[zJ,ha];rfl
  rw[show a.enc=[.str a.name,ti a.module,.sl (a.params.map Va.enc),.sl (a.locals.map Va.enc),.str a.locked,ti a.body.kind,.str a.body.name,.str a.body.other,ti a.body.n,ti a.body.len,ti a.body.init,tb a.body.ghost,.sl (a.body.kids.map Nd.enc),ti a.body.pos,.sl (a.calls.map fun n=>[ti n]),ti a.pos]from by simp[Pr.enc,Nd.enc_eq]]at Bj;have hw:=zan i3 (by omega);have hc:Den Γ G 650 [prV a,prV a,vb true]=some (vb true):=zJD a (h.p.2 a Cp) a.calls true (fun _=>rfl);rw[zLI]at hc;simp -dsimp -implicitDefEqProofs only[go_sem,seval,g3,e3,Bj,hc,hw];exact⟨LX,by simp -dsimp -implicitDefEqProofs only[go_sem,seval]⟩
 have e3:=eq_false LX;simp -dsimp -implicitDefEqProofs only[go_sem,seval,g3,e3];refine zaT 2923003274661804538333155031725658906687782782736 ct.thrs.length (fun i f=>(f 8).v=vi i) rfl rfl (by simp -dsimp -implicitDefEqProofs only[go_sem,seval]) ?_;rintro i4 f4 u4 x4 bb4 Mz g4
 by_cases LF:i4<ct.thrs.length
 ·have e4:=eq_true LF;obtain⟨a,ha,Cp⟩:=zai LF;have Bj:(ct.thrs.map Th.enc)[i4]? =some [.str a.name,ti a.proc,.sl (a.args.map fun n=>[ti n]),tb a.asleep,ti a.pos]:=by rw[zJ,ha];rfl
  have hw:=zan i4 (by omega);have hc:Den Γ G 605 [.t (.sl (a.args.map fun n=>[ti n])),.t (.sl (a.args.map fun n=>[ti n]))]=some (vb true):=zFw a.args (h.t.2 a Cp);simp -dsimp -implicitDefEqProofs only[go_sem,seval,g4,e4,Bj];refine⟨?_,?_⟩
  ·simp only[zgO,List.all_cons,List.all_nil,List.getElem?_cons_succ,List.getElem?_cons_zero,sep,AOp.looksL,AOp.looks,AOp.isSt,AOp.keeps,AOp.opds,AOp.lwopd,zIa,zJ9,List.filterMap_cons,List.filterMap_nil];simp -dsimp -implicitDefEqProofs only[go_sem,seval];rfl
  simp -dsimp -implicitDefEqProofs only[go_sem,seval,g4,hc,hw,zO3,zO0,zO1];exact⟨LF,by simp -dsimp -implicitDefEqProofs only[go_sem,seval]⟩
 have e4:=eq_false LF;simp -dsimp -implicitDefEqProofs only[go_sem,seval,g4,e4]
 try rfl
def Va.bare (v:Va):Va:={ v with pos:=0 }
def Mo.bare (m:Mo):Mo:=⟨m.name,m.owner,m.rely.bare,m.guar.bare,m.frame.map Nd.bare,0⟩
def Lk.bare (l:Lk):Lk:=⟨l.name,l.module,l.inv.bare,0⟩
def Pr.bare (p:Pr):Pr:=⟨p.name,p.module,p.params.map Va.bare,p.locals.map Va.bare,p.locked,p.body.bare,p.calls,0⟩
def Th.bare (t:Th):Th:={ t with pos:=0 }
def Ct.bare (c:Ct):Ct:=⟨c.mods.map Mo.bare,c.vars.map Va.bare,c.locks.map Lk.bare,c.procs.map Pr.bare,c.thrs.map Th.bare,c.bodies.map Nd.bare,c.diags.map fun d=>(d.1,0),c.names,c.recs.map fun r=>(r.1,r.2.map Nd.bare)⟩
theorem zGL {σ τ α β:Type} {f:σ->α->σ} {f':τ->β->τ} {g:σ->τ} {b:α->β} (h: ∀s a,f' (g s) (b a)=g (f s a)): ∀(l:List α) (s:σ),(l.map b).foldl f' (g s)=g (l.foldl f s)
 | [],s=>rfl
 | a::l,s=>by rw[List.map_cons,List.foldl_cons,h,zGL h l,List.foldl_cons]
theorem zIl (d:List (Int×Int)) (e p:Int):(zJx d e p).map (fun d=>(d.1,(0:Int)))=zJx (d.map fun d=>(d.1,0)) e 0:=by
 unfold zJx;rw[List.length_map];split<;>simp
theorem zGs (c:Ct) (e p:Int):(c.report e p).bare=c.bare.report e 0:=by
 rw[zHF,zHF];unfold Ct.bare;simp[zIl]
theorem zGY (t:Nd) (k:Int):zGo t.bare k=(zGo t k).map Nd.bare:=by
 unfold zGo;rw[Nd.bare_kids,List.filter_map]
 congr 1
 exact List.filter_congr fun x _=>by simp
theorem zHV:Nd.noneN.bare= .noneN:=by rw[Nd.bare_eq];rfl
theorem zIx (t:Nd):zGC t.bare=(zGC t).bare:=by
 unfold zGC;rw[Nd.bare_kids]
 cases t.kids with
 | nil=>exact zHV.symm
 | cons a l=>rfl
theorem zHP (t:Nd) (k:Int):zGj t.bare k=(zGj t k).bare:=by
 unfold zGj;rw[Nd.bare_kids,List.find?_map];have:((fun x:Nd=>decide (x.kind=k))∘Nd.bare)=fun x=>decide (x.kind=k):=by funext x;simp
 rw[this]
 cases t.kids.find? fun x=>decide (x.kind=k)with
 | none=>exact zHV.symm
 | some b=>rfl
theorem zIw (t:Nd):t.bare.flat=t.flat.map Nd.bare:=by
 induction t using Nd.ind with
 | _ t ih=>
   rw[Nd.flat_eq,Nd.flat_eq t,List.map_cons,Nd.bare_kids,List.map_flatMap,List.flatMap_map]
   congr 1
   have : ∀l:List Nd,(∀k∈l,k.bare.flat=k.flat.map Nd.bare)->(l.flatMap fun k=>k.bare.flat)=l.flatMap fun k=>k.flat.map Nd.bare:=fun l h=>by
    induction l with
    | nil=>rfl
    | cons a l ihl=>rw[List.flatMap_cons,List.flatMap_cons,h a (by simp),ihl fun k hk=>h k (by simp[hk])]
   exact this t.kids ih
def MoS.bare (s:MoS):MoS:=⟨s.ct.bare,s.found,s.m.bare⟩
theorem zJL (s:MoS) (a:Nd):zGw s.bare a.bare=(zGw s a).bare:=by
 unfold zGw;simp only[Nd.bare_kind,Nd.bare_pos,zIx,zGY];have e1:s.bare.found=s.found:=rfl;rw[e1];split
 ·split
  ·simp[MoS.bare,zGs]
  ·split
   ·simp[MoS.bare,Mo.bare]
   ·split
    ·simp[MoS.bare,Mo.bare]
    ·simp[MoS.bare,Mo.bare]
 ·rfl
theorem zKh (c:Ct) (n:Nd):c.bare.module n.bare=(c.module n).bare:=by
 unfold Ct.module;rw[Nd.bare_kids,<- zGL (g:=MoS.bare) (b:=Nd.bare) zJL];simp[MoS.bare,Mo.bare,zHV]
theorem zJn (s:Ct×List ByteArray) (a:Nd):zGu (s.1.bare,s.2) a.bare=((zGu s a).1.bare,(zGu s a).2):=by
 unfold zGu;simp only[Nd.bare_name,Nd.bare_pos];have e1:s.1.bare.mods.length=s.1.mods.length:=by simp[Ct.bare]
 rw[e1];split
 ·simp[zGs]
 ·split
  ·simp[zGs]
  ·have h:({ s.1.bare with bodies:=s.1.bare.bodies++[a.bare] }:Ct)=({ s.1 with bodies:=s.1.bodies++[a] }:Ct).bare:=by simp[Ct.bare]
   rw[h,zKh];simp[Ct.bare,MoS.bare]
theorem zJK (c:Ct) (t:Nd):c.bare.modules t.bare=(c.modules t).bare:=by
 unfold Ct.modules;rw[zGY,show((c.bare,[]):Ct×List ByteArray)=(fun s:Ct×List ByteArray=>(s.1.bare,s.2)) (c,[])from rfl,zGL (g:=fun s:Ct×List ByteArray=>(s.1.bare,s.2)) (b:=Nd.bare) zJn]
theorem zIR (s:Ct×List Nd) (a:Nd):zGm (s.1.bare,s.2.map Nd.bare) a.bare=((zGm s a).1.bare,(zGm s a).2.map Nd.bare):=by
 unfold zGm;have e1:(s.2.map Nd.bare).map Nd.name=s.2.map Nd.name:=by rw[List.map_map];exact List.map_congr_left fun x _=>by simp
 simp only[Nd.bare_name,Nd.bare_pos,Nd.bare_n,e1];split
 ·simp[zGs]
 ·split
  ·simp
  ·simp[zGs]
theorem zKr (c:Ct) (n:Nd):c.bare.fields n.bare=((c.fields n).1.bare,(c.fields n).2.map Nd.bare):=by
 unfold Ct.fields;rw[zGY,show((c.bare,[]):Ct×List Nd)=(fun s:Ct×List Nd=>(s.1.bare,s.2.map Nd.bare)) (c,[])from rfl,zGL (g:=fun s:Ct×List Nd=>(s.1.bare,s.2.map Nd.bare)) (b:=Nd.bare) zIR]
theorem zHw (c:Ct) (n:Nd) (vs:List Va):c.bare.sharedFin n.bare (vs.map Va.bare)=((c.sharedFin n vs).1.bare,(c.sharedFin n vs).2):=by
 unfold Ct.sharedFin
 have e1:(vs.map Va.bare).all (fun v=>zhA v.init v.w)=vs.all fun v=>zhA v.init v.w:=by
  rw[List.all_map];rfl
 rw[e1];split
 ·simp[Ct.bare]
 ·simp[zGs]
theorem zI3 (m:Int) (n:Nd) (nm:ByteArray) (w:Int):zHc m n.bare nm w=(zHc m n nm w).bare:=by
 simp[zHc,Va.bare]
theorem zLh (l:List (Key×List Nd)) (k:Key):zJQ (l.map fun r=>(r.1,r.2.map Nd.bare)) k=(zJQ l k).map fun r=>(r.1,r.2.map Nd.bare):=by
 unfold zJQ;rw[List.find?_map];rfl
theorem zJ7 (c:Ct) (m:Int) (n:Nd):c.bare.shared m n.bare=((c.shared m n).1.bare,(c.shared m n).2):=by
 unfold Ct.shared;simp only[Nd.bare_len,Nd.bare_pos,Nd.bare_other,Nd.bare_n,Nd.bare_name];split
 ·simp[zGs]
 ·split
  ·split
   ·rw[zI3,show [(zHc m n n.name n.n).bare]=[zHc m n n.name n.n].map Va.bare from rfl,zHw]
   ·simp[zGs]
  ·rw[show c.bare.recs=c.recs.map fun r=>(r.1,r.2.map Nd.bare)from rfl,zLh]
   cases zJQ c.recs (m,n.other)with
   | none=>simp[zGs]
   | some r=>
     simp only[Option.map_some];rw[<- zHw,List.map_map,List.map_map]
     congr 1
     exact List.map_congr_left fun x _=>by simp[zI3]
theorem zLX (c:Ct) (m:Int) (n:Nd):c.bare.lock m n.bare=((c.lock m n).1.bare,(c.lock m n).2):=by
 unfold Ct.lock;have e1:c.bare.locks.length=c.locks.length:=by simp[Ct.bare]
 rw[e1,Nd.bare_pos,Nd.bare_name,zIx];split
 ·simp[zGs]
 ·simp[Ct.bare,Lk.bare]
def AddS.bare (s:AddS):AddS:=⟨s.ct.bare,s.known,s.vs.map Va.bare⟩
theorem zH9 (m:Int) (s:AddS) (a:Nd):zGn m s.bare a.bare=(zGn m s a).bare:=by
 unfold zGn;simp only[Nd.bare_name,Nd.bare_pos,Nd.bare_n];have e1:s.bare.known=s.known:=rfl;rw[e1];split
 ·simp[AddS.bare,zGs]
 ·split
  ·simp[AddS.bare,zOE,Va.bare]
  ·simp[AddS.bare,zGs]
theorem zIp (c:Ct) (m:Int) (n:Nd):zGp c.bare m n.bare=(zGp c m n).bare:=by
 unfold zGp;rw[zGY,<- zGL (g:=AddS.bare) (b:=Nd.bare) (zH9 m)];rfl
theorem zKl (c:Ct) (m:Int) (n:Nd):zGr c.bare m n.bare=(zGr c m n).bare:=by
 unfold zGr;rw[zIp,zHP,zIw,List.filter_map,<- zGL (g:=AddS.bare) (b:=Nd.bare) (zH9 m)];have:((fun a:Nd=>decide (a.kind=35))∘Nd.bare)=fun a=>decide (a.kind=35):=by funext x;simp
 rw[this];rfl
theorem zLH (c:Ct) (m:Int) (n:Nd):c.bare.proc m n.bare=(c.proc m n).bare:=by
 unfold Ct.proc;rw[zKl,zIp,zHP];simp[Ct.bare,Pr.bare,AddS.bare]
theorem zJs (m:Int) (c:Ct) (n:Nd):zGl m c.bare n.bare=(zGl m c n).bare:=by
 unfold zGl;have e1:c.bare.names=c.names:=rfl;simp only[Nd.bare_kind,Nd.bare_pos,Nd.bare_name,e1,zJ7,zLX,zLH,zKr,<- zGs];split
 ·split
  ·rw[<- zGs]
  ·split
   ·simp[Ct.addName,Ct.bare]
   ·split
    ·split<;>rfl
    ·split
     ·split<;>rfl
     ·rfl
 ·rfl
theorem zLl (c:Ct):c.bare.decls=c.decls.bare:=by
 unfold Ct.decls
 rw[show c.bare.bodies.zipIdx=c.bodies.zipIdx.map fun q=>(q.1.bare,q.2)from by
  show(c.bodies.map Nd.bare).zipIdx=_
  rw[List.zipIdx_map];rfl]
 exact zGL (g:=Ct.bare) (b:=fun q:Nd×Nat=>(q.1.bare,q.2)) (fun s q=>by
  show(q.1.bare.kids).foldl (zGl (q.2:Nat)) s.bare=_;rw[Nd.bare_kids]
  exact zGL (g:=Ct.bare) (b:=Nd.bare) (zJs _) _ _) _ _
theorem zLS (c:Ct):c.bare.mn=c.mn:=by
 unfold Ct.mn;show(c.mods.map Mo.bare).map Mo.name=_;rw[List.map_map];rfl
theorem zLJ (c:Ct):c.bare.pk=c.pk:=by
 unfold Ct.pk;show(c.procs.map Pr.bare).map _=_;rw[List.map_map];rfl
theorem zKb (c:Ct) (m:Int) (b:ByteArray):c.bare.procOf m b=c.procOf m b:=by
 unfold Ct.procOf;rw[zLS,zLJ]
theorem zKC (a:Nd) (p:Pr):zHq a.bare p.bare=zHq a p:=by
 unfold zHq;rw[Nd.bare_kids,show p.bare.params=p.params.map Va.bare from rfl,List.zip_map,List.findIdx?_map]
 congr 1
 funext q
 simp[zIO,Va.bare]
theorem zJA (s:Ct×List ByteArray) (a:Nd):zGx (s.1.bare,s.2) a.bare=((zGx s a).1.bare,(zGx s a).2):=by
 unfold zGx;have e1:s.1.bare.thrs.length=s.1.thrs.length:=by simp[Ct.bare]
 simp only[Nd.bare_name,Nd.bare_pos,Nd.bare_other,Nd.bare_n,Nd.bare_kids,List.length_map,zKb,e1];split
 ·simp[zGs]
 split
 ·simp[zGs]
 split
 ·simp[zGs]
 rw[show s.1.bare.procs=s.1.procs.map Pr.bare from rfl,zJ]
 cases hp:s.1.procs[(s.1.procOf (-1) a.other).1.toNat]? with
 | none=>rfl
 | some p=>
   simp only[Option.map_some];rw[show p.bare.params.length=p.params.length from by simp[Pr.bare],zKC];split
   ·simp[zGs]
   ·cases zHq a p with
    | none=>
      simp only[Ct.bare,List.map_append,List.map_map]
      congr 3
      simp[Th.bare,Function.comp_def]
    | some j=>
      simp only[];rw[zGs]
      congr 2
      rw[List.getD,zJ]
      cases a.kids[j]? with
      | none=>rfl
      | some k=>simp
theorem zJz (c:Ct) (t:Nd):c.bare.threads t.bare=(c.threads t).bare:=by
 unfold Ct.threads;rw[zGY,show((c.bare,[]):Ct×List ByteArray)=(fun s:Ct×List ByteArray=>(s.1.bare,s.2)) (c,[])from rfl,zGL (g:=fun s:Ct×List ByteArray=>(s.1.bare,s.2)) (b:=Nd.bare) zJA]
theorem zJ0 (mn:List ByteArray) (pk:List Key) (m:Int) (l:List Int) (a:Nd):zGy mn pk m l a.bare=zGy mn pk m l a:=by
 unfold zGy;simp
theorem zJX (mn:List ByteArray) (pk:List Key) (p:Pr):zGG mn pk p.bare=zGG mn pk p:=by
 unfold zGG;rw[show p.bare.body=p.body.bare from rfl,zIw,show p.bare.module=p.module from rfl]
 congr 1
 exact zGL (g:=id) (b:=Nd.bare) (zJ0 mn pk p.module) _ _
theorem zKc (l:List Lk) (p:Pr):zHx (l.map Lk.bare) p.bare=zHx l p:=by
 unfold zHx;rw[List.map_map];rfl
theorem zKy (c:Ct):c.bare.callsM=c.callsM.bare:=by
 unfold Ct.callsM;rw[zLS,zLJ]
 have h:(c.procs.map Pr.bare).foldl (zHB (c.locks.map Lk.bare)) (c.diags.map fun d=>(d.1,0))=(c.procs.foldl (zHB c.locks) c.diags).map fun d=>(d.1,0):=
  zGL (g:=fun d:List (Int×Int)=>d.map fun d=>(d.1,(0:Int))) (b:=Pr.bare) (fun d p=>by
   unfold zHB;rw[zKc];split
   ·exact(zIl _ _ _).symm
   ·rfl) _ _
 simp only[Ct.bare,Ct.mk.injEq,true_and,and_true];refine⟨?_,h⟩;rw[List.map_map,List.map_map]
 exact List.map_congr_left fun p _=>by
  show({ p.bare with calls:=zGG c.mn c.pk p.bare }:Pr)=({ p with calls:=zGG c.mn c.pk p }:Pr).bare;rw[zJX];rfl
theorem zJU (c:Ct):c.bare.cyclesM=c.cyclesM.bare:=by
 unfold Ct.cyclesM
 have hg:c.bare.graph=c.graph:=by
  unfold Ct.graph;show(c.procs.map Pr.bare).map Pr.calls=_;rw[List.map_map];rfl
 rw[hg];have hz:(c.procs.map Pr.bare).zipIdx=c.procs.zipIdx.map fun q=>(q.1.bare,q.2):=by rw[List.zipIdx_map];rfl
 have h:(c.procs.map Pr.bare).zipIdx.foldl (cycD c.graph) (c.diags.map fun d=>(d.1,0))=(c.procs.zipIdx.foldl (cycD c.graph) c.diags).map fun d=>(d.1,0):=by
  rw[hz]
  exact zGL (f:=cycD c.graph) (f':=cycD c.graph) (g:=fun d:List (Int×Int)=>d.map fun d=>(d.1,(0:Int))) (b:=fun q:Pr×Nat=>(q.1.bare,q.2)) (fun d p=>by
   unfold cycD;split
   ·exact(zIl _ _ _).symm
   ·rfl) _ _
 simp only[Ct.bare,Ct.mk.injEq,true_and,and_true];exact h
theorem zHQ (t:Nd):collectM t.bare=(collectM t).bare:=by
 unfold collectM;rw[Nd.bare_kind];split
 ·have h0:Ct.nil=Ct.nil.bare:=rfl
  conv=>lhs;rw[h0]
  rw[zJK,zLl,zJz,zKy,zJU]
 ·rfl
end Rg
end
