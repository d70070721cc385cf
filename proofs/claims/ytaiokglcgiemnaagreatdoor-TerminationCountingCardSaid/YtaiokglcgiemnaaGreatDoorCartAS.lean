/- Part of the proof of laws of relyguardlaw36. No condition. -/
import Derived.Test.YtaiokglcgiemnaaGreatDoorCartAJ
import Derived.Test.YtaiokglcgiemnaaGreatDoorCartAH
import Derived.Test.YtaiokglcgiemnaaGreatDoorCartAP
set_option linter.unusedVariables false
set_option linter.unusedSimpArgs false
section
namespace Rg
open Go
inductive Tr (α:Type)where
 | nil
 | node (v:Option α) (l r:Tr α)
namespace Tr
variable {α:Type}
noncomputable def get (t:Tr α):Nat->Option α:=
 Tr.rec (motive:=fun _=>Nat->Option α) (fun _=>none) (fun v _ _ a b n=>Nat.rec v (fun m _=>Nat.rec (a (Nat.div m 2)) (fun _ _=>b (Nat.div m 2)) (Nat.mod m 2)) n) t
noncomputable def node1 (ih:Tr α->Nat->α->Tr α) (v:Option α) (l r:Tr α) (n:Nat) (x:α):Tr α:=
 Nat.rec (.node (some x) l r) (fun m _=>Nat.rec (.node v (ih l (Nat.div m 2) x) r) (fun _ _=> .node v l (ih r (Nat.div m 2) x)) (Nat.mod m 2)) n
noncomputable def put (f:Nat):Tr α->Nat->α->Tr α:=
 Nat.rec (fun t _ _=>t) (fun _ ih t=>Tr.rec (motive:=fun _=>Nat->α->Tr α) (node1 ih none .nil .nil) (fun v l r _ _=>node1 ih v l r) t) f
theorem zdK (v:Option α) (l r:Tr α) (m:Nat):(Tr.node v l r).get (m+1)=if m % 2=0 then l.get (m/ 2)else r.get (m/ 2):=by
 show Nat.rec (motive:=fun _=>Option α) (l.get (m/ 2)) (fun _ _=>r.get (m/ 2)) (m % 2)=_;cases m % 2<;>rfl
theorem zjI (ih:Tr α->Nat->α->Tr α) (v:Option α) (l r:Tr α) (m:Nat) (x:α):node1 ih v l r (m+1) x=if m % 2=0 then .node v (ih l (m/ 2) x) r else .node v l (ih r (m/ 2) x):=by
 show Nat.rec (motive:=fun _=>Tr α) (.node v (ih l (m/ 2) x) r) (fun _ _=> .node v l (ih r (m/ 2) x)) (m % 2)=_;cases m % 2<;>rfl
theorem zhq (ih:Tr α->Nat->α->Tr α) (n:Nat) (x:α) (hi: ∀m,m<n-> ∀t j,(ih t m x).get j=if j=m then some x else t.get j) (v:Option α) (l r:Tr α) (j:Nat):
 (node1 ih v l r n x).get j=if j=n then some x else(Tr.node v l r).get j:=by
 cases n with
 | zero=>cases j<;>rfl
 | succ m=>
   rw[zjI]
   by_cases h:m % 2=0
   ·rw[if_pos h]
    cases j with
    | zero=>rfl
    | succ j=>
      rw[zdK,zdK]
      by_cases h2:j % 2=0
      ·rw[if_pos h2,if_pos h2,hi _ (by omega)]
       by_cases h3:j=m
       ·rw[if_pos (by rw[h3]),if_pos (by rw[h3])]
       ·rw[if_neg (by omega),if_neg (by omega)]
      ·rw[if_neg h2,if_neg h2,if_neg (by omega)]
   ·rw[if_neg h]
    cases j with
    | zero=>rfl
    | succ j=>
      rw[zdK,zdK]
      by_cases h2:j % 2=0
      ·rw[if_pos h2,if_pos h2,if_neg (by omega)]
      ·rw[if_neg h2,if_neg h2,hi _ (by omega)]
       by_cases h3:j=m
       ·rw[if_pos (by rw[h3]),if_pos (by rw[h3])]
       ·rw[if_neg (by omega),if_neg (by omega)]
theorem get_put: ∀(f:Nat) (t:Tr α) (n:Nat) (x:α),n<f-> ∀j,(put f t n x).get j=if j=n then some x else t.get j:=by
 intro f
 induction f with
 | zero=>intro t n x h;omega
 | succ f ih=>
   intro t n x h j;have hi: ∀m,m<n-> ∀t j,(put f t m x).get j=if j=m then some x else t.get j:=fun m hm t j=>ih t m x (by omega) j
   cases t with
   | nil=>
     show(node1 (put f) none .nil .nil n x).get j=_;rw[zhq _ n x hi]
     have : ∀k,(Tr.node none .nil .nil:Tr α).get k=(Tr.nil:Tr α).get k:=by
      intro k
      cases k with
      | zero=>rfl
      | succ k=>rw[zdK];split<;>rfl
     rw[this]
   | node v l r=>exact zhq _ n x hi v l r j
end Tr
structure Fn (α:Type)where
 base:Nat->α
 ov:Tr α
namespace Fn
variable {α:Type}
noncomputable def app (f:Fn α) (k:Nat):α:=match f.ov.get k with
 | some v=>v
 | none=>f.base k
noncomputable def set (f:Fn α) (k:Nat) (v:α):Fn α:=Fn.rec (fun b o=>⟨b,o.put (k+1) k v⟩) f
def of (f:Nat->α):Fn α:=⟨f,.nil⟩
theorem app_set (f:Fn α) (k:Nat) (v:α):(f.set k v).app=upd f.app k v:=by
 funext j
 unfold app set upd;simp only;rw[Tr.get_put (k+1) f.ov k v (by omega)]
 by_cases h:j=k
 ·rw[if_pos h,if_pos h]
 ·rw[if_neg h,if_neg h]
end Fn
structure E where
 env:Fn V
 loc:Fn (Option (List V))
 adr:Fn (Option (Nat×Nat))
 used:Fn Bool
 heap:Fn (Option O)
 nxt:Nat
 bas:Nat
namespace E
noncomputable def st (e:E):St:=⟨e.env.app,e.loc.app,e.adr.app,e.used.app,e.heap.app,e.nxt,e.bas⟩
def begin (e:E) (n:Nat):E:={ e with adr:=.of fun _=>none,used:=.of fun _=>false,bas:=e.nxt,nxt:=e.nxt+n }
noncomputable def hpSet (h:Fn (Option O)):List (Nat×O)->Fn (Option O)
 | []=>h
 | (k,o)::r=>hpSet (h.set k (some o)) r
theorem zlq (h:Fn (Option O)) (l:List (Nat×O)):(hpSet h l).app=zxu h.app l:=by
 induction l generalizing h with
 | nil=>rfl
 | cons a l ih=>rw[hpSet,zxu,ih,Fn.app_set]
noncomputable def apply(s:E) (dst:Option Nat) (e:Eff):E:=
 { s with
   env:=match dst with | some d=>s.env.set d e.val | none=>s.env
   adr:=match dst with | some d=>s.adr.set d e.adr | none=>s.adr
   loc:=match dst with
    | some d=>(match e.wloc with | some (b,cs)=>s.loc.set b (some cs) | none=>s.loc).set d e.loc
    | none=>match e.wloc with | some (b,cs)=>s.loc.set b (some cs) | none=>s.loc
   used:=match e.adr with | some (b,_)=>s.used.set b true | none=>s.used
   heap:=hpSet s.heap e.hp }
theorem apply_st (s:E) (dst:Option Nat) (e:Eff):(s.apply dst e).st=s.st.apply dst e:=by
 unfold apply st St.apply;rcases dst with _ | d<;>rcases e with⟨val,adr,loc,wloc,hp⟩<;>rcases wloc with _ | ⟨b,cs⟩<;>rcases adr with _ | ⟨a1,a2⟩<;>simp only[Fn.app_set,zlq]
def init (args:List V) (h:Fn (Option O)) (n:Nat):E:=⟨.of (zza args),.of fun _=>none,.of fun _=>none,.of fun _=>false,h,n,n⟩
noncomputable def fill:Fn V->List Nat->List V->Fn V
 | env,t::ts,v::vs=>fill (env.set t v) ts vs
 | env,_,_=>env
theorem zm8 (f:Fn V) (ts:List Nat) (vs:List V):(fill f ts vs).app=zzj f.app ts vs:=by
 induction ts generalizing f vs with
 | nil=>cases vs<;>rfl
 | cons t ts ih=>cases vs with
   | nil=>rfl
   | cons v vs=>rw[fill,zzj,ih,Fn.app_set]
noncomputable def round (h:Fn (Option O)) (n k:Nat) (env:Nat->V) (ps:List Nat) (bd:C) (vs:List V):E:=
 ⟨fill (.of env) ps vs,.of fun _=>none,.of fun _=>none,.of fun _=>false,h.set k (some (.loop env ps bd .enter)),n,n⟩
theorem round_st (h:Fn (Option O)) (n k:Nat) (env:Nat->V) (ps:List Nat) (bd:C) (vs:List V):(round h n k env ps bd vs).st=zzg h.app n k env ps bd vs:=by
 unfold round st zzg;simp only[zm8,Fn.app_set];rfl
noncomputable def freeB (s:E) (dst:Option Nat) (e:Eff):Bool:=match dst with
 | none=>true
 | some d=> !s.used.app d&&match e.adr with
   | some (b,_)=> !decide (b=d)
   | none=>true
theorem free_of {s:E} {dst:Option Nat} {e:Eff} (h:s.freeB dst e=true):s.st.free dst e:=by
 intro d hd;subst hd;unfold freeB at h;simp only[zF,Bool.not_eq_true']at h;refine⟨h.1,fun b o hb=> ?_⟩;rw[hb]at h;simpa using h.2
end E
inductive ET where
 | code (c:C) (s:E)
 | loop (b:C) (s:E)
 | ops (draw:Bool) (p:Nat) (l:List ROp) (s:E)
 | pcall (f:Nat) (args:List V)
 | rcall (f:Nat) (args:List V) (h:Fn (Option O)) (n:Nat)
inductive EO where
 | code (e:Ex) (s:E)
 | ops (s:E)
 | val (v:V)
 | vals (v:V) (h:Fn (Option O)) (n:Nat)
noncomputable def ET.task:ET->Task
 | .code c s=> .code c s.st
 | .loop b s=> .loop b s.st
 | .ops d p l s=> .ops d p l s.st
 | .pcall f a=> .pcall f a
 | .rcall f a h n=> .rcall f a h.app n
noncomputable def EO.out:EO->Out
 | .code e s=> .code e s.st
 | .ops s=> .ops s.st
 | .val v=> .val v
 | .vals v h n=> .vals v h.app n
def zCc:Ex->Bool
 | .exit _=>false
 | _=>true
theorem zA6 {e:Ex} (h:zCc e=true): ∀id,e≠ .exit id:=by
 rintro id rfl;cases h
def zyV:Option EO->Option (Ex×E)
 | some (.code e s)=>some (e,s)
 | _=>none
def zBY:Option EO->Option E
 | some (.ops s)=>some s
 | _=>none
def zCL:Option EO->Option V
 | some (.val v)=>some v
 | _=>none
def zAE:Option EO->Option (V×Fn (Option O)×Nat)
 | some (.vals v h n)=>some (v,h,n)
 | _=>none
theorem zx8 {x:Option EO} {e:Ex} {s:E} (h:zyV x=some (e,s)):x=some (.code e s):=by
 unfold zyV at h;split at h
 ·cases h;rfl
 ·cases h
theorem zAX {x:Option EO} {s:E} (h:zBY x=some s):x=some (.ops s):=by
 unfold zBY at h;split at h
 ·cases h;rfl
 ·cases h
theorem zCK {x:Option EO} {v:V} (h:zCL x=some v):x=some (.val v):=by
 unfold zCL at h;split at h
 ·cases h;rfl
 ·cases h
theorem zAn {x:Option EO} {v:V} {hp:Fn (Option O)} {n:Nat} (h:zAE x=some (v,hp,n)):x=some (.vals v hp n):=by
 unfold zAE at h;split at h
 ·cases h;rfl
 ·cases h
noncomputable def loopAt (h:Fn (Option O)) (k:Nat):Option ((Nat->V)×List Nat×C×LSt):=match h.app k with
 | some (.loop env ps b st)=>some (env,ps,b,st)
 | _=>none
theorem zzD {h:Fn (Option O)} {k:Nat} {env:Nat->V} {ps:List Nat} {b:C} {st:LSt} (e:loopAt h k=some (env,ps,b,st)):h.app k=some (.loop env ps b st):=by
 unfold loopAt at e;split at e
 ·rename_i h0;cases e;exact h0
 ·cases e
def LSt.isReady:LSt->Bool
 | .ready=>true
 | _=>false
def LSt.isEnter:LSt->Bool
 | .enter=>true
 | _=>false
def LSt.isBusy:LSt->Bool
 | .busy=>true
 | _=>false
def roundOf:C->Option (C×C)
 | .round a b=>some (a,b)
 | _=>none
def zoD:C->Option Ext
 | .ext e=>some e
 | _=>none
def zsL:V->Option Nat
 | .yl k=>some k
 | _=>none
def zhK:AOp->Option (Bool×Opd×List Opd)
 | .call r f a=>some (r,f,a)
 | _=>none
def zgy:AOp->Option (Opd×List Opd)
 | .fcall f a=>some (f,a)
 | _=>none
def ask (b:Bool):Option Unit:=if b then some ()else none
theorem zye {b:Bool} {u:Unit} (h:ask b=some u):b=true:=by
 unfold ask at h;split at h
 ·assumption
 ·cases h
section
variable (Γ:Nat->Option F) (G:Nat->List T) (R:ET->Option EO)
noncomputable def evCode (s:E):C->Option EO
 | .skip=>some (.code .normal s)
 | .ret=>some (.code .ret s)
 | .exit id=>some (.code (.exit id) s)
 | .region d l=>(zBY (R (.ops d 0 l (s.begin l.length)))).bind fun s'=>some (.code .normal s')
 | .regionD ck l=>(zBY (R (.ops true 0 l (s.begin l.length)))).bind fun s'=>(ask (zAw G s'.st l ck)).bind fun _=>some (.code .normal s')
 | .seq a b=>(zyV (R (.code a s))).bind fun q=>match q with
   | (.normal,s1)=>(zyV (R (.code b s1))).bind fun q=>some (.code q.1 q.2)
   | (e,s1)=>some (.code e s1)
 | .cond c a b=>(zyM G s.st c).bind fun t=>(zyV (R (.code (if t then a else b) s))).bind fun q=>some (.code q.1 q.2)
 | .block id b=>(zyV (R (.code b s))).bind fun q=>some (.code (if q.1= .exit id then .normal else q.1) q.2)
 | .loop b=>(zyV (R (.loop b s))).bind fun q=>some (.code q.1 q.2)
 | .rangeF x ps bd=>(evl G s.st x).bind fun fv=>(zze fv).bind fun g=>(Γ g.1).bind fun fn=>(ask fn.raw).bind fun _=>
   (zAE (R (.rcall g.1 (g.2.1++[.yl s.nxt]++g.2.2) (s.heap.set s.nxt (some (.loop s.env.app ps bd .ready))) (s.nxt+1)))).bind fun r=>
   (loopAt r.2.1 s.nxt).bind fun q=>(LSt.ends q.2.2.2).bind fun e=>some (.code e { s with heap:=r.2.1.set s.nxt (some .dead),nxt:=r.2.2 })
 | .ext _=>none
 | .round _ _=>none
noncomputable def evRest (d:Bool) (p:Nat) (o:ROp) (l:List ROp) (s:E) (e:Eff):Option EO:=
 (zBY (R (.ops d (p+1) l (s.apply o.dst e)))).bind fun s'=>some (.ops s')
noncomputable def evYield (d:Bool) (p:Nat) (o:ROp) (l:List ROp) (s:E) (k:Nat) (vs:List V):Option EO:=
 (loopAt s.heap k).bind fun q=>(ask (LSt.isReady q.2.2.2)).bind fun _=>(roundOf q.2.2.1).bind fun c=>(ask (decide (vs.length=q.2.1.length))).bind fun _=>
 (zyV (R (.code c.1 (.round s.heap s.nxt k q.1 q.2.1 (.round c.1 c.2) vs)))).bind fun r1=>(ask (decide (r1.1= .normal))).bind fun _=>
 (loopAt r1.2.heap k).bind fun q1=>(ask (LSt.isEnter q1.2.2.2)).bind fun _=>
 (zyV (R (.code c.2 { r1.2 with heap:=r1.2.heap.set k (some (.loop q1.1 q1.2.1 q1.2.2.1 .busy)) }))).bind fun r2=>
 (loopAt r2.2.heap k).bind fun q2=>(ask (LSt.isBusy q2.2.2.2)).bind fun _=>
 evRest R d p o l { s with heap:=r2.2.heap.set k (some (.loop q2.1 q2.2.1 q2.2.2.1 r2.1.toL)),nxt:=r2.2.nxt } { val:=.t (.bool (decide (r2.1=Ex.normal))) }
noncomputable def evOp (d:Bool) (p:Nat) (o:ROp) (l:List ROp) (s:E):Option EO:=match zhK o.op with
 | some (raw,f,args)=>(ask (s.freeB o.dst {})).bind fun _=>(evl G s.st f).bind fun fv=>(zzo G s.st args).bind fun vs=>match zsL fv with
   | some k=>(ask raw).bind fun _=>evYield R d p o l s k vs
   | none=>(zze fv).bind fun g=>(Γ g.1).bind fun fn=>if raw then
      (ask fn.raw).bind fun _=>(zAE (R (.rcall g.1 (g.2.1++vs++g.2.2) s.heap s.nxt))).bind fun r=>evRest R d p o l { s with heap:=r.2.1,nxt:=r.2.2 } { val:=r.1 }
     else(ask (!fn.raw)).bind fun _=>((g.2.1++vs++g.2.2).mapM (toT1 s.st.heap)).bind fun rs=>(zCL (R (.pcall g.1 rs))).bind fun r=>
      (ask (!d||r.scalar||((g.2.1++vs++g.2.2).flatMap (zxp s.st.heap)).isEmpty)).bind fun _=>
      evRest R d p o l s { val:=r,hp:=if r.scalar then []else freezes s.st.heap ((g.2.1++vs++g.2.2).flatMap (zxp s.st.heap)) }
 | none=>match zgy o.op with
   | some (f,args)=>(ask (s.freeB o.dst {})).bind fun _=>(evl G s.st f).bind fun fv=>(zzo G s.st args).bind fun vs=>(zze fv).bind fun g=>(Γ g.1).bind fun fn=>(ask fn.raw).bind fun _=>
     ((g.2.1++vs++g.2.2).mapM (toT1 s.st.heap)).bind fun rs=>(ask ((g.2.1++vs++g.2.2).flatMap (zxp s.st.heap)).isEmpty).bind fun _=>
     (zAE (R (.rcall g.1 rs (.of fun _=>none) 0))).bind fun r=>(zBy (s.bas+p) r.1 r.2.1.app).bind fun e=>evRest R d p o l s e
   | none=>(zw4 G p s.st o.op).bind fun e=>(ask (s.freeB o.dst e)).bind fun _=>evRest R d p o l s e
noncomputable def evStep:ET->Option EO
 | .code c s=>evCode Γ G R s c
 | .loop b s=>(zyV (R (.code b s))).bind fun q=>match q with
   | (.normal,s1)=>(zyV (R (.loop b s1))).bind fun q=>some (.code q.1 q.2)
   | (e,s1)=>some (.code e s1)
 | .ops _ _ [] s=>some (.ops s)
 | .ops d p (o::l) s=>(zxW s.st o.guard).bind fun w=>if w then evOp Γ G R d p o l s else(ask (s.freeB o.dst {})).bind fun _=>evRest R d p o l s {}
 | .pcall g args=>(Γ g).bind fun fn=>(ask (!fn.raw)).bind fun _=>match zoD fn.body with
   | some e=>(zyZ e args).bind fun r=>some (.val r)
   | none=>(zyV (R (.code fn.body (.init args (.of fun _=>none) 0)))).bind fun q=>(ask (zCc q.1)).bind fun _=>(zyQ q.2.st fn.results).bind fun v=>(reify q.2.st.heap v).bind fun r=>some (.val r)
 | .rcall g args h m=>(Γ g).bind fun fn=>(ask fn.raw).bind fun _=>match zoD fn.body with
   | some e=>(zyL e args h.app m).bind fun r=>some (.vals r.1 (.of r.2.1) r.2.2)
   | none=>(zyV (R (.code fn.body (.init args h m)))).bind fun q=>(ask (zCc q.1)).bind fun _=>(zyQ q.2.st fn.results).bind fun v=>some (.vals v q.2.heap q.2.nxt)
end
noncomputable def ev (Γ:Nat->Option F) (G:Nat->List T):Nat->ET->Option EO
 | 0=>fun _=>none
 | n+1=>evStep Γ G (ev Γ G n)
section
variable {Γ:Nat->Option F} {G:Nat->List T} {R:ET->Option EO}
def zdx (Γ:Nat->Option F) (G:Nat->List T) (R:ET->Option EO):Prop:= ∀t o,R t=some o->Big Γ G t.task o.out
theorem bind_some {α β:Type} {x:Option α} {f:α->Option β} {b:β} (h:x.bind f=some b): ∃a,x=some a/\f a=some b:=by
 cases x with
 | none=>cases h
 | some a=>exact⟨a,rfl,h⟩
theorem zhz (hR:zdx Γ G R) {s:E} {c:C} {o:EO} (h:evCode Γ G R s c=some o):Big Γ G (.code c s.st) o.out:=by
 cases c with
 | skip=>simp only[evCode,zA]at h;subst h;exact .skip
 | ret=>simp only[evCode,zA]at h;subst h;exact .ret
 | exit id=>simp only[evCode,zA]at h;subst h;exact .exit
 | region d l=>
   simp only[evCode]at h;obtain⟨s',h1,h⟩:=bind_some h;simp only[zA]at h;subst h
   exact .region (hR _ _ (zAX h1))
 | regionD ck l=>
   simp only[evCode]at h;obtain⟨s',h1,h⟩:=bind_some h;obtain⟨u,h2,h⟩:=bind_some h;simp only[zA]at h;subst h
   exact .regionD (hR _ _ (zAX h1)) (zye h2)
 | seq a b=>
   simp only[evCode]at h;obtain⟨⟨e,s1⟩,h1,h⟩:=bind_some h;have g1:=hR _ _ (zx8 h1)
   cases e with
   | normal=>
     obtain⟨⟨e2,s2⟩,h2,h⟩:=bind_some h;simp only[zA]at h;subst h
     exact .seqN g1 (hR _ _ (zx8 h2))
   | exit id=>simp only[zA]at h;subst h;exact .seqX g1 (by intro h;cases h)
   | ret=>simp only[zA]at h;subst h;exact .seqX g1 (by intro h;cases h)
 | cond c a b=>
   simp only[evCode]at h;obtain⟨t,ht,h⟩:=bind_some h;obtain⟨⟨e,s1⟩,h1,h⟩:=bind_some h;simp only[zA]at h;subst h
   exact .cond ht (hR _ _ (zx8 h1))
 | block id b=>
   simp only[evCode]at h;obtain⟨⟨e,s1⟩,h1,h⟩:=bind_some h;simp only[zA]at h;subst h
   exact .block (hR _ _ (zx8 h1))
 | loop b=>
   simp only[evCode]at h;obtain⟨⟨e,s1⟩,h1,h⟩:=bind_some h;simp only[zA]at h;subst h
   exact .loop (hR _ _ (zx8 h1))
 | rangeF x ps bd=>
   simp only[evCode]at h;obtain⟨fv,An,h⟩:=bind_some h;obtain⟨⟨g,a,b⟩,Au,h⟩:=bind_some h;obtain⟨fn,hg,h⟩:=bind_some h;obtain⟨_,hr,h⟩:=bind_some h;obtain⟨⟨r,h',n'⟩,hc,h⟩:=bind_some h;obtain⟨⟨env',ps',bd',st⟩,hl,h⟩:=bind_some h;obtain⟨e,he,h⟩:=bind_some h;simp only[zA]at h;subst h;have g1:=hR _ _ (zAn hc);simp only[ET.task,EO.out,Fn.app_set]at g1;have:=Big.rangeF (s:=s.st) (ps:=ps) (bd:=bd) An Au hg (zye hr) g1 (zzD hl) he
   simpa only[EO.out,E.st,Fn.app_set]using this
 | ext e=>simp[evCode]at h
 | round a b=>simp[evCode]at h
theorem zbg (hR:zdx Γ G R) {d:Bool} {p:Nat} {ro:ROp} {l:List ROp} {s:E} {e:Eff} {o:EO} (h:evRest R d p ro l s e=some o): ∃s',o= .ops s'/\Big Γ G (.ops d (p+1) l (s.st.apply ro.dst e)) (.ops s'.st):=by
 obtain⟨s',h1,h⟩:=bind_some h;simp only[zA]at h;subst h;have:=hR _ _ (zAX h1);simp only[ET.task,EO.out,E.apply_st]at this;exact⟨s',rfl,this⟩
theorem zjO {st:LSt} (h:st.isReady=true):st= .ready:=by cases st<;>first | rfl | cases h
theorem zjP {st:LSt} (h:st.isEnter=true):st= .enter:=by cases st<;>first | rfl | cases h
theorem zlh {st:LSt} (h:st.isBusy=true):st= .busy:=by cases st<;>first | rfl | cases h
theorem zjE {c a b:C} (h:roundOf c=some (a,b)):c= .round a b:=by cases c<;>first | (cases h;rfl) | cases h
theorem zBD {c:C} {e:Ext} (h:zoD c=some e):c= .ext e:=by cases c<;>first | (cases h;rfl) | cases h
theorem zn0 {v:V} {k:Nat} (h:zsL v=some k):v= .yl k:=by cases v<;>first | (cases h;rfl) | cases h
theorem zlV {o:AOp} {r:Bool} {f:Opd} {a:List Opd} (h:zhK o=some (r,f,a)):o= .call r f a:=by cases o<;>first | (cases h;rfl) | cases h
theorem zjW {o:AOp} {f:Opd} {a:List Opd} (h:zgy o=some (f,a)):o= .fcall f a:=by cases o<;>first | (cases h;rfl) | cases h
theorem zgz (hR:zdx Γ G R) {d:Bool} {p:Nat} {ro:ROp} {l:List ROp} {s:E} {k:Nat} {vs:List V} {o:EO} {f:Opd} {args:List Opd} (hw:zxW s.st ro.guard=some true) (hf:s.st.free ro.dst {}) (ho:ro.op= .call true f args)
 (An:evl G s.st f=some (.yl k)) (Aq:zzo G s.st args=some vs) (h:evYield R d p ro l s k vs=some o):Big Γ G (.ops d p (ro::l) s.st) o.out:=by
 unfold evYield at h;obtain⟨⟨env,ps,bd,st⟩,hk,z1⟩:=bind_some h;obtain⟨_,AB,z2⟩:=bind_some z1;obtain⟨⟨ca,cb⟩,hc,z3⟩:=bind_some z2;obtain⟨_,Ac,z4⟩:=bind_some z3;obtain⟨⟨e1,s1⟩,h1,z5⟩:=bind_some z4;obtain⟨_,IO,z6⟩:=bind_some z5;obtain⟨⟨env1,ps1,bd1,st1⟩,Ba,z7⟩:=bind_some z6;obtain⟨_,HV,z8⟩:=bind_some z7;obtain⟨⟨e2,s2⟩,h2,z9⟩:=bind_some z8;obtain⟨⟨env',ps',bd',st2⟩,AX,z10⟩:=bind_some z9;obtain⟨_,Ek,z11⟩:=bind_some z10;have q1:=zjO (zye AB);have q2:=zjP (zye HV);have q3:=zlh (zye Ek);have q4:=zjE hc;have q5:=of_decide_eq_true (zye IO);have q6:=of_decide_eq_true (zye Ac);simp only at q1 q2 q3 q4 q5 q6 h1 h2 hk Ba AX z11;subst q1 q2 q3 q4 q5;obtain⟨s',rfl,hb⟩:=zbg hR z11;have g1:=hR _ _ (zx8 h1);have g2:=hR _ _ (zx8 h2);simp only[ET.task,EO.out,E.round_st]at g1 g2;refine .opsYield (s:=s.st) (s1:=s1.st) (s2:=s2.st) (e:=e2) hw hf ho An (zzD hk) Aq q6 g1 (zzD Ba) ?_ (zzD AX) ?_
 ·simpa only[E.st,Fn.app_set]using g2
 ·simpa only[E.st,Fn.app_set]using hb
theorem zjZ (hR:zdx Γ G R) {d:Bool} {p:Nat} {ro:ROp} {l:List ROp} {s:E} {o:EO} (hw:zxW s.st ro.guard=some true) (h:evOp Γ G R d p ro l s=some o):Big Γ G (.ops d p (ro::l) s.st) o.out:=by
 unfold evOp at h;split at h
 ·rename_i raw f args BL;have ho:=zlV BL;obtain⟨_,hf,h⟩:=bind_some h;obtain⟨fv,An,h⟩:=bind_some h;obtain⟨vs,Aq,h⟩:=bind_some h;have AI:=E.free_of (zye hf);split at h
  ·rename_i k hk;obtain⟨_,hr,h⟩:=bind_some h;have Ag:=zn0 hk;rw[Ag]at An;rw[zye hr]at ho;exact zgz hR hw AI ho An Aq h
  ·obtain⟨⟨g,a,b⟩,Au,h⟩:=bind_some h;obtain⟨fn,hg,h⟩:=bind_some h;split at h
   ·rename_i Bz;rw[Bz]at ho;obtain⟨_,hr,h⟩:=bind_some h;obtain⟨⟨r,h',n'⟩,hc,h⟩:=bind_some h;obtain⟨s',rfl,hb⟩:=zbg hR h;have g1:=hR _ _ (zAn hc);exact .opsRaw hw AI ho An Au hg (zye hr) Aq g1 hb
   ·rename_i Bz;have Bz:raw=false:=by simpa using Bz
    rw[Bz]at ho;obtain⟨_,hr,h⟩:=bind_some h;obtain⟨rs,AA,h⟩:=bind_some h;obtain⟨r,hc,h⟩:=bind_some h;obtain⟨_,hd,h⟩:=bind_some h;obtain⟨s',rfl,hb⟩:=zbg hR h;have g1:=hR _ _ (zCK hc);have Cv:fn.raw=false:=by simpa using zye hr
    have D2:=zye hd;simp only[Bool.or_eq_true,Bool.not_eq_true',List.isEmpty_iff]at D2;refine .opsPure hw AI ho An Au hg Cv Aq AA g1 (fun h0=> ?_) hb;rcases D2 with(D2 | D2) | D2
    ·rw[D2]at h0;cases h0
    ·exact .inl D2
    ·exact .inr D2
 ·split at h
  ·rename_i f args BL;have ho:=zjW BL;obtain⟨_,hf,h⟩:=bind_some h;obtain⟨fv,An,h⟩:=bind_some h;obtain⟨vs,Aq,h⟩:=bind_some h;obtain⟨⟨g,a,b⟩,Au,h⟩:=bind_some h;obtain⟨fn,hg,h⟩:=bind_some h;obtain⟨_,hr,h⟩:=bind_some h;obtain⟨rs,AA,h⟩:=bind_some h;obtain⟨_,hd,h⟩:=bind_some h;obtain⟨⟨r,h',n'⟩,hc,h⟩:=bind_some h;obtain⟨e,he,h⟩:=bind_some h;obtain⟨s',rfl,hb⟩:=zbg hR h;have g1:=hR _ _ (zAn hc);exact .opsFresh hw (E.free_of (zye hf)) ho An Au hg (zye hr) Aq AA (List.isEmpty_iff.1 (zye hd)) g1 he hb
  ·obtain⟨e,he,h⟩:=bind_some h;obtain⟨_,hf,h⟩:=bind_some h;obtain⟨s',rfl,hb⟩:=zbg hR h;exact .opsEff hw (E.free_of (zye hf)) he hb
theorem zhy (hR:zdx Γ G R):zdx Γ G (evStep Γ G R):=by
 intro t o h
 cases t with
 | code c s=>exact zhz hR h
 | loop b s=>
   simp only[evStep]at h;obtain⟨⟨e,s1⟩,h1,h⟩:=bind_some h;have g1:=hR _ _ (zx8 h1)
   cases e with
   | normal=>
     obtain⟨⟨e2,s2⟩,h2,h⟩:=bind_some h;simp only[zA]at h;subst h
     exact .loopN g1 (hR _ _ (zx8 h2))
   | exit id=>simp only[zA]at h;subst h;exact .loopX g1 (by intro h;cases h)
   | ret=>simp only[zA]at h;subst h;exact .loopX g1 (by intro h;cases h)
 | ops d p l s=>
   cases l with
   | nil=>simp only[evStep,zA]at h;subst h;exact .opsNil
   | cons ro l=>
     simp only[evStep]at h;obtain⟨w,hw,h⟩:=bind_some h
     cases w with
     | true=>exact zjZ hR hw h
     | false=>
       simp only[zG,if_false]at h;obtain⟨_,hf,h⟩:=bind_some h;obtain⟨s',rfl,hb⟩:=zbg hR h
       exact .opsSkip hw (E.free_of (zye hf)) hb
 | pcall g args=>
   simp only[evStep]at h;obtain⟨fn,hg,h⟩:=bind_some h;obtain⟨_,hr,h⟩:=bind_some h;have Cv:fn.raw=false:=by simpa using zye hr
   split at h
   ·rename_i e he;obtain⟨r,hx,h⟩:=bind_some h;simp only[zA]at h;subst h;exact .pext hg Cv (zBD he) hx
   ·obtain⟨⟨e,s1⟩,h1,h⟩:=bind_some h;obtain⟨_,hn,h⟩:=bind_some h;obtain⟨v,hv,h⟩:=bind_some h;obtain⟨r,Bk,h⟩:=bind_some h;simp only[zA]at h;subst h
    exact .pcall hg Cv (hR _ _ (zx8 h1)) (zA6 (zye hn)) hv Bk
 | rcall g args hp m=>
   simp only[evStep]at h;obtain⟨fn,hg,h⟩:=bind_some h;obtain⟨_,hr,h⟩:=bind_some h;split at h
   ·rename_i e he;obtain⟨⟨r,h',n'⟩,hx,h⟩:=bind_some h;simp only[zA]at h;subst h;exact .rext hg (zye hr) (zBD he) hx
   ·obtain⟨⟨e,s1⟩,h1,h⟩:=bind_some h;obtain⟨_,hn,h⟩:=bind_some h;obtain⟨v,hv,h⟩:=bind_some h;simp only[zA]at h;subst h;exact .rcall hg (zye hr) (hR _ _ (zx8 h1)) (zA6 (zye hn)) hv
end
/-! The same evaluator in a form that the kernel runs with less room. -/
abbrev TG:=Nat->Option F
abbrev TL:=Nat->List T
abbrev TR:=ET->Option EO
theorem zbF {α β:Type} (x:Option α) (f:α->Option β):x.bind f=Option.rec none f x:=by cases x<;>rfl
theorem zbl {α:Type} (x:Option EO) (f:E->Option α):(zBY x).bind f=Option.rec none (fun o=>EO.rec (fun _ _=>none) f (fun _=>none) (fun _ _ _=>none) o) x:=by
 cases x with
 | none=>rfl
 | some o=>cases o<;>rfl
theorem zbv {α:Type} (x:Option EO) (f:Ex×E->Option α):(zyV x).bind f=Option.rec none (fun o=>EO.rec (fun e s=>f (e,s)) (fun _=>none) (fun _=>none) (fun _ _ _=>none) o) x:=by
 cases x with
 | none=>rfl
 | some o=>cases o<;>rfl
theorem zbU {α:Type} (x:Option EO) (f:V->Option α):(zCL x).bind f=Option.rec none (fun o=>EO.rec (fun _ _=>none) (fun _=>none) f (fun _ _ _=>none) o) x:=by
 cases x with
 | none=>rfl
 | some o=>cases o<;>rfl
theorem zbu {α:Type} (x:Option EO) (f:V×Fn (Option O)×Nat->Option α):(zAE x).bind f=Option.rec none (fun o=>EO.rec (fun _ _=>none) (fun _=>none) (fun _=>none) (fun v h n=>f (v,h,n)) o) x:=by
 cases x with
 | none=>rfl
 | some o=>cases o<;>rfl
noncomputable def valsE (v:V) (s:E):EO:=E.rec (fun _ _ _ _ heap nxt _=>EO.vals v heap nxt) s
theorem zcj (v:V) (s:E):EO.vals v s.heap s.nxt=valsE v s:=by cases s;rfl
theorem zcy {α:Type} (b:Bool) (f:Unit->Option α):(ask b).bind f=Bool.rec none (f ()) b:=by cases b<;>rfl
theorem zdr {α:Type} (b:Bool) (x y:α):(if b=true then x else y)=Bool.rec y x b:=by cases b<;>rfl
noncomputable def stE (t:Option Nat) (env:Fn V) (loc:Fn (Option (List V))) (adr:Fn (Option (Nat×Nat))) (used:Fn Bool) (heap:Fn (Option O)) (nxt bas:Nat) (v:V) (a:Option (Nat×Nat)) (c:Option (List V)) (w:Option (Nat×List V)):E:=
 Option.rec ⟨env,Option.rec loc (fun w=>loc.set w.1 (some w.2)) w,adr,Option.rec used (fun a=>used.set a.1 true) a,heap,nxt,bas⟩
  (fun t=>⟨env.set t v,(Option.rec loc (fun w=>loc.set w.1 (some w.2)) w:Fn (Option (List V))).set t c,adr.set t a,Option.rec used (fun a=>used.set a.1 true) a,heap,nxt,bas⟩) t
noncomputable def restE (R:TR) (d:Bool) (p:Nat) (t:Option Nat) (l:List ROp) (env:Fn V) (loc:Fn (Option (List V))) (adr:Fn (Option (Nat×Nat))) (used:Fn Bool) (heap:Fn (Option O)) (nxt bas:Nat) (e:Eff):Option EO:=
 Option.rec none (fun q=>EO.rec (fun _ _=>none) (fun s'=>some (.ops s')) (fun _=>none) (fun _ _ _=>none) q) (R (.ops d (p+1) l
  (Eff.rec (fun v a c w hp=>List.rec (stE t env loc adr used heap nxt bas v a c w) (fun _ _ _=>stE t env loc adr used (E.hpSet heap hp) nxt bas v a c w) hp) e)))
theorem zgf (R:TR) (d:Bool) (p:Nat) (t:Option Nat) (g:Option (Nat×Bool)) (op:AOp) (l:List ROp) (env:Fn V) (loc:Fn (Option (List V))) (adr:Fn (Option (Nat×Nat))) (used:Fn Bool) (heap:Fn (Option O)) (nxt bas:Nat) (e:Eff):
 evRest R d p ⟨g,t,op⟩ l ⟨env,loc,adr,used,heap,nxt,bas⟩ e=restE R d p t l env loc adr used heap nxt bas e:=by
 have h:E.apply ⟨env,loc,adr,used,heap,nxt,bas⟩ t e=Eff.rec (fun v a c w hp=>List.rec (stE t env loc adr used heap nxt bas v a c w) (fun _ _ _=>stE t env loc adr used (E.hpSet heap hp) nxt bas v a c w) hp) e:=by
  obtain⟨v,a,c,w,hp⟩:=e;cases t<;>cases hp<;>rcases a with _ | ⟨a1,a2⟩<;>rcases w with _ | ⟨w1,w2⟩<;>rfl
 unfold evRest restE;rw[zbl];simp only[h]
theorem zDo (Γ:TG) (G:TL) (R:TR) (d:Bool) (p:Nat) (g:Option (Nat×Bool)) (t:Option Nat) (op:AOp) (l:List ROp) (env:Fn V) (loc:Fn (Option (List V))) (adr:Fn (Option (Nat×Nat))) (used:Fn Bool) (heap:Fn (Option O)) (nxt bas:Nat) (h1:zhK op=none) (h2:zgy op=none):
 (Option.rec none (fun e=>Bool.rec none (restE R d p t l env loc adr used heap nxt bas e) (E.freeB ⟨env,loc,adr,used,heap,nxt,bas⟩ t e)) (zw4 G p (E.st ⟨env,loc,adr,used,heap,nxt,bas⟩) op):Option EO)=evOp Γ G R d p ⟨g,t,op⟩ l ⟨env,loc,adr,used,heap,nxt,bas⟩:=by
 simp only[evOp,h1,h2,zcy,zgf];simp only[zbF]
noncomputable def evO1 (op:AOp): {f:TG->TL->TR->Bool->Nat->Option (Nat×Bool)->Option Nat->List ROp->Fn V->Fn (Option (List V))->Fn (Option (Nat×Nat))->Fn Bool->Fn (Option O)->Nat->Nat->Option EO//
 ∀Γ G R d p g t l env loc adr used heap nxt bas,f Γ G R d p g t l env loc adr used heap nxt bas=evOp Γ G R d p ⟨g,t,op⟩ l ⟨env,loc,adr,used,heap,nxt,bas⟩}:=by
 induction op
 case call r f a=>exact⟨_,fun Γ G R d p g t l env loc adr used heap nxt bas=>by simp only[evOp,zhK,zgf,zbl,zbv,zbU,zbu,zcj,zcy];(try simp only[zbF,zdr]);rfl⟩
 case fcall f a=>exact⟨_,fun Γ G R d p g t l env loc adr used heap nxt bas=>by simp only[evOp,zhK,zgy,zgf,zbl,zbv,zbU,zbu,zcj,zcy];(try simp only[zbF,zdr]);rfl⟩
 all_goals exact⟨_,fun Γ G R d p g t l env loc adr used heap nxt bas=>by refine Eq.trans ?_ (zDo Γ G R d p g t _ l env loc adr used heap nxt bas rfl rfl);simp only[zw4,zC,zbF];rfl⟩
noncomputable def begE (s:E) (n:Nat):E:=
 E.rec (fun env loc _ _ heap nxt _=>Nat.rec ⟨env,loc,.of fun _=>none,.of fun _=>false,heap,n,0⟩ (fun m _=>⟨env,loc,.of fun _=>none,.of fun _=>false,heap,m+1+n,m+1⟩) nxt) s
theorem zoO (s:E) (n:Nat):s.begin n=begE s n:=by
 obtain⟨env,loc,adr,used,heap,nxt,bas⟩:=s;cases nxt
 ·show(⟨env,loc,_,_,heap,0+n,0⟩:E)=⟨env,loc,_,_,heap,n,0⟩;rw[Nat.zero_add]
 ·rfl
noncomputable def evC1 (c:C): {f:TG->TL->TR->E->Option EO// ∀Γ G R s,f Γ G R s=evCode Γ G R s c}:=by
 induction c<;>exact⟨_,fun Γ G R s=>by simp only[evCode,zoO,zbl,zbv,zbU,zbu,zcj,zcy];(try simp only[zbF,zdr]);rfl⟩
noncomputable def skp (env:Fn V) (loc:Fn (Option (List V))) (adr:Fn (Option (Nat×Nat))) (used:Fn Bool) (heap:Fn (Option O)) (nxt bas:Nat) (dst:Option Nat):E:=
 Option.rec ⟨env,loc,adr,used,heap,nxt,bas⟩ (fun d=>⟨env.set d .undef,loc.set d none,adr.set d none,used,heap,nxt,bas⟩) dst
theorem zpg (env:Fn V) (loc:Fn (Option (List V))) (adr:Fn (Option (Nat×Nat))) (used:Fn Bool) (heap:Fn (Option O)) (nxt bas:Nat) (dst:Option Nat):E.apply ⟨env,loc,adr,used,heap,nxt,bas⟩ dst {}=skp env loc adr used heap nxt bas dst:=by
 cases dst<;>rfl
theorem zoG (Γ:TG) (G:TL) (R:TR) (d:Bool) (p:Nat) (o:ROp) (l:List ROp) (env:Fn V) (loc:Fn (Option (List V))) (adr:Fn (Option (Nat×Nat))) (used:Fn Bool) (heap:Fn (Option O)) (nxt bas:Nat):
 (Option.rec none (fun w=>Bool.rec (Bool.rec none (Option.rec none (fun q=>EO.rec (fun _ _=>none) (fun s'=>some (.ops s')) (fun _=>none) (fun _ _ _=>none) q) (R (.ops d (p+1) l (skp env loc adr used heap nxt bas o.dst)))) (E.freeB ⟨env,loc,adr,used,heap,nxt,bas⟩ o.dst {}))
   ((evO1 o.op).1 Γ G R d p o.guard o.dst l env loc adr used heap nxt bas) w) (zxW (E.st ⟨env,loc,adr,used,heap,nxt,bas⟩) o.guard):Option EO)=evStep Γ G R (.ops d p (o::l) ⟨env,loc,adr,used,heap,nxt,bas⟩):=by
 simp only[evStep]
 cases zxW (E.st ⟨env,loc,adr,used,heap,nxt,bas⟩) o.guard with
 | none=>rfl
 | some w=>
   cases w with
   | true=>exact(evO1 o.op).2 ..
   | false=>
     simp only[zD,zG,if_false,evRest,zpg]
     cases E.freeB ⟨env,loc,adr,used,heap,nxt,bas⟩ o.dst {}with
     | false=>rfl
     | true=>
       simp only[zbl,zcy]
noncomputable def evS1 (t:ET): {f:TG->TL->TR->Option EO// ∀Γ G R,f Γ G R=evStep Γ G R t}:=by
 induction t with
 | code c s=>exact⟨fun Γ G R=>(evC1 c).1 Γ G R s,fun Γ G R=>(evC1 c).2 Γ G R s⟩
 | loop b s=>exact⟨_,fun Γ G R=>by simp only[evStep,zbl,zbv,zbU,zbu,zcj,zcy];(try simp only[zbF,zdr]);rfl⟩
 | ops d p l s=>
   induction l with
   | nil=>exact⟨_,fun Γ G R=>by simp only[evStep,zbl,zbv,zbU,zbu,zcj,zcy];(try simp only[zbF,zdr]);rfl⟩
   | cons o l _=>
     induction s with
     | mk env loc adr used heap nxt bas=>exact⟨_,fun Γ G R=>zoG Γ G R d p o l env loc adr used heap nxt bas⟩
 | pcall g a=>exact⟨_,fun Γ G R=>by simp only[evStep,zbl,zbv,zbU,zbu,zcj,zcy];(try simp only[zbF,zdr]);rfl⟩
 | rcall g a h m=>exact⟨_,fun Γ G R=>by simp only[evStep,zbl,zbv,zbU,zbu,zcj,zcy];(try simp only[zbF,zdr]);rfl⟩
noncomputable def knownT (K:Nat->List V->Option V) (t:ET):Option V:=ET.rec (fun _ _=>none) (fun _ _=>none) (fun _ _ _ _=>none) K (fun _ _ _ _=>none) t
noncomputable def ev2 (K:Nat->List V->Option V) (Γ:TG) (G:TL) (n:Nat):TR:=Nat.rec (fun _=>none) (fun _ R t=>Option.rec ((evS1 t).1 Γ G R) (fun r=>some (.val r)) (knownT K t)) n
theorem zBc {Γ:TG} {G:TL} {K:Nat->List V->Option V} (hK: ∀g args r,K g args=some r->Den Γ G g args=some r): ∀n,zdx Γ G (ev2 K Γ G n)
 | 0=>fun _ _ h=>by cases h
 | n+1=>by
   intro t o h;have h':(Option.rec ((evS1 t).1 Γ G (ev2 K Γ G n)) (fun r=>some (.val r)) (knownT K t):Option EO)=some o:=h
   cases hk:knownT K t with
   | none=>
     rw[hk]at h';have h2:(evS1 t).1 Γ G (ev2 K Γ G n)=some o:=h';rw[(evS1 t).2]at h2
     exact zhy (zBc hK n) _ _ h2
   | some r=>
     rw[hk]at h';cases h'
     cases t with
     | pcall g a=>exact zzw.1 (hK g a r hk)
     | _=>cases hk
theorem zd4 {Γ:TG} {G:TL} {K:Nat->List V->Option V} (hK: ∀g args r,K g args=some r->Den Γ G g args=some r) (n:Nat) {g:Nat} {args:List V} {r:V} (h:ev2 K Γ G n (.pcall g args)=some (.val r)):Den Γ G g args=some r:=
 zzw.2 (zBc hK n _ _ h)
end Rg
end
section
set_option maxRecDepth 100000
namespace Rg
open Go
mutual
def eqT:T->T->Bool
 | .int k a,.int l b=>decide (k=l)&&decide (a=b)
 | .bool a,.bool b=>decide (a=b)
 | .str a,.str b=>decide (a.data.toList=b.data.toList)
 | .sl a,.sl b=>zo1 a b
 | _,_=>false
def eqR:List T->List T->Bool
 | [],[]=>true
 | x::a,y::b=>eqT x y&&eqR a b
 | _,_=>false
def zo1:List (List T)->List (List T)->Bool
 | [],[]=>true
 | x::a,y::b=>eqR x y&&zo1 a b
 | _,_=>false
end
mutual
theorem znR: ∀{a b:T},eqT a b=true->a=b
 | .int k a,b,h=>by
   cases b<;>simp only[eqT,zF,decide_eq_true_eq,zG]at h
   rw[h.1,h.2]
 | .bool a,b,h=>by
   cases b<;>simp only[eqT,decide_eq_true_eq,zG]at h
   rw[h]
 | .str a,b,h=>by
   cases b<;>simp only[eqT,decide_eq_true_eq,zG]at h
   rename_i b
   have:a=b:=by
    cases a;cases b
    congr
    exact Array.toList_inj.1 h
   rw[this]
 | .sl a,b,h=>by
   cases b<;>simp only[eqT,zG]at h
   rw[zlH h]
 | .nilp,b,h=>by simp[eqT]at h
 | .nils,b,h=>by simp[eqT]at h
 | .nilm,b,h=>by simp[eqT]at h
 | .nilf,b,h=>by simp[eqT]at h
 | .nili,b,h=>by simp[eqT]at h
 | .ip _,b,h=>by simp[eqT]at h
 | .fn _ _ _,b,h=>by simp[eqT]at h
 | .fa _ _,b,h=>by simp[eqT]at h
 | .opq,b,h=>by simp[eqT]at h
 | .slc _,b,h=>by simp[eqT]at h
theorem zlI: ∀{a b:List T},eqR a b=true->a=b
 | [],[],_=>rfl
 | [],_::_,h=>by simp[eqR]at h
 | _::_,[],h=>by simp[eqR]at h
 | x::a,y::b,h=>by
   simp only[eqR,zF]at h;rw[znR h.1,zlI h.2]
theorem zlH: ∀{a b:List (List T)},zo1 a b=true->a=b
 | [],[],_=>rfl
 | [],_::_,h=>by simp[zo1]at h
 | _::_,[],h=>by simp[zo1]at h
 | x::a,y::b,h=>by
   simp only[zo1,zF]at h;rw[zlI h.1,zlH h.2]
end
def zBh:List V->Option (List T)
 | []=>some []
 | .t x::r=>(zBh r).map (x:: ·)
 | _=>none
theorem zfg: ∀{l:List V} {r:List T},zBh l=some r->l=r.map V.t
 | [],r,h=>by cases h;rfl
 | .t x::l,r,h=>by
   simp only[zBh,zE]at h;obtain⟨y,hy,rfl⟩:=h
   rw[zfg hy];rfl
 | .ms _ _ _::_,_,h=>by cases h
 | .mp _ _ _::_,_,h=>by cases h
 | .mm _::_,_,h=>by cases h
 | .yl _::_,_,h=>by cases h
 | .fn _ _ _::_,_,h=>by cases h
 | .agg _::_,_,h=>by cases h
 | .tup _::_,_,h=>by cases h
 | .undef::_,_,h=>by cases h
 | .lb::_,_,h=>by cases h
def eqV:V->V->Bool
 | .t a,.t b=>eqT a b
 | .agg a,.agg b=>match zBh a,zBh b with
   | some x,some y=>eqR x y
   | _,_=>false
 | _,_=>false
theorem zpS {a b:V} (h:eqV a b=true):a=b:=by
 unfold eqV at h;split at h
 ·rw[znR h]
 ·split at h
  ·rename_i h1 h2;rw[zfg h1,zfg h2,zlI h]
  ·cases h
 ·cases h
def zo0:List V->List V->Bool
 | [],[]=>true
 | x::a,y::b=>eqV x y&&zo0 a b
 | _,_=>false
theorem zlG: ∀{a b:List V},zo0 a b=true->a=b
 | [],[],_=>rfl
 | [],_::_,h=>by simp[zo0]at h
 | _::_,[],h=>by simp[zo0]at h
 | x::a,y::b,h=>by
   simp only[zo0,zF]at h;rw[zpS h.1,zlG h.2]
def zti (l:List (Nat×List V×V)) (g:Nat) (args:List V):Option V:=(l.find? fun e=>e.1==g&&zo0 e.2.1 args).map (·.2.2)
theorem zzM {l:List (Nat×List V×V)} (h: ∀e∈l,Den Γ G e.1 e.2.1=some e.2.2): ∀g args r,zti l g args=some r->Den Γ G g args=some r:=by
 intro g args r hr;unfold zti at hr;rw[zE]at hr;obtain⟨e,he,rfl⟩:=hr;have h1:=List.find?_some he;simp only[zF,beq_iff_eq]at h1;rw[<- h1.1,<- zlG h1.2];exact h e (List.mem_of_find?_eq_some he)
end Rg
end
section
set_option maxRecDepth 100000
namespace Rg
open Go
def i36:Expr:=.mk 2 2 0 []
def zfn:Expr:=.mk 1 2 2 []
def zmP:Expr:=.mk 1 1 1 []
def ztJ (b:Bool):Expr:=if b then .mk 1 2 0 []else .mk 8 2 0 [i36,.mk 1 2 1 []]
def zBU (b:Bool):Prog:=
 ⟨[⟨bs [116,46,105],2,0,0,false,0⟩],[⟨bs [77],bs [111],.mk 0 0 0 [],zmP,[]⟩],[],
  [⟨bs [116],3,[.mk 13 1 0 [i36,zfn],zmP,zmP],[0,0,0],
    [⟨1,0,1,.mk 12 1 0 [i36,zfn],[],false,0,0⟩,⟨1,1,0,zmP,[⟨0,ztJ b⟩],false,0,0⟩,⟨1,0,2,.mk 11 1 0 [i36,zfn],[],false,0,0⟩],
    [⟨0,[1],.mk 9 2 0 [zfn,i36]⟩],false⟩]⟩
abbrev exV (b:Bool):V:=(zP (zBU b))
theorem zAh (b:Bool):(zBU b).sane:=by
 cases b<;>exact⟨by decide,by decide,by decide,by decide,by decide+kernel,by decide+kernel,by decide+kernel,by decide+kernel,by decide+kernel⟩
theorem zd3:zxL (zBU false)=(0,-1,-1)/\zxL (zBU true)=(0,-1,-1):=⟨by decide+kernel,by decide+kernel⟩
def k36:List (Nat×List V×V):=[(64,[exV false],.tup [vi 0,vi (-1),vi (-1)]),(64,[exV true],.tup [vi 0,vi (-1),vi (-1)])]
theorem zA9: ∀e∈k36,Den Γ G e.1 e.2.1=some e.2.2:=by
 intro e he;simp only[k36,List.mem_cons,List.not_mem_nil,or_false]at he;have h1:=zbM (zBU false) (zAh false);have h2:=zbM (zBU true) (zAh true);rw[zd3.1]at h1;rw[zd3.2]at h2;rcases he with rfl | rfl
 ·exact h1
 ·exact h2
theorem zsv:Den Γ G 347 [vb false]=some (exV false):=zd4 (zzM zA9) 3000 (by kernel_rfl)
theorem zsu:Den Γ G 347 [vb true]=some (exV true):=zd4 (zzM zA9) 3000 (by kernel_rfl)
theorem zm4 {l:List Int} {c:Int} (h:l.Pairwise (· < ·)) (hm: ∀x,x∈l<->x=c):l=[c]:=by
 match l,h,hm with
 | [],_,hm=>have:=(hm c).2 rfl;simp at this
 | [x],_,hm=>rw[(hm x).1 (by simp)]
 | x::y::l,h,hm=>
   have h1:=(hm x).1 (by simp);have h2:=(hm y).1 (by simp);have:=(List.pairwise_cons.1 h).1 y (by simp);omega
theorem zsB:Den Γ G 336 [exV false,vi 0,vi 0]=some (.tup [vi 2,vi 0]):=by
 have hf:zw6 (zBU false)=true:=by rw[zw6,zd3.1];rfl
 obtain⟨A,hL⟩:=zi6 (t:=0) (j:=0) hf rfl rfl;have hA:=hL.hA;cases hA;have hb:=zlW (zBU false) (zAh false) hf (t:=0) (j:=0) rfl rfl hL
 have hc:zxE (.mk 13 1 0 [i36,zfn]) (.mk 9 2 0 [zfn,i36])=[0]:=by
  refine zm4 (zyD _) fun x=> ?_
  rw[zxE,zeH];have e1:Expr.sup 2 (.mk 13 1 0 [i36,zfn])=[0]:=by decide+kernel
  have e2:Expr.sup 2 (.mk 9 2 0 [zfn,i36])=[0]:=by decide+kernel
  rw[e1,e2];simp
 rw[hc]at hb;have e3:zxf (zBU false) [0]=2:=by decide+kernel
 have e4:zoN (zBU false) [0] (.mk 13 1 0 [i36,zfn]) (.mk 9 2 0 [zfn,i36])=2:=by decide+kernel
 rw[e3,e4]at hb;exact hb
def zpn:V:=.t (.sl [[ti 0,ti 0,ti 0],[ti 0,ti 1,ti 0],[ti 0,ti 0,ti 0],[ti 0,ti 1,ti 0],[ti 0,ti 2,ti 0]])
theorem zr2:Den Γ G 341 [exV false,vi 0,zpn,vi 0,vi 0]=some (.tup [vi 2,vi 0]):=zd4 (zzM zA9) 3000 (by kernel_rfl)
end Rg
end
section
set_option maxRecDepth 100000
namespace Rg
open Go
theorem zpI:Den Γ G 343 [exV false,vi 1,vi 0,vi 0,vi 100]=some (.tup [.t (.sl []),.t (.sl []),vi 4]):=zd4 (zzM zA9) 3000 (by kernel_rfl)
end Rg
end
