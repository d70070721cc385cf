/- Part of the proof of laws of relyguardlaw04. No condition. -/
import Derived.Test.YtmgalfhaeddfbaaDoorOartAE
set_option linter.unusedVariables false
set_option linter.unusedSimpArgs false
section
namespace Rg
open Go
section
variable (P:Program) (I:Inv)
def zeR (ops:Array Oper) (ns:Nat):Option (Nat×Bool)->Option (Option (Nat×Bool))
 | none=>some none
 | some (j,want)=>match(ops[j]?).bind (·.dst)with
   | some d=>if d<ns then some (some (d,want))else none
   | none=>none
def zyT (ns:Nat):Option Nat->Bool
 | none=>true
 | some d=>decide (d<ns)
def zj2:AOp->Bool
 | .faddrL _ _=>true
 | .iaddrAL _ _ _ _=>true
 | _=>false
def isCall:AOp->Bool
 | .call _ _ _=>true
 | .fcall _ _=>true
 | _=>false
structure Raws where
 fns:List Nat
 slots:List Nat
 own:List Nat:=[]
 keep:List Nat:=[]
def Raws.raw (r:Raws) (dst:Option Nat):Opd->Bool
 | .c (.t (.fn k _ _))=>r.fns.contains k||(match dst with | some d=>r.slots.contains d | none=>false)
 | _=>match dst with
   | some d=>r.slots.contains d
   | none=>true
def Raws.fresh (r:Raws):Opd->Bool
 | .c (.t (.fn k _ _))=>r.own.contains k
 | _=>false
def Raws.mark (r:Raws):Opd->Opd
 | .c (.t (.fn k [] []))=>if r.keep.contains k then .c (.fn k [] [])else .c (.t (.fn k [] []))
 | f=>f
theorem zLU {I:Inv} {r:Raws} {cl:Call} {f0:Operand} {f:Opd} (hb:cl.callee= .value f0) (hf:opd I f0=some f):zHk I cl (r.mark f)\/zMo I cl (r.mark f):=by
 unfold Raws.mark;split
 ·split
  ·exact .inr ⟨f0,_,hb,hf,rfl⟩
  ·exact .inl ⟨f0,hb,hf⟩
 ·exact .inl ⟨f0,hb,hf⟩
def zJu (name:String):List (Nat×Nat):=
 I.tys.filterMap fun q=>match zHK P q.2 name with
  | some F=>(I.fi F).bind fun g=>if g<1000000 then some (q.1,g)else none
  | none=>(zHJ P q.2 name).bind fun F=>(I.fi F.1).bind fun g=>if g<1000000 then some (q.1,g+1000000*(F.2+1))else none
def zey (rw:Raws) (isL:Nat->Bool) (dst:Option Nat) (op:Op):Option AOp:=
 match op with
 | .call c=>match c.callee with
   | .value f=>do
     let f<- opd I f
     let args<- opds I c.args
     some (if rw.fresh f then .fcall f args else if rw.raw dst f then .call true (rw.mark f) args else .call false f args)
   | .invoke (.tmp t) name=>do
     let args<- opds I c.args
     some (.call true (.m (zJu P I name) t) args)
   | _=>do
     let x<- zbq P I isL dst op
     if isCall x then none else some x
 | _=>do
   let x<- zbq P I isL dst op
   if isCall x then none else some x
def zgG (rw:Raws) (L:List Nat) (ns:Nat) (ops:Array Oper):List Nat->List Oper->Option (List ROp)
 | _,[]=>some []
 | adrs,o::os=>do
   let op<- zey P I rw (fun t=>L.contains t||adrs.contains t) o.dst o.op
   let g<- zeR ops ns o.guard
   let rest<- zgG rw L ns ops (if zj2 op then o.dst.toList++adrs else adrs) os
   if zyT ns o.dst then some ({ guard:=g,dst:=o.dst,op:=op }::rest)else none
structure OpRel (ns:Nat) (ops:Array Oper) (o:Oper) (r:ROp):Prop where
 dst:r.dst=o.dst
 op: ∃rw isL,zey P I rw isL o.dst o.op=some r.op
 lt: ∀x,o.dst=some x->x<ns
 guard:zeR ops ns o.guard=some r.guard
theorem zfK {rw:Raws} {L:List Nat} {ns:Nat} {ops:Array Oper}: ∀{os:List Oper} {adrs:List Nat} {l:List ROp},zgG P I rw L ns ops adrs os=some l->
 os.length=l.length/\ ∀(i:Nat) (r:ROp),l[i]? =some r-> ∃o,os[i]? =some o/\OpRel P I ns ops o r
 | [],adrs,l,h=>by simp[zgG]at h;subst h;simp
 | o::os,adrs,l,h=>by
   simp only[zgG,zC,zB]at h;obtain⟨op,Ao,g,hg,rest,CP,h⟩:=h;split at h
   ·rename_i hd;simp only[zA]at h;subst h;obtain⟨h1,h2⟩:=zfK CP;refine⟨by simp[h1],fun i r hi=> ?_⟩
    cases i with
    | zero=>
      simp at hi;subst hi;refine⟨o,rfl,rfl,⟨_,_,Ao⟩,fun x hx=> ?_,hg⟩
      simp[zyT,hx]at hd;exact hd
    | succ i=>simp at hi;simpa using h2 i r hi
   ·simp at h
end
theorem zeD {N:Nam} {c:Ctx} {ns:Nat} {A:Nat->Prop} {μ lam:Nat->Nat} {s:St} {a:Act} {w:World} (R:Rel N c ns A μ lam s a w) {ops:Array Oper} {o:Oper} {g:Option (Nat×Bool)} {b:Bool}
 (hg:zeR ops ns o.guard=some g) (hw:zcs s g=some b):Region.wanted o (yielded ops a.tmps)=b:=by
 unfold zeR at hg;split at hg
 ·rename_i hn;simp only[zA]at hg;subst hg;simp only[zcs,zA]at hw;subst hw;simp[Region.wanted,hn]
 ·rename_i j want hj;split at hg
  ·rename_i d hd;split at hg
   ·rename_i Ad;simp only[zA]at hg;subst hg;have he:=R.env d
    have Ag:a.tmps[d]? =some (a.tmps.getD d undef):=by
     have:d<a.tmps.size:=by rw[R.size];exact Ad
     rw[Array.getD_eq_getD_getElem?,Array.getElem?_eq_getElem this];rfl
    simp only[zcs]at hw;simp only[Region.wanted,hj,yielded,hd,zD];split at hw
    ·rename_i b' hb;rw[hb]at he;simp only[zA]at hw;subst hw;rw[Ag,he.bool_inv];cases b'<;>cases want<;>rfl
    ·rename_i hb;rw[hb]at he;simp only[zA]at hw;subst hw;rw[Ag,show a.tmps.getD d undef=undef from he];rfl
    ·simp at hw
   ·simp at hg
  ·simp at hg
theorem zsy {G:Nat->List T} {p:Nat} {s:St} {op:AOp} {e:Eff} (h:zaj G p s op=some e): ∀x∈e.hp,x.1=s.bas+p\/(s.heap x.1).isSome=true:=by
 intro x hx;cases op
 all_goals simp only[zaj,zC,zB,zA,Prod.exists]at h
 all_goals(try(repeat(first | (obtain⟨_,_,h⟩:=h) | split at h | (simp only[zB,zA]at h))))
 all_goals(try(repeat(first | (obtain⟨_,_,h⟩:=h) | split at h | (simp only[zB,zA]at h))))
 all_goals(try(repeat(first | (obtain⟨_,_,h⟩:=h) | split at h | (simp only[zB]at h))))
 all_goals(try(repeat(first | (obtain⟨_,_,h⟩:=h) | split at h | (simp only[zB]at h))))
 all_goals(try(simp at h;done))
 all_goals(try(subst h;simp at hx;done))
 all_goals(try subst h)
 all_goals(try(simp at hx;done))
 all_goals(try(simp at h;done))
 all_goals(try(simp only[List.mem_cons,List.not_mem_nil,or_false]at hx))
 all_goals(try(rcases hx with rfl | rfl<;>simp[*];done))
 all_goals(try(subst hx;simp[*];done))
inductive StepG (P:Program) (N:Nam) (d:Bool) (p:Nat) (o:ROp) (s:St):St->Prop where
 | skip (hw:zcs s o.guard=some false) (hf:s.free o.dst {}):StepG P N d p o s (s.apply o.dst {})
 | eff {e:Eff} (hw:zcs s o.guard=some true) (hf:s.free o.dst e) (he:zaj N.G p s o.op=some e):StepG P N d p o s (s.apply o.dst e)
 | pure {f:Opd} {args:List Opd} {fv:V} {g:Nat} {a b vs rs:List V} {r:V} {rf:Func} (hw:zcs s o.guard=some true) (hf:s.free o.dst {}) (ho:o.op= .call false f args) (As:evl N.G s f=some fv)
    (Ax:zfC fv=some (g,a,b)) (An:Real P (N.nm g) rf) (Au:zgE N.G s args=some vs) (AD:(a++vs++b).mapM (toT1 s.heap)=some rs) (hc:zjO P N g rs r) (hd:d=true->r.scalar=true\/(a++vs++b).flatMap (zba s.heap)=[]):
    StepG P N d p o s (s.apply o.dst { val:=r,hp:=if r.scalar then []else freezes s.heap ((a++vs++b).flatMap (zba s.heap)) })
 | raw {f:Opd} {args:List Opd} {fv:V} {g:Nat} {a a0 b vs:List V} {r:V} {rf:Func} {H':Nat->Option O} {n':Nat} (hw:zcs s o.guard=some true) (hf:s.free o.dst {}) (ho:o.op= .call true f args) (As:evl N.G s f=some fv)
    (Ax:zfC fv=some (g,a0,b)) (Bu:zJ3 s.heap a0=some a) (An:Real P (N.nm g) rf) (Au:zgE N.G s args=some vs) (hc:zns P N g (a++vs++b) s.heap s.nxt r H' n') (hn:s.nxt<=n') (AG: ∀k,k<s.nxt->s.heap k=none->H' k=none)
    (A8:zHX f=true-> ∀k∈zid N.G s args,H' k=s.heap k):StepG P N d p o s ({ s with heap:=H',nxt:=n' }.apply o.dst { val:=r })
 | fresh {f:Opd} {args:List Opd} {fv:V} {g:Nat} {a b vs rs:List V} {r:V} {rf:Func} {H':Nat->Option O} {n':Nat} {e:Eff} (hw:zcs s o.guard=some true) (hf:s.free o.dst {}) (ho:o.op= .fcall f args) (As:evl N.G s f=some fv)
    (Ax:zfC fv=some (g,a,b)) (An:Real P (N.nm g) rf) (Au:zgE N.G s args=some vs) (AD:(a++vs++b).mapM (toT1 s.heap)=some rs) (hd:(a++vs++b).flatMap (zba s.heap)=[])
    (hc:zns P N g rs (fun _=>none) 0 r H' n') (he:zqm (s.bas+p) r H'=some e):StepG P N d p o s (s.apply o.dst e)
 | yld {f:Opd} {args:List Opd} {k:Nat} {vs:List V} {env env1 env':Nat->V} {ps ps1 ps':List Nat} {ca cb bd1 bd':C} {e:Ex} {s1 s2:St} (hw:zcs s o.guard=some true) (hf:s.free o.dst {}) (ho:o.op= .call true f args)
    (As:evl N.G s f=some (.yl k)) (hk:s.heap k=some (.loop env ps (.round ca cb) .ready)) (Au:zgE N.G s args=some vs) (Ac:vs.length=ps.length) (Bi:zk5 P N ca (zht s.heap s.nxt k env ps (.round ca cb) vs) .normal s1)
    (AT:s1.heap k=some (.loop env1 ps1 bd1 .enter)) (CL:zk5 P N cb { s1 with heap:=upd s1.heap k (some (.loop env1 ps1 bd1 .busy)) } e s2)
    (AF:s2.heap k=some (.loop env' ps' bd' .busy)) (AG:s.nxt<=s2.nxt/\ ∀k',k'<s.nxt->s.heap k'=none->s2.heap k'=none):
    StepG P N d p o s ({ s with heap:=upd s2.heap k (some (.loop env' ps' bd' e.toL)),nxt:=s2.nxt }.apply o.dst { val:=.t (.bool (decide (e=Ex.normal))) })
section
variable {P:Program} {N:Nam} {I:Inv} {c:Ctx} {d:Bool} {ns p:Nat} {A:Nat->Prop} {μ lam:Nat->Nat} {s s' : St} {a:Act} {w:World} {e:Eff} {o:Oper} {ro:Option Nat} {r:ROp} {ops:Array Oper}
theorem zJt {name:String} {k g:Nat} (h:(k,g)∈zJu P I name): ∃ty,(k,ty)∈I.tys/\zPg P I ty name g:=by
 simp only[zJu,List.mem_filterMap]at h;obtain⟨q,hq,h⟩:=h;split at h
 ·rename_i F hF;simp only[zB]at h;obtain⟨g',hg,h⟩:=h;split at h
  ·rename_i Ad;simp only[zA,Prod.mk.injEq]at h;obtain⟨rfl,rfl⟩:=h;exact⟨q.2,hq,F,.inl ⟨Ad,hF,hg⟩⟩
  ·cases h
 ·simp only[zB]at h;obtain⟨F,hF,g',hg,h⟩:=h;split at h
  ·rename_i Ad;simp only[zA,Prod.mk.injEq]at h;obtain⟨rfl,rfl⟩:=h;exact⟨q.2,hq,F.1,.inr ⟨F.2,g',Ad,rfl,hF,hg⟩⟩
  ·cases h
theorem zpK {rw:Raws} {isL:Nat->Bool} {dst:Option Nat} {op:Op} {x:AOp} (hx:isCall x=true) (h:zey P I rw isL dst op=some x):
 ∃cl f args,op= .call cl/\zJ2 P I cl f/\opds I cl.args=some args/\(x= .fcall f args/\zHk I cl f\/ ∃b,x= .call b f args/\(b=false->zHk I cl f)):=by
 have Be: ∀{y:Option AOp},(do let z<- y;if isCall z then none else some z)=some x->False:=by
  intro y hy;simp only[zC,zB]at hy;obtain⟨z,_,hz⟩:=hy;split at hz
  ·simp at hz
  ·rename_i hc;simp only[zA]at hz;subst hz;exact hc hx
 unfold zey at h;split at h
 ·rename_i cl;split at h
  ·rename_i f0 hb;simp only[zC,zB,zA]at h;obtain⟨f1,H6,as,Dt,h⟩:=h;split at h
   ·exact⟨cl,f1,as,rfl,.inl ⟨f0,hb,H6⟩,Dt,.inl ⟨h.symm,f0,hb,H6⟩⟩
   ·split at h
    ·exact⟨cl,_,as,rfl,(zLU (r:=rw) hb H6).imp id .inl,Dt,.inr ⟨_,h.symm,fun hb=>by cases hb⟩⟩
    ·exact⟨cl,f1,as,rfl,.inl ⟨f0,hb,H6⟩,Dt,.inr ⟨_,h.symm,fun _=>⟨f0,hb,H6⟩⟩⟩
  ·rename_i t name hb;simp only[zC,zB,zA]at h;obtain⟨as,Dt,h⟩:=h;exact⟨cl,_,as,rfl,.inr (.inr ⟨t,name,_,hb,rfl,fun k g hm=>zJt hm⟩),Dt,.inr ⟨_,h.symm,fun hb=>by cases hb⟩⟩
  ·exact(Be h).elim
 ·exact(Be h).elim
theorem zjA {rw:Raws} {isL:Nat->Bool} {dst:Option Nat} {op:Op} {b:Bool} {f:Opd} {args:List Opd} (h:zey P I rw isL dst op=some (.call b f args)):
 ∃cl,op= .call cl/\zJ2 P I cl f/\opds I cl.args=some args/\(b=false->zHk I cl f):=by
 obtain⟨cl,f1,as1,h1,h2,h4,hx⟩:=zpK rfl h;rcases hx with⟨hx,_⟩ | ⟨b',hx,hb⟩
 ·simp at hx
 ·simp only[AOp.call.injEq]at hx;obtain⟨rfl,rfl,rfl⟩:=hx;exact⟨cl,h1,h2,h4,hb⟩
theorem zqQ {rw:Raws} {isL:Nat->Bool} {dst:Option Nat} {op:Op} {f:Opd} {args:List Opd} (h:zey P I rw isL dst op=some (.fcall f args)):
 ∃cl,op= .call cl/\zHk I cl f/\opds I cl.args=some args:=by
 obtain⟨cl,f1,as1,h1,h2,h4,hx⟩:=zpK rfl h;rcases hx with⟨hx,hv⟩ | ⟨b',hx,_⟩
 ·simp only[AOp.fcall.injEq]at hx;obtain⟨rfl,rfl⟩:=hx;exact⟨cl,h1,hv,h4⟩
 ·simp at hx
theorem zve {G:Nat->List T} {rw:Raws} {isL:Nat->Bool} {dst:Option Nat} {op:Op} {x:AOp} (h:zey P I rw isL dst op=some x) (he:zaj G p s x=some e):zbq P I isL dst op=some x:=by
 have K6: ∀{y:Option AOp},(do let x<- y;if isCall x then none else some x)=some x->y=some x:=by
  intro y hy;simp only[zC,zB]at hy;obtain⟨z,hz,hx⟩:=hy;split at hx
  ·simp at hx
  ·simp only[zA]at hx;subst hx;exact hz
 unfold zey at h;split at h
 ·split at h
  ·simp only[zC,zB,zA]at h;obtain⟨f1,H6,as,Dt,h⟩:=h;split at h
   ·subst h;simp[zaj]at he
   ·split at h<;>(subst h;simp[zaj]at he)
  ·simp only[zC,zB,zA]at h;obtain⟨as,Dt,h⟩:=h;subst h;simp[zaj]at he
  ·exact K6 h
 ·exact K6 h
theorem zmc {K K':Act->World->Prop} {Q:Exit->Act->World->Prop} (h:o.wpIn (FW ro) 0 P a w K Q) (hk: ∀a w,K a w->K' a w):o.wpIn (FW ro) 0 P a w K' Q:=by
 obtain⟨h0,h⟩:=h;refine⟨h0,?_⟩
 generalize(o.semAt (FW ro).round a.eval).run P w=r at *
 unfold Oper.uponIn at *;split at h
 ·exact hk _ _ h
 ·exact hk _ _ h
 ·exact hk _ _ h
 ·refine⟨h.1,h.2.mono ?_⟩;intro e w' he;split at he
  ·exact hk _ _ he
  ·exact he
  ·exact he
 ·exact⟨h.1,h.2.mono fun v w' he=>hk _ _ he⟩
 ·refine⟨h.1,h.2.mono ?_⟩;intro e w' he;split at he
  ·exact hk _ _ he
  ·exact he
  ·exact he
 ·exact h
 ·exact h.elim
theorem zs7 {rw:Raws} {isL:Nat->Bool} {dst:Option Nat} {op:Op} {x:AOp} (h:zey P I rw isL dst op=some x): ∀cl,op≠ .defer cl:=by
 rintro cl rfl;simp[zey,zbq]at h
theorem zhn (hI:I.Ok N) (AE:StepG P N d p r s s') (hr:OpRel P I ns ops o r) (R:Rel N c ns A μ lam s a w) (hk:s.heap (s.bas+p)=none) (hn:s.bas+p<s.nxt) (Q:Exit->Act->World->Prop):
 if Region.wanted o (yielded ops a.tmps)then o.wpIn (FW ro) 0 P a w (fun a' w'=> ∃A' μ' lam',Rel N c ns A' μ' lam' s' a' w') Q
 else ∃A' μ' lam',Rel N c ns A' μ' lam' s' (a.put o.dst undef) w:=by
 have AI:=hr.dst
 cases AE with
 | skip hw hf=>
   rw[zeD R hr.guard hw,if_neg (by simp),AI]at *
   exact⟨A,μ,lam,R.put o.dst {} undef hr.lt hf rfl rfl rfl rfl (by simp)⟩
 | eff hw hf he=>
   rw[zeD R hr.guard hw,if_pos rfl,AI]at *;obtain⟨rw',isL,Ao⟩:=hr.op;obtain⟨v,w',A',μ',lam',A3,R'⟩:=zsX hI R (zve Ao he) he hr.lt hf hk hn;refine⟨fun _ _=>trivial,?_⟩;rw[o.semAt_eq _ _ (zs7 Ao)];rcases A3 with h | ⟨h,rfl⟩
   ·rw[h];exact⟨A',μ',lam',R'⟩
   ·rw[h];exact⟨A',μ',lam',R'⟩
 | pure hw hf ho As Ax An Au AD hc _=>
   rw[zeD R hr.guard hw,if_pos rfl,AI]at *;obtain⟨rw',isL,Ao⟩:=hr.op;rw[ho]at Ao;obtain⟨cl,h1,_,h4,h2⟩:=zjA Ao
   exact zrY hI R h1 (h2 rfl) h4 As Ax An Au AD hc hr.lt hf
 | raw hw hf ho As Ax Bu An Au hc hn AG A8=>
   rw[zeD R hr.guard hw,if_pos rfl,AI]at *;obtain⟨rw',isL,Ao⟩:=hr.op;rw[ho]at Ao;obtain⟨cl,h1,h2,h4,_⟩:=zjA Ao
   exact zul hI R h1 h2 h4 As Ax Bu An Au hc hr.lt hf
 | fresh hw hf ho As Ax An Au AD hd hc he=>
   rw[zeD R hr.guard hw,if_pos rfl,AI]at *;obtain⟨rw',isL,Ao⟩:=hr.op;rw[ho]at Ao;obtain⟨cl,h1,h2,h4⟩:=zqQ Ao
   exact zqD hI R h1 h2 h4 As Ax An Au AD hd hc he hr.lt hf hk hn
 | yld hw hf ho As AB Au Ac Bi AT CL AF AG=>
   rw[zeD R hr.guard hw,if_pos rfl,AI]at *;obtain⟨rw',isL,Ao⟩:=hr.op;rw[ho]at Ao;obtain⟨cl,h1,h2,h4,_⟩:=zjA Ao;exact zpX hI R h1 h2 h4 As AB Au Ac Bi AT CL AF hr.lt hf
theorem StepG.free (AE:StepG P N d p r s s'):s'.bas=s.bas/\s.nxt<=s'.nxt/\ ∀k,k<s.nxt->k≠s.bas+p->s.heap k=none->s'.heap k=none:=by
 have MS: ∀(l:List (Nat×O)) (h:Nat->Option O) (k:Nat),(∀x∈l,x.1≠k)->zbf h l k=h k:=by
  intro l
  induction l with
  | nil=>intro h k _;rfl
  | cons x l ih=>
    intro h k hx;obtain⟨q,o⟩:=x;simp only[zbf];rw[ih _ k (fun y hy=>hx y (List.mem_cons_of_mem _ hy)),zad _ _ (Ne.symm (hx (q,o) (List.mem_cons_self)))]
 cases AE with
 | skip=>exact⟨rfl,Nat.le_refl _,fun k _ _ h=>h⟩
 | eff hw hf he=>
   refine⟨rfl,Nat.le_refl _,fun k hk Az h=> ?_⟩;show zbf s.heap _ k=none;rw[MS,h];intro x hx e;rcases zsy he x hx with h1 | h1
   ·exact Az (e▸h1)
   ·rw[e,h]at h1;simp at h1
 | pure hw hf ho As Ax An Au AD hc _=>
   refine⟨rfl,Nat.le_refl _,fun k hk Az h=> ?_⟩;show zbf s.heap _ k=none;rw[MS,h];intro x hx e;split at hx
   ·simp at hx
   ·simp only[freezes,List.mem_filterMap]at hx;obtain⟨q,_,hq⟩:=hx;split at hq
    ·rename_i HN;simp only[zA]at hq;subst hq;simp only at e;subst e;rw[h]at HN;simp at HN
    ·simp at hq
 | raw hw hf ho As Ax Bu An Au hc hn AG A8=>exact⟨rfl,hn,fun k hk _ h=>AG k hk h⟩
 | fresh hw hf ho As Ax An Au AD hd hc he=>
   refine⟨rfl,Nat.le_refl _,fun k hk Az h=> ?_⟩;show zbf s.heap _ k=none;rw[MS,h];intro x hx e
   exact Az (e▸(zlq he x hx))
 | yld hw hf ho As AB Au Ac Bi AT CL AF AG=>
   rename_i f args k vs env env1 env' ps ps1 ps' ca cb bd1 bd' e s1 s2;refine⟨rfl,AG.1,fun q hq _ h=> ?_⟩;have h2:=AG.2 q hq h;show upd s2.heap k _ q=none;rw[zad];exact h2;rintro rfl;rw[AB]at h;cases h
inductive Run (P:Program) (N:Nam) (d:Bool) (l:List ROp):List Nat->St->St->Prop where
 | nil {s:St}:Run P N d l [] s s
 | cons {i:Nat} {is:List Nat} {s s1 s2:St} {r:ROp} (hr:l[i]? =some r) (h1:StepG P N d i r s s1) (h2:Run P N d l is s1 s2):Run P N d l (i::is) s s2
theorem zrG (hI:I.Ok N) {l:List ROp} (hl:ops.toList.length=l.length/\ ∀(i:Nat) (r:ROp),l[i]? =some r-> ∃o,ops.toList[i]? =some o/\OpRel P I ns ops o r) (Q:Exit->Act->World->Prop):
 ∀{is:List Nat} {s s':St} {A:Nat->Prop} {μ lam:Nat->Nat} {a:Act} {w:World},Run P N d l is s s'->is.Nodup->(∀i∈is,s.heap (s.bas+i)=none/\s.bas+i<s.nxt)->Rel N c ns A μ lam s a w->
  (∀a' w' A' μ' lam',Rel N c ns A' μ' lam' s' a' w'->Q .normal a' w')->wpOpsIn (FW ro) 0 P ops Q is a w:=by
 intro is
 induction is with
 | nil=>
   intro s s' A μ lam a w A3 _ _ R hQ;cases A3
   exact hQ a w A μ lam R
 | cons i is ih=>
   intro s s' A μ lam a w A3 Bt BD R hQ
   cases A3 with
   | cons hr h1 h2=>
     rename_i s1 r;obtain⟨o,ho,Jd⟩:=hl.2 i r hr;obtain⟨f1,f2⟩:=BD i List.mem_cons_self;have hs:=zhn (ro:=ro) hI h1 Jd R f1 f2 Q;obtain⟨g1,g2,g3⟩:=h1.free;have EE:=List.nodup_cons.1 Bt
     have Fo: ∀j∈is,s1.heap (s1.bas+j)=none/\s1.bas+j<s1.nxt:=by
      intro j hj;obtain⟨e1,e2⟩:=BD j (List.mem_cons_of_mem _ hj);rw[g1]
      exact⟨g3 _ e2 (fun e=>EE.1 (by have:j=i:=by omega
                                     exact this▸hj)) e1,by omega⟩
     simp only[Array.getElem?_toList]at ho;simp only[wpOpsIn,ho];split
     ·rename_i hw;rw[if_pos hw]at hs;refine zmc hs ?_;rintro a' w' ⟨A',μ',lam',R'⟩;exact ih h2 EE.2 Fo R' hQ
     ·rename_i hw;rw[if_neg hw]at hs;obtain⟨A',μ',lam',R'⟩:=hs;exact⟨fun _ _=>trivial,ih h2 EE.2 Fo R' hQ⟩
end
end Rg
end
section
namespace Rg
open Go
def AOp.rdH:AOp->Bool
 | .load _ _ _ | .bstr _ | .nilchk _ | .faddr _ _ | .iaddrS _ _ _ | .iaddrA _ _ _ _ | .slice _ _ _ _ _ | .slicA _ _ _ _ | .len _ | .lookup _ _ _ _ _ | .store _ _ _ | .storeA _ _ _ | .append _ _ _ _ | .copy _ _ _ | .clear _ _ _ | .mapupd _ _ _ _ | .call _ _ _ | .fcall _ _ | .mkfnT _ _=>true
 | _=>false
def AOp.rdL:AOp->Bool
 | .loadL _ _ _ | .storeL _ _ _ | .faddrL _ _ | .iaddrAL _ _ _ _=>true
 | _=>false
def AOp.wrH:AOp->Bool
 | .store _ _ _ | .storeA _ _ _ | .append _ _ _ _ | .copy _ _ _ | .clear _ _ _ | .mapupd _ _ _ _ | .mkfnT _ _=>true
 | _=>false
def AOp.wrL:AOp->Bool
 | .storeL _ _ _=>true
 | _=>false
def AOp.mkL:AOp->Bool
 | .allocL _ | .boxL _ _=>true
 | _=>false
section
variable {G:Nat->List T} {s u:St}
theorem zbH {x:Opd} (h:evl G s x=evl G u x):zex G s x=zex G u x:=by simp only[zex,h]
theorem zfG {x:Opd} (h:evl G s x=evl G u x):zd5 G s x=zd5 G u x:=by simp only[zd5,h]
theorem zbZ: ∀{l:List Opd},(∀x∈l,evl G s x=evl G u x)->zgE G s l=zgE G u l
 | [],_=>rfl
 | x::l,h=>by
   simp only[zgE,h x List.mem_cons_self,zbZ (fun y hy=>h y (List.mem_cons_of_mem _ hy))]
theorem zfa {d:Nat} {x:Option Opd} (h: ∀y∈x.toList,evl G s y=evl G u y):zew G s d x=zew G u d x:=by
 cases x with
 | none=>rfl
 | some y=>simp only[zew,zbH (h y (by simp))]
theorem zfE: ∀{l:List (Nat×Nat×Opd)} {cs:List V},(∀x∈l.map (·.2.2),evl G s x=evl G u x)->zbY G cs s l=zbY G cs u l
 | [],_,_=>rfl
 | (a,b,x)::l,cs,h=>by
   have h1:=h x (by simp);have h2: ∀cs,zbY G cs s l=zbY G cs u l:=fun cs=>zfE (fun y hy=>h y (by simp at hy⊢;exact .inr hy))
   simp only[zbY,h1,h2]
theorem zgk: ∀{l:List (Nat×Opd)} {rs:List (List V)} {sz:Nat},(∀x∈l.map (·.2),evl G s x=evl G u x)->zcH G rs sz s l=zcH G rs sz u l
 | [],_,_,_=>rfl
 | (a,x)::l,rs,sz,h=>by
   have h1:=h x (by simp);have h2: ∀rs,zcH G rs sz s l=zcH G rs sz u l:=fun rs=>zgk (fun y hy=>h y (by simp at hy⊢;exact .inr hy))
   simp only[zcH,h1,h2]
theorem zee {v:V} (h: ∀k∈v.top,s.heap k=u.heap k):zdw s v=zdw u v:=by
 cases v with
 | ms k i l=>simp only[zdw];rw[h k (by simp[V.top])]
 | t x=>cases x<;>rfl
 | _=>rfl
theorem zjc {v:V} (h: ∀k∈v.top,s.heap k=u.heap k):lenOf s v=lenOf u v:=by
 cases v with
 | ms k i l=>simp only[lenOf];rw[h k (by simp[V.top])]
 | t x=>cases x<;>rfl
 | _=>rfl
theorem zfg {p:Nat} {op:AOp} (Ak: ∀x∈op.opds,evl G s x=evl G u x) (BB: ∀x∈op.opds,zd8 s x=zd8 u x)
 (F9:op.rdL=true-> ∀x∈op.opds,∀b o,zd8 s x=some (b,o)->s.loc b=u.loc b)
 (Ar:op.rdH=true-> ∀x∈op.opds,∀v,evl G s x=some v-> ∀k∈v.top,s.heap k=u.heap k) (En:s.bas=u.bas):zaj G p s op=zaj G p u op:=by
 cases op with
 | mv x=>simp only[zaj,Ak x (by simp[AOp.opds])]
 | pick c a b=>
   have h1:=zfG (Ak c (by simp[AOp.opds]));have h2:=Ak a (by simp[AOp.opds]);have h3:=Ak b (by simp[AOp.opds]);simp only[zaj,h1]
   congr 1;funext t
   cases t<;>simp[h2,h3]
 | allocL c=>rfl
 | allocH c=>simp only[zaj,En]
 | allocB=>simp only[zaj,En]
 | bstr x=>
   simp only[zaj,<- Ak x (by simp[AOp.opds])]
   cases hv:evl G s x with
   | none=>rfl
   | some v=>simp only[zC,zD,zee (Ar rfl x (by simp[AOp.opds]) v hv)]
 | boxL n x=>simp only[zaj,Ak x (by simp[AOp.opds])]
 | boxH n x=>simp only[zaj,Ak x (by simp[AOp.opds]),En]
 | boxA n x=>simp only[zaj,Ak x (by simp[AOp.opds]),En]
 | allocA c=>simp only[zaj,En]
 | storeA n a x=>
   simp only[zaj,<- Ak a (by simp[AOp.opds]),Ak x (by simp[AOp.opds])]
   cases hv:evl G s a with
   | none=>rfl
   | some v=>
     have:=Ar rfl a (by simp[AOp.opds]) v hv;simp only[zC,zD]
     cases v with
     | mp k i off=>
       cases i with
       | zero=>cases off with
         | zero=>simp only;rw[this k (by simp[V.top])]
         | succ _=>rfl
       | succ _=>rfl
     | _=>rfl
 | slicA n x lo hi=>
   simp only[zaj,<- Ak x (by simp[AOp.opds])]
   cases hv:evl G s x with
   | none=>rfl
   | some v=>
     have:=Ar rfl x (by simp[AOp.opds]) v hv;have h1: ∀d,zew G s d hi=zew G u d hi:=fun d=>zfa (fun y hy=>Ak y (by simp only[AOp.opds];simp at hy⊢;simp[hy]))
     have h2: ∀d,zew G s d lo=zew G u d lo:=fun d=>zfa (fun y hy=>Ak y (by simp only[AOp.opds];simp at hy⊢;simp[hy]))
     simp only[zC,zD,h1,h2]
     cases v with
     | mp k i off=>
       cases i with
       | zero=>cases off with
         | zero=>simp only;rw[this k (by simp[V.top])]
         | succ _=>rfl
       | succ _=>rfl
     | _=>rfl
 | build z ps=>simp only[zaj,zfE (s:=s) (u:=u) (l:=ps) Ak]
 | bslice sz len z ps=>simp only[zaj,zgk (s:=s) (u:=u) (l:=ps) Ak,En]
 | lit sz len z ps=>simp only[zaj,zgk (s:=s) (u:=u) (l:=ps) Ak]
 | loadL ag n a=>
   simp only[zaj,<- BB a (by simp[AOp.opds])]
   cases hr:zd8 s a with
   | none=>rfl
   | some bo=>obtain⟨b,o⟩:=bo;simp only[zC,zD,F9 rfl a (by simp[AOp.opds]) b o hr]
 | load ag n a=>
   simp only[zaj,<- Ak a (by simp[AOp.opds])]
   cases hv:evl G s a with
   | none=>rfl
   | some v=>
     have:=Ar rfl a (by simp[AOp.opds]) v hv
     cases v with
     | mp k i off=>simp only[zC,zD];rw[this k (by simp[V.top])]
     | ms k i off=>simp only[zC,zD];try rw[this k (by simp[V.top])]
     | t x=>cases x<;>rfl
     | _=>rfl
 | storeL n a v=>
   simp only[zaj,<- BB a (by simp[AOp.opds]),Ak v (by simp[AOp.opds])]
   cases hr:zd8 s a with
   | none=>rfl
   | some bo=>obtain⟨b,o⟩:=bo;simp only[zC,zD,F9 rfl a (by simp[AOp.opds]) b o hr]
 | store n a x=>
   simp only[zaj,<- Ak a (by simp[AOp.opds]),Ak x (by simp[AOp.opds])]
   cases hv:evl G s a with
   | none=>rfl
   | some v=>
     have:=Ar rfl a (by simp[AOp.opds]) v hv
     cases v with
     | mp k i off=>simp only[zC,zD];rw[this k (by simp[V.top])]
     | ms k i off=>simp only[zC,zD];try rw[this k (by simp[V.top])]
     | t x=>cases x<;>rfl
     | _=>rfl
 | nilchk a=>
   simp only[zaj,<- Ak a (by simp[AOp.opds])]
   cases hv:evl G s a with
   | none=>rfl
   | some v=>
     have:=Ar rfl a (by simp[AOp.opds]) v hv
     cases v with
     | mp k i off=>simp only[zC,zD];rw[this k (by simp[V.top])]
     | ms k i off=>simp only[zC,zD];try rw[this k (by simp[V.top])]
     | t x=>cases x<;>rfl
     | _=>rfl
 | bin op x y=>simp only[zaj,Ak x (by simp[AOp.opds]),Ak y (by simp[AOp.opds])]
 | mx mn x y=>simp only[zaj,Ak x (by simp[AOp.opds]),Ak y (by simp[AOp.opds])]
 | eqb n x y=>simp only[zaj,zfG (Ak x (by simp[AOp.opds])),zfG (Ak y (by simp[AOp.opds]))]
 | eqa n ks x y=>simp only[zaj,Ak x (by simp[AOp.opds]),Ak y (by simp[AOp.opds])]
 | un op x=>simp only[zaj,Ak x (by simp[AOp.opds])]
 | mkif k x=>simp only[zaj,Ak x (by simp[AOp.opds])]
 | tassert k z ok x=>simp only[zaj,Ak x (by simp[AOp.opds])]
 | conv k x=>simp only[zaj,zbH (Ak x (by simp[AOp.opds]))]
 | mkfn f a b=>simp only[zaj,zbZ (s:=s) (u:=u) (l:=a) (fun x hx=>Ak x (by simp[AOp.opds,hx])),zbZ (s:=s) (u:=u) (l:=b) (fun x hx=>Ak x (by simp[AOp.opds,hx]))]
 | mkfnT f a=>
   simp only[zaj,<- Ak a (by simp[AOp.opds])]
   cases hv:evl G s a with
   | none=>rfl
   | some v=>
     have:=Ar rfl a (by simp[AOp.opds]) v hv
     cases v with
     | mp k i off=>simp only[zC,zD];rw[this k (by simp[V.top])]
     | ms k i off=>simp only[zC,zD];try rw[this k (by simp[V.top])]
     | t x=>cases x<;>rfl
     | _=>rfl
 | mkslice sz by_ z l c=>simp only[zaj,zbH (Ak l (by simp[AOp.opds])),zbH (Ak c (by simp[AOp.opds])),En]
 | slice sz x lo hi mx=>
   simp only[zaj,<- Ak x (by simp[AOp.opds])]
   cases hv:evl G s x with
   | none=>rfl
   | some v=>
     have ht:=Ar rfl x (by simp[AOp.opds]) v hv;have h1: ∀d,zew G s d hi=zew G u d hi:=fun d=>zfa (fun y hy=>Ak y (by simp only[AOp.opds];simp at hy⊢;simp[hy]))
     have h2: ∀d,zew G s d lo=zew G u d lo:=fun d=>zfa (fun y hy=>Ak y (by simp only[AOp.opds];simp at hy⊢;simp[hy]))
     simp only[zC,zD,zjc ht,h1,h2]
     cases mx with
     | none=>
       cases v with
       | ms k i l=>simp only;rw[ht k (by simp[V.top])]
       | t x=>cases x<;>rfl
       | _=>rfl
     | some m=>simp only[zbH (Ak m (by simp[AOp.opds]))]
 | slstr x lo hi=>
   have h1: ∀d,zew G s d hi=zew G u d hi:=fun d=>zfa (fun y hy=>Ak y (by simp only[AOp.opds];simp at hy⊢;simp[hy]))
   have h2: ∀d,zew G s d lo=zew G u d lo:=fun d=>zfa (fun y hy=>Ak y (by simp only[AOp.opds];simp at hy⊢;simp[hy]))
   simp only[zaj,Ak x (by simp[AOp.opds]),h1,h2]
 | faddrL off x=>
   simp only[zaj,<- BB x (by simp[AOp.opds])]
   cases hr:zd8 s x with
   | none=>rfl
   | some bo=>obtain⟨b,o⟩:=bo;simp only[zC,zD,F9 rfl x (by simp[AOp.opds]) b o hr]
 | faddr off a=>
   simp only[zaj,<- Ak a (by simp[AOp.opds])]
   cases hv:evl G s a with
   | none=>rfl
   | some v=>
     have:=Ar rfl a (by simp[AOp.opds]) v hv
     cases v with
     | mp k i off=>simp only[zC,zD];rw[this k (by simp[V.top])]
     | ms k i off=>simp only[zC,zD];try rw[this k (by simp[V.top])]
     | t x=>cases x<;>rfl
     | _=>rfl
 | field ag off n x=>simp only[zaj,Ak x (by simp[AOp.opds])]
 | iaddrS sz x i=>
   simp only[zaj,<- Ak x (by simp[AOp.opds]),zbH (Ak i (by simp[AOp.opds]))]
   cases hv:evl G s x with
   | none=>rfl
   | some v=>
     have:=Ar rfl x (by simp[AOp.opds]) v hv
     cases v with
     | mp k i off=>simp only[zC,zD];try rw[this k (by simp[V.top])]
     | ms k i off=>simp only[zC,zD];try rw[this k (by simp[V.top])]
     | t x=>cases x<;>rfl
     | _=>rfl
 | iaddrAL len sz x i=>
   simp only[zaj,<- BB x (by simp[AOp.opds]),zbH (Ak i (by simp[AOp.opds]))]
   cases hr:zd8 s x with
   | none=>rfl
   | some bo=>obtain⟨b,o⟩:=bo;simp only[zC,zD,F9 rfl x (by simp[AOp.opds]) b o hr]
 | iaddrA len sz x i=>
   simp only[zaj,<- Ak x (by simp[AOp.opds]),zbH (Ak i (by simp[AOp.opds]))]
   cases hv:evl G s x with
   | none=>rfl
   | some v=>
     have:=Ar rfl x (by simp[AOp.opds]) v hv
     cases v with
     | mp k i off=>simp only[zC,zD];rw[this k (by simp[V.top])]
     | ms k i off=>simp only[zC,zD];try rw[this k (by simp[V.top])]
     | t x=>cases x<;>rfl
     | _=>rfl
 | idxA ag len sz x i=>simp only[zaj,Ak x (by simp[AOp.opds]),zbH (Ak i (by simp[AOp.opds]))]
 | idxS x i=>simp only[zaj,Ak x (by simp[AOp.opds]),zbH (Ak i (by simp[AOp.opds]))]
 | extr x i=>simp only[zaj,Ak x (by simp[AOp.opds])]
 | len x=>
   simp only[zaj,<- Ak x (by simp[AOp.opds])]
   cases hv:evl G s x with
   | none=>rfl
   | some v=>
     have:=Ar rfl x (by simp[AOp.opds]) v hv
     simp only[zC,zD,zjc this]
 | slen x=>simp only[zaj,Ak x (by simp[AOp.opds])]
 | lenA n=>rfl
 | capN x=>simp only[zaj,Ak x (by simp[AOp.opds])]
 | stop=>rfl
 | appz sz by_ z x l=>simp only[zaj,Ak x (by simp[AOp.opds]),zbH (Ak l (by simp[AOp.opds])),En]
 | append sz by_ x y=>
   simp only[zaj,<- Ak x (by simp[AOp.opds]),<- Ak y (by simp[AOp.opds])]
   cases hv:evl G s x with
   | none=>rfl
   | some v=>
     cases hw:evl G s y with
     | none=>rfl
     | some z=>
       have h1:=Ar rfl x (by simp[AOp.opds]) v hv;have h2:=Ar rfl y (by simp[AOp.opds]) z hw;simp only[zC,zD,zee h1,zee h2,En]
       cases v with
       | ms k i l=>simp only;rw[h1 k (by simp[V.top])]
       | t x=>cases x<;>rfl
       | _=>rfl
 | clear sz z x=>
   simp only[zaj,<- Ak x (by simp[AOp.opds])]
   cases hv:evl G s x with
   | none=>rfl
   | some v=>
     have:=Ar rfl x (by simp[AOp.opds]) v hv
     cases v with
     | ms k i off=>simp only[zC,zD];rw[this k (by simp[V.top])]
     | t x=>cases x<;>rfl
     | _=>rfl
 | copy sz x y=>
   simp only[zaj,<- Ak x (by simp[AOp.opds]),<- Ak y (by simp[AOp.opds])]
   cases hv:evl G s x with
   | none=>rfl
   | some v=>
     cases hw:evl G s y with
     | none=>rfl
     | some z=>
       have h1:=Ar rfl x (by simp[AOp.opds]) v hv;have h2:=Ar rfl y (by simp[AOp.opds]) z hw;simp only[zC,zD,zee h2]
       cases v with
       | ms k i l=>simp only;rw[h1 k (by simp[V.top])]
       | t x=>cases x<;>rfl
       | _=>rfl
 | mkmap=>simp only[zaj,En]
 | lookup kd z ok m k=>
   simp only[zaj,<- Ak m (by simp[AOp.opds]),Ak k (by simp[AOp.opds])]
   cases hv:evl G s m with
   | none=>rfl
   | some v=>
     have h1:=Ar rfl m (by simp[AOp.opds]) v hv
     cases v with
     | mm j=>simp only[zC,zD];rw[h1 j (by simp[V.top])]
     | t x=>cases x<;>rfl
     | _=>rfl
 | mapupd kd m k v=>
   simp only[zaj,<- Ak m (by simp[AOp.opds]),Ak k (by simp[AOp.opds]),Ak v (by simp[AOp.opds])]
   cases hv:evl G s m with
   | none=>rfl
   | some z=>
     have h1:=Ar rfl m (by simp[AOp.opds]) z hv
     cases z with
     | mm j=>simp only[zC,zD];rw[h1 j (by simp[V.top])]
     | t x=>cases x<;>rfl
     | _=>rfl
 | call r f as=>rfl
 | fcall f args=>rfl
end
end Rg
end
section
namespace Rg
open Go
section
variable {G:Nat->List T} {p:Nat} {s:St} {op:AOp} {e:Eff}
theorem znH (h:zaj G p s op=some e):op.wrL=false->e.wloc=none:=by
 intro hw;cases op
 all_goals(try(simp[AOp.wrL]at hw;done))
 all_goals simp only[zaj,zC,zB,zA,Prod.exists]at h
 all_goals(try(repeat(first | (obtain⟨_,_,h⟩:=h) | split at h | (simp only[zB,zA]at h))))
 all_goals(try(repeat(first | (obtain⟨_,_,h⟩:=h) | split at h | (simp only[zB,zA]at h))))
 all_goals(try(repeat(first | (obtain⟨_,_,h⟩:=h) | split at h | (simp only[zB]at h))))
 all_goals(try(repeat(first | (obtain⟨_,_,h⟩:=h) | split at h | (simp only[zB]at h))))
 all_goals(try subst h)
 all_goals(try rfl)
 all_goals(try(simp at h;done))
theorem zBk (h:zaj G p s op=some e):op.wrH=false-> ∀x∈e.hp,x.1=s.bas+p:=by
 intro hw x hx;cases op
 all_goals(try(simp[AOp.wrH]at hw;done))
 all_goals simp only[zaj,zC,zB,zA,Prod.exists]at h
 all_goals(try(repeat(first | (obtain⟨_,_,h⟩:=h) | split at h | (simp only[zB,zA]at h))))
 all_goals(try(repeat(first | (obtain⟨_,_,h⟩:=h) | split at h | (simp only[zB,zA]at h))))
 all_goals(try(repeat(first | (obtain⟨_,_,h⟩:=h) | split at h | (simp only[zB]at h))))
 all_goals(try(repeat(first | (obtain⟨_,_,h⟩:=h) | split at h | (simp only[zB]at h))))
 all_goals(try subst h)
 all_goals(try(simp at hx;done))
 all_goals(try(simp at h;done))
 all_goals(simp only[List.mem_cons,List.not_mem_nil,or_false]at hx)
 all_goals(subst hx;rfl)
theorem ztV (h:zaj G p s op=some e) {b:Nat} {cs:List V} (hb:e.wloc=some (b,cs)): ∃x∈op.opds,∃o,zd8 s x=some (b,o):=by
 cases op
 case storeL n a v=>
  simp only[zaj,zC,zB,Prod.exists]at h;obtain⟨b',o,hr,cs0,_,v0,_,new,_,h⟩:=h;split at h
  ·simp only[zB,zA]at h;obtain⟨cs',_,rfl⟩:=h;simp only[zA,Prod.mk.injEq]at hb;obtain⟨rfl,_⟩:=hb;exact⟨a,by simp[AOp.opds],o,hr⟩
  ·simp at h
 all_goals(have:=znH h rfl;rw[this]at hb;simp at hb)
theorem ztW (h:zaj G p s op=some e) {b o:Nat} (hb:e.adr=some (b,o)): ∃x∈op.opds,∃o',zd8 s x=some (b,o'):=by
 cases op
 case faddrL off x=>
  simp only[zaj,zC,zB,Prod.exists,zA]at h;obtain⟨b',o',hr,_,_,rfl⟩:=h;simp only[zA,Prod.mk.injEq]at hb;obtain⟨rfl,_⟩:=hb;exact⟨x,by simp[AOp.opds],o',hr⟩
 case iaddrAL len sz x i=>
  simp only[zaj,zC,zB,Prod.exists]at h;obtain⟨n,_,b',o',hr,_,_,h⟩:=h;split at h
  ·simp only[zA]at h;subst h;simp only[zA,Prod.mk.injEq]at hb;obtain⟨rfl,_⟩:=hb;exact⟨x,by simp[AOp.opds],o',hr⟩
  ·simp at h
 all_goals exfalso
 all_goals simp only[zaj,zC,zB,zA,Prod.exists]at h
 all_goals(try(repeat(first | (obtain⟨_,_,h⟩:=h) | split at h | (simp only[zB,zA]at h))))
 all_goals(try(repeat(first | (obtain⟨_,_,h⟩:=h) | split at h | (simp only[zB,zA]at h))))
 all_goals(try(repeat(first | (obtain⟨_,_,h⟩:=h) | split at h | (simp only[zB]at h))))
 all_goals(try(repeat(first | (obtain⟨_,_,h⟩:=h) | split at h | (simp only[zB]at h))))
 all_goals(try subst h)
 all_goals(try(simp at hb;done))
 all_goals(try(simp at h;done))
end
inductive DStep (P:Program) (N:Nam) (p:Nat) (o:ROp) (s:St):Eff->Prop where
 | skip (hw:zcs s o.guard=some false):DStep P N p o s {}
 | eff {e:Eff} (hw:zcs s o.guard=some true) (he:zaj N.G p s o.op=some e):DStep P N p o s e
 | pure {f:Opd} {args:List Opd} {fv:V} {g:Nat} {a b vs rs:List V} {r:V} {rf:Func} (hw:zcs s o.guard=some true) (ho:o.op= .call false f args) (As:evl N.G s f=some fv)
    (Ax:zfC fv=some (g,a,b)) (An:Real P (N.nm g) rf) (Au:zgE N.G s args=some vs) (AD:(a++vs++b).mapM (toT1 s.heap)=some rs) (hc:zjO P N g rs r)
    (hd:r.scalar=true\/(a++vs++b).flatMap (zba s.heap)=[]):DStep P N p o s { val:=r }
 | fresh {f:Opd} {args:List Opd} {fv:V} {g:Nat} {a b vs rs:List V} {r:V} {rf:Func} {H':Nat->Option O} {n':Nat} {e:Eff} (hw:zcs s o.guard=some true) (ho:o.op= .fcall f args) (As:evl N.G s f=some fv)
    (Ax:zfC fv=some (g,a,b)) (An:Real P (N.nm g) rf) (Au:zgE N.G s args=some vs) (AD:(a++vs++b).mapM (toT1 s.heap)=some rs) (hd:(a++vs++b).flatMap (zba s.heap)=[])
    (hc:zns P N g rs (fun _=>none) 0 r H' n') (he:zqm (s.bas+p) r H'=some e):DStep P N p o s e
def AOp.isRaw:AOp->Bool
 | .call true _ _=>true
 | _=>false
theorem StepG.toD {P:Program} {N:Nam} {p:Nat} {o:ROp} {s s':St} (h:StepG P N true p o s s') (hn:o.op.isRaw=false): ∃e,DStep P N p o s e/\s.free o.dst e/\s'=s.apply o.dst e:=by
 cases h with
 | skip hw hf=>exact⟨{},.skip hw,hf,rfl⟩
 | eff hw hf he=>exact⟨_,.eff hw he,hf,rfl⟩
 | pure hw hf ho As Ax An Au AD hc hd=>
   refine⟨_,.pure hw ho As Ax An Au AD hc (hd rfl),hf,?_⟩;rcases hd rfl with h | h
   ·rw[if_pos h]
   ·rw[h];simp[freezes]
 | raw hw hf ho=>rw[ho]at hn;simp[AOp.isRaw]at hn
 | yld hw hf ho=>rw[ho]at hn;simp[AOp.isRaw]at hn
 | fresh hw hf ho As Ax An Au AD hd hc he=>
   refine⟨_,.fresh hw ho As Ax An Au AD hd hc he,fun d hd=>⟨(hf d hd).1,fun b o hb=> ?_⟩,rfl⟩;rw[(zeP he).1]at hb;simp at hb
theorem DStep.toG {P:Program} {N:Nam} {p:Nat} {o:ROp} {s:St} {e:Eff} (h:DStep P N p o s e) (hf:s.free o.dst e):StepG P N true p o s (s.apply o.dst e):=by
 cases h with
 | skip hw=>exact .skip hw hf
 | eff hw he=>exact .eff hw hf he
 | pure hw ho As Ax An Au AD hc hd=>
   have:=StepG.pure (d:=true) (p:=p) hw hf ho As Ax An Au AD hc (fun _=>hd);rcases hd with h | h
   ·rw[if_pos h]at this;exact this
   ·rw[h]at this;simpa[freezes]using this
 | fresh hw ho As Ax An Au AD hd hc he=>exact .fresh hw (fun d hd=>⟨(hf d hd).1,fun b o hb=>by simp at hb⟩) ho As Ax An Au AD hd hc he
def Opd.slots:Opd->List Nat
 | .s t=>[t]
 | .m _ t=>[t]
 | _=>[]
def ROp.reads (o:ROp):List Nat:=o.op.opds.flatMap Opd.slots++(match o.guard with | some (g,_)=>[g] | none=>[])
def Rz (N:Nam) (ns:Nat) (s:St):Prop:= ∃c A μ lam a w,Rel N c ns A μ lam s a w
section
variable {P:Program} {N:Nam} {ns:Nat} {s:St}
theorem Rz.adr (h:Rz N ns s) {t b o:Nat} (ha:s.adr t=some (b,o)):s.used b=true:=by
 obtain⟨c,A,μ,lam,a,w,R⟩:=h;exact(R.adr t b o ha).1
theorem Rz.fresh (h:Rz N ns s) {k:Nat} (hk:s.nxt<=k):s.heap k=none:=by
 obtain⟨c,A,μ,lam,a,w,R⟩:=h;exact R.fresh k hk
theorem RepC.top_some {w:World} {A:Nat->Prop} {nm μ:Nat->Nat} {H:Nat->Option O} {v:Value} {x:V} (h:RepC w A nm μ H v x): ∀k∈x.top,∃o,H k=some o:=by
 intro k hk;cases h<;>simp[V.top]at hk<;>subst hk<;>exact⟨_,‹_›⟩
theorem zbl.top_some {w:World} {A:Nat->Prop} {nm μ:Nat->Nat} {H:Nat->Option O} {v:Value} {x:V} (h:zbl w A nm μ H v x): ∀k∈x.top,∃o,H k=some o:=by
 intro k hk
 cases x with
 | ms _ _ _=>exact RepC.top_some h k hk
 | mp _ _ _=>exact RepC.top_some h k hk
 | mm _=>exact RepC.top_some h k hk
 | _=>simp[V.top]at hk
def V.isT:V->Bool
 | .t _=>true
 | _=>false
def V.noref:V->Bool
 | .t _=>true
 | .agg cs=>cs.all V.isT
 | _=>false
def Opd.plain:Opd->Bool
 | .c v=>v.noref
 | .m _ _=>false
 | _=>true
theorem Rz.top (h:Rz N ns s) {x:Opd} {v:V} (hp:x.plain=true) (hv:evl N.G s x=some v): ∀k∈v.top,∃o,s.heap k=some o:=by
 obtain⟨c,A,μ,lam,a,w,R⟩:=h;intro k hk
 cases x with
 | s t=>
   simp only[evl]at hv;split at hv<;>first | (simp at hv;done) | skip
   simp only[zA]at hv;subst hv
   exact(R.env t).top_some k hk
 | c u=>
   simp only[evl,zA]at hv;subst hv
   cases u<;>simp[Opd.plain,V.noref]at hp<;>simp[V.top]at hk
 | g q=>
   simp only[evl,zA]at hv;subst hv
   simp[V.top]at hk
 | m mt t=>cases hp
theorem ziC {w:World} {A:Nat->Prop} {N:Nam} {μ:Nat->Nat} {H H':Nat->Option O} (hH: ∀k o,H k=some o->zq3 w A N μ H (μ k) o) (Bl: ∀k o,H k=some o->H' k=some o):
 ∀(d:Nat) (x:V) (v:Value),RepC w A N.nm μ H v x->toT H d x=toT H' d x:=by
 intro d
 induction d with
 | zero=>intro x v _;cases x<;>rfl
 | succ d ih=>
   intro x v hr
   have Ap: ∀{k sz:Nat} {rs:List (List V)} {f:Bool} (hk:H k=some (.rows sz rs f)) (i:Nat) (row:List V),rs[i]? =some row-> ∀(j:Nat) (y:V),row[j]? =some y->toT H d y=toT H' d y:=by
    intro k sz rs f hk i row hi j y hj;obtain⟨cc,e0,z,h1,h2,h3,h4,h5⟩:=hH k _ hk;obtain⟨u,_,hu⟩:=h5 i row j y hi hj;exact ih y u hu
   have Fl: ∀(l:List V),(∀(j:Nat) (y:V),l[j]? =some y->toT H d y=toT H' d y)->l.mapM (toT H d)=l.mapM (toT H' d):=by
    intro l
    induction l with
    | nil=>intro _;rfl
    | cons y l ihl=>
      intro h;rw[List.mapM_cons,List.mapM_cons,h 0 y rfl,ihl (fun j z hj=>h (j+1) z (by simpa using hj))]
   cases x with
   | t y=>rfl
   | ms k i len=>
     obtain⟨o,hk⟩:=hr.top_some k (by simp[V.top]);simp only[toT,hk,Bl k o hk]
     cases o with
     | rows sz rs f=>
       simp only
       cases BK:rd rs i len with
       | none=>rfl
       | some r=>
         simp only[zC,zD]
         have D5: ∀(q:Nat) (row:List V),r[q]? =some row->row.mapM (toT H d)=row.mapM (toT H' d):=by
          intro q row hq;unfold rd at BK;split at BK
          ·simp only[zA]at BK;subst BK;rw[zO]at hq;split at hq
           ·rw[List.getElem?_drop]at hq;exact Fl row (fun j y hj=>Ap hk _ row hq j y hj)
           ·simp at hq
          ·simp at BK
         have:r.mapM (fun row=>row.mapM (toT H d))=r.mapM (fun row=>row.mapM (toT H' d)):=by
          clear BK
          induction r with
          | nil=>rfl
          | cons row r ihr=>
            rw[List.mapM_cons,List.mapM_cons,D5 0 row rfl,ihr (fun q row hq=>D5 (q+1) row (by simpa using hq))]
         rw[this]
     | map es=>rfl
     | loop _ _ _ _=>rfl
     | raw _=>rfl
     | dead=>rfl
   | mp k i off=>
     obtain⟨o,hk⟩:=hr.top_some k (by simp[V.top]);simp only[toT,hk,Bl k o hk]
     cases o with
     | rows sz rs f=>
       simp only
       cases PW:rs[i]? with
       | none=>rfl
       | some row=>
         simp only[zC,zD]
         rw[Fl (row.drop off) (fun j y hj=>by rw[List.getElem?_drop]at hj;exact Ap hk i row PW _ y hj)]
     | map es=>rfl
     | loop _ _ _ _=>rfl
     | raw _=>rfl
     | dead=>rfl
   | fn f a b=>
     cases hr with
     | fn _ _ _ va vb fa fb ha hb Bu Cu Di Eb=>
       simp only[toT]
       rw[Fl a (fun j y hj=>ih y _ (Cu j y hj)),Fl b (fun j y hj=>ih y _ (Eb j y hj))]
   | mm k=>
     cases hr with
     | mm _ es hk=>simp only[toT,hk,Bl k _ hk]
     | dmm _ hk _=>simp only[toT,hk,Bl k _ hk]
   | yl k=>rfl
   | ifc k x=>rfl
   | agg cs=>rfl
   | tup cs=>rfl
   | undef=>rfl
   | lb=>rfl
theorem zla {w:World} {A:Nat->Prop} {N:Nam} {μ:Nat->Nat} {H H':Nat->Option O} (hH: ∀k o,H k=some o->zq3 w A N μ H (μ k) o) (Bl: ∀k o,H k=some o->H' k=some o) {x:V} {v:Value} (hr:zbl w A N.nm μ H v x):
 toT1 H x=toT1 H' x:=by
 cases x with
 | agg cs=>
   obtain⟨vs,_,hl⟩:=hr;simp only[toT1]
   congr 1
   have : ∀(l:List V),(∀(j:Nat) (y:V),l[j]? =some y->toT H 1000 y=toT H' 1000 y)->l.mapM (toT H 1000)=l.mapM (toT H' 1000):=by
    intro l
    induction l with
    | nil=>intro _;rfl
    | cons y l ihl=>
      intro h;rw[List.mapM_cons,List.mapM_cons,h 0 y rfl,ihl (fun j z hj=>h (j+1) z (by simpa using hj))]
   exact this cs (fun j y hj=>let⟨u,_,hu⟩:=hl.2 j y hj;ziC hH Bl 1000 y u hu)
 | tup cs=>rfl
 | undef=>rfl
 | lb=>rfl
 | t y=>rfl
 | ms k i l=>simp only[toT1];rw[ziC hH Bl 1000 _ v hr]
 | mp k i o=>simp only[toT1];rw[ziC hH Bl 1000 _ v hr]
 | mm k=>simp only[toT1];rw[ziC hH Bl 1000 _ v hr]
 | yl k=>rfl
 | ifc k x=>rfl
 | fn f a b=>simp only[toT1];rw[ziC hH Bl 1000 _ v hr]
theorem zp7 {H H':Nat->Option O} {x:V} (h:x.noref=true):toT1 H x=toT1 H' x:=by
 cases x with
 | t y=>rfl
 | agg cs=>
   simp only[toT1]
   congr 1
   have : ∀(l:List V),l.all V.isT=true->l.mapM (toT H 1000)=l.mapM (toT H' 1000):=by
    intro l
    induction l with
    | nil=>intro _;rfl
    | cons y l ihl=>
      intro h;simp only[List.all_cons,zF]at h;rw[List.mapM_cons,List.mapM_cons,ihl h.2];cases y<;>simp[V.isT]at h
      rfl
   exact this cs h
 | _=>simp[V.noref]at h
theorem Rz.one (h:Rz N ns s) {H':Nat->Option O} (Bl: ∀k o,s.heap k=some o->H' k=some o) {x:Opd} {v:V} (hp:x.plain=true) (hv:evl N.G s x=some v):toT1 s.heap v=toT1 H' v:=by
 obtain⟨c,A,μ,lam,a,w,R⟩:=h
 cases x with
 | s t=>
   simp only[evl]at hv;split at hv<;>first | (simp at hv;done) | skip
   simp only[zA]at hv;subst hv
   exact zla R.heap Bl (R.env t)
 | c u=>
   simp only[evl,zA]at hv;subst hv
   exact zp7 hp
 | g q=>
   simp only[evl,zA]at hv;subst hv
   rfl
 | m mt t=>cases hp
theorem znC (H H':Nat->Option O) (c:List T):Rg.toT1 H (.agg (c.map V.t))=Rg.toT1 H' (.agg (c.map V.t)):=by
 have:(c.map V.t).mapM (toT H 1000)=(c.map V.t).mapM (toT H' 1000):=by
  induction c with
  | nil=>rfl
  | cons x r ih=>rw[List.map_cons,List.mapM_cons,List.mapM_cons,ih];rfl
 simp only[Rg.toT1,this]
theorem Rz.toT1 (h:Rz N ns s) {H':Nat->Option O} (Bl: ∀k o,s.heap k=some o->H' k=some o) {f:Opd} {args:List Opd} {fv:V} {g:Nat} {a b vs:List V}
 (Qe:f.plain=true) (EB: ∀x∈args,x.plain=true) (As:evl N.G s f=some fv) (Ax:zfC fv=some (g,a,b)) (Au:zgE N.G s args=some vs):
 (a++vs++b).mapM (Rg.toT1 s.heap)=(a++vs++b).mapM (Rg.toT1 H'):=by
 have key: ∀(l:List V),(∀x∈l,Rg.toT1 s.heap x=Rg.toT1 H' x)->l.mapM (Rg.toT1 s.heap)=l.mapM (Rg.toT1 H'):=by
  intro l
  induction l with
  | nil=>intro _;rfl
  | cons y l ihl=>
    intro h;rw[List.mapM_cons,List.mapM_cons,h y List.mem_cons_self,ihl (fun z hz=>h z (List.mem_cons_of_mem _ hz))]
 have Ca: ∀x,x∈a\/x∈b->Rg.toT1 s.heap x=Rg.toT1 H' x:=by
  intro x hx;obtain⟨c,A,μ,lam,ac,w,R⟩:=h;unfold zfC at Ax;split at Ax
  ·simp only[zA,Prod.mk.injEq]at Ax;obtain⟨rfl,rfl,rfl⟩:=Ax
   cases f with
   | s t=>
     simp only[evl]at As;split at As<;>first | (simp at As;done) | skip
     simp only[zA]at As;have he:=R.env t;rw[As]at he
     generalize ac.tmps.getD t undef=v0 at he
     cases(he:RepC w A N.nm μ s.heap v0 _)with
     | fn _ _ _ va vb fa fb ha hb Bu Cu Di Eb=>
       rcases hx with hx | hx
       ·obtain⟨i,hi,K9⟩:=List.getElem_of_mem hx;exact zla R.heap Bl (Cu i x (by rw[zI hi,K9])).toV
       ·obtain⟨i,hi,K9⟩:=List.getElem_of_mem hx
        exact zla R.heap Bl (Eb i x (by rw[zI hi,K9])).toV
   | c u=>
     simp only[evl,zA]at As;subst As
     simp[Opd.plain,V.noref]at Qe
   | g q=>simp[evl]at As
   | m mt t=>cases Qe
  ·simp only[zA,Prod.mk.injEq]at Ax;obtain⟨rfl,rfl,rfl⟩:=Ax
   have : ∃y,x= .t y:=by
    rcases hx with hx | hx<;>(simp only[List.mem_map]at hx;obtain⟨y,_,rfl⟩:=hx;exact⟨y,rfl⟩)
   obtain⟨y,rfl⟩:=this;rfl
  ·simp only[zA,Prod.mk.injEq]at Ax;obtain⟨rfl,rfl,rfl⟩:=Ax;rcases hx with hx | hx
   ·simp only[List.mem_singleton]at hx;subst hx;exact znC _ _ _
   ·simp at hx
  ·simp at Ax
 refine key _ (fun x hx=> ?_);simp only[List.mem_append]at hx;rcases hx with(hx | hx) | hx
 ·exact Ca x (.inl hx)
 ·obtain⟨h1,h2⟩:=zjr Au;obtain⟨i,hi,K9⟩:=List.getElem_of_mem hx;obtain⟨y,hy,Ak⟩:=h2 i x (by rw[zI hi,K9]);exact h.one Bl (EB y (zL hy)) Ak
 ·exact Ca x (.inr hx)
theorem zmB {H H':Nat->Option O}: ∀(d:Nat) (x:V),zca H d x=[]->zca H' d x=[]:=by
 intro d
 induction d with
 | zero=>intro x _;cases x<;>rfl
 | succ d ih=>
   intro x h
   cases x with
   | ms k i l=>simp[zca]at h
   | mp k i o=>simp[zca]at h
   | fn f a b=>
     simp only[zca,List.append_eq_nil_iff,List.flatMap_eq_nil_iff]at h⊢
     exact⟨fun y hy=>ih y (h.1 y hy),fun y hy=>ih y (h.2 y hy)⟩
   | _=>rfl
theorem zfY {H H':Nat->Option O} {l:List V} (h:l.flatMap (zba H)=[]):l.flatMap (zba H')=[]:=by
 rw[List.flatMap_eq_nil_iff]at h⊢;intro x hx;have:=h x hx
 cases x with
 | agg cs=>
   simp only[zba,List.flatMap_eq_nil_iff]at this⊢
   exact fun y hy=>zmB 1000 y (this y hy)
 | _=>exact zmB (H:=H) 1000 _ this
theorem DStep.transfer (hz:Rz N ns s) {p:Nat} {x:ROp} {d:Option Nat} {e' e:Eff} (BL: ∀y∈x.op.opds,y.plain=true) (CO: ∀t∈x.reads,d≠some t) (KD: ∀d',d=some d'->s.used d'=false)
 (hL:x.op.rdL=true->e'.wloc=none) (hH:x.op.rdH=true-> ∀k o,s.heap k=some o->(s.apply d e').heap k=some o):
 DStep P N p x s e<->DStep P N p x (s.apply d e') e:=by
 have Cm: ∀t,d≠some t->(s.apply d e').env t=s.env t:=by
  intro t ht
  cases d with
  | none=>rfl
  | some d'=>simp only[St.apply];exact zad _ _ (fun h=>ht (by rw[h]))
 have It: ∀t,d≠some t->(s.apply d e').adr t=s.adr t:=by
  intro t ht
  cases d with
  | none=>rfl
  | some d'=>simp only[St.apply];exact zad _ _ (fun h=>ht (by rw[h]))
 have Ao: ∀y∈x.op.opds,∀t∈y.slots,d≠some t:=by
  intro y hy t ht;exact CO t (List.mem_append_left _ (List.mem_flatMap.2 ⟨y,hy,ht⟩))
 have Ak: ∀y∈x.op.opds,evl N.G s y=evl N.G (s.apply d e') y:=by
  intro y hy
  cases y with
  | s t=>simp only[evl,Cm t (Ao _ hy t (by simp[Opd.slots]))]
  | m mt t=>simp only[evl,Cm t (Ao _ hy t (by simp[Opd.slots]))]
  | c v=>rfl
  | g q=>rfl
 have BB: ∀y∈x.op.opds,zd8 s y=zd8 (s.apply d e') y:=by
  intro y hy
  cases y with
  | s t=>simp only[zd8,Cm t (Ao _ hy t (by simp[Opd.slots])),It t (Ao _ hy t (by simp[Opd.slots]))]
  | m mt t=>rfl
  | c v=>rfl
  | g q=>rfl
 have F9:x.op.rdL=true-> ∀y∈x.op.opds,∀b o,zd8 s y=some (b,o)->s.loc b=(s.apply d e').loc b:=by
  intro hr y hy b o BB;have hw:=hL hr
  have Kz:d≠some b:=by
   cases y with
   | s t=>
     simp only[zd8]at BB;split at BB
     ·rename_i q hq;simp only[zA]at BB;subst BB;intro hd;have h1:=hz.adr hq;rw[KD b hd]at h1;simp at h1
     ·split at BB<;>first | (simp at BB;done) | skip
      simp only[zA,Prod.mk.injEq]at BB;obtain⟨rfl,_⟩:=BB
      exact Ao _ hy t (by simp[Opd.slots])
   | c v=>simp[zd8]at BB
   | g q=>simp[zd8]at BB
   | m mt t=>simp[zd8]at BB
  cases d with
  | none=>simp only[St.apply,hw]
  | some d'=>simp only[St.apply,hw];rw[zad _ _ (fun h=>Kz (by rw[h]))]
 have Ar:x.op.rdH=true-> ∀y∈x.op.opds,∀v,evl N.G s y=some v-> ∀k∈v.top,s.heap k=(s.apply d e').heap k:=by
  intro hr y hy v hv k hk;obtain⟨o,ho⟩:=hz.top (BL y hy) hv k hk;rw[ho,hH hr k o ho]
 have B6:zcs s x.guard=zcs (s.apply d e') x.guard:=by
  cases hg:x.guard with
  | none=>rfl
  | some gw=>
    obtain⟨g,wnt⟩:=gw;simp only[zcs,Cm g (CO g (by simp[ROp.reads,hg]))]
 have Hj:zaj N.G p s x.op=zaj N.G p (s.apply d e') x.op:=zfg Ak BB F9 Ar rfl;have GZ: ∀{r:Bool} {f:Opd} {args:List Opd},x.op= .call r f args->x.op.rdH=true:=by intro r f args h;rw[h];rfl
 have B0: ∀{r:Bool} {f:Opd} {args:List Opd},x.op= .call r f args->f∈x.op.opds/\ ∀y∈args,y∈x.op.opds:=by
  intro r f args h;rw[h];simp only[AOp.opds];exact⟨List.mem_cons_self,fun y hy=>List.mem_cons_of_mem _ hy⟩
 have Ha: ∀{f:Opd} {args:List Opd},x.op= .fcall f args->x.op.rdH=true:=by intro f args h;rw[h];rfl
 have Hh: ∀{f:Opd} {args:List Opd},x.op= .fcall f args->f∈x.op.opds/\ ∀y∈args,y∈x.op.opds:=by
  intro f args h;rw[h];simp only[AOp.opds];exact⟨List.mem_cons_self,fun y hy=>List.mem_cons_of_mem _ hy⟩
 constructor
 ·intro h
  cases h with
  | fresh hw ho As Ax An Au AD hd hc he=>
    obtain⟨g1,g2⟩:=Hh ho;have Bl:=hH (Ha ho);have e1:=hz.toT1 Bl (BL _ g1) (fun y hy=>BL y (g2 y hy)) As Ax Au
    exact .fresh (B6▸hw) ho (by rw[<- Ak _ g1];exact As) Ax An (by rw[<- zbZ (fun y hy=>Ak y (g2 y hy))];exact Au) (by rw[<- e1];exact AD) (zfY hd) hc he
  | skip hw=>exact .skip (B6▸hw)
  | eff hw he=>exact .eff (B6▸hw) (Hj▸he)
  | pure hw ho As Ax An Au AD hc hd=>
    obtain⟨g1,g2⟩:=B0 ho;have Bl:=hH (GZ ho);have e1:=hz.toT1 Bl (BL _ g1) (fun y hy=>BL y (g2 y hy)) As Ax Au;refine .pure (B6▸hw) ho (by rw[<- Ak _ g1];exact As) Ax An (by rw[<- zbZ (fun y hy=>Ak y (g2 y hy))];exact Au) (by rw[<- e1];exact AD) hc (hd.imp id zfY)
 ·intro h
  cases h with
  | skip hw=>exact .skip (B6▸hw)
  | eff hw he=>exact .eff (B6▸hw) (Hj▸he)
  | pure hw ho As Ax An Au AD hc hd=>
    obtain⟨g1,g2⟩:=B0 ho;have Bl:=hH (GZ ho);rw[<- Ak _ g1]at As;rw[<- zbZ (fun y hy=>Ak y (g2 y hy))]at Au;have e1:=hz.toT1 Bl (BL _ g1) (fun y hy=>BL y (g2 y hy)) As Ax Au
    refine .pure (B6▸hw) ho As Ax An Au (by rw[e1];exact AD) hc (hd.imp id zfY)
  | fresh hw ho As Ax An Au AD hd hc he=>
    obtain⟨g1,g2⟩:=Hh ho;have Bl:=hH (Ha ho);rw[<- Ak _ g1]at As;rw[<- zbZ (fun y hy=>Ak y (g2 y hy))]at Au;have e1:=hz.toT1 Bl (BL _ g1) (fun y hy=>BL y (g2 y hy)) As Ax Au;exact .fresh (B6▸hw) ho As Ax An Au (by rw[e1];exact AD) (zfY hd) hc he
theorem zbv {h:Nat->Option O} {k:Nat}: ∀{l:List (Nat×O)} ,(∀x∈l,x.1≠k)->zbf h l k=h k:=by
 intro l
 induction l generalizing h with
 | nil=>intro _;rfl
 | cons x l ih=>
   intro hx;obtain⟨q,o⟩:=x;simp only[zbf];rw[ih (fun y hy=>hx y (List.mem_cons_of_mem _ hy)),zad _ _ (Ne.symm (hx (q,o) List.mem_cons_self))]
theorem zkP {h h':Nat->Option O} {k:Nat}: ∀{l:List (Nat×O)},(∃x∈l,x.1=k)->zbf h l k=zbf h' l k:=by
 intro l
 induction l generalizing h h' with
 | nil=>rintro⟨x,hx,_⟩;simp at hx
 | cons x l ih=>
   rintro⟨y,hy,he⟩;obtain⟨q,o⟩:=x;simp only[zbf]
   by_cases Aj: ∃z∈l,z.1=k
   ·exact ih Aj
   ·have Be: ∀z∈l,z.1≠k:=fun z hz e=>Aj ⟨z,hz,e⟩
    rw[zbv Be,zbv Be];rcases List.mem_cons.1 hy with rfl | hy
    ·simp only at he;subst he;simp
    ·exact absurd he (Be y hy)
theorem zqz {h:Nat->Option O} {l m:List (Nat×O)} (hd: ∀x∈l,∀y∈m,x.1≠y.1):zbf (zbf h l) m=zbf (zbf h m) l:=by
 funext k
 by_cases hl: ∃x∈l,x.1=k
 ·obtain⟨x,hx,rfl⟩:=hl;rw[zbv (l:=m) (fun y hy e=>hd x hx y hy e.symm)];exact zkP ⟨x,hx,rfl⟩
 ·have Be: ∀x∈l,x.1≠k:=fun x hx e=>hl ⟨x,hx,e⟩
  rw[zbv (l:=l) (h:=zbf h m) Be]
  by_cases hm: ∃y∈m,y.1=k
  ·exact zkP hm
  ·have Le: ∀y∈m,y.1≠k:=fun y hy e=>hm ⟨y,hy,e⟩
   rw[zbv Le,zbv Le,zbv Be]
theorem zdq {α:Type} {f:Nat->α} {i j:Nat} {a b:α} (h:i≠j):upd (upd f i a) j b=upd (upd f j b) i a:=by
 funext k
 simp only[upd]
 by_cases h1:k=i
 ·subst h1;simp[h]
 ·by_cases h2:k=j
  ·subst h2;simp[h1]
  ·simp[h1,h2]
theorem zeT {d1 d2:Option Nat} {e1 e2:Eff} (hd: ∀x,d1=some x->d2≠some x) (hw:e1.wloc=none\/e2.wloc=none) (h1: ∀b cs,e1.wloc=some (b,cs)->d2≠some b) (h2: ∀b cs,e2.wloc=some (b,cs)->d1≠some b)
 (hh: ∀x∈e1.hp,∀y∈e2.hp,x.1≠y.1):(s.apply d1 e1).apply d2 e2=(s.apply d2 e2).apply d1 e1:=by
 have Cm:((s.apply d1 e1).apply d2 e2).env=((s.apply d2 e2).apply d1 e1).env:=by
  cases d1<;>cases d2<;>simp only[St.apply]
  rename_i a b;exact zdq (fun h=>hd a rfl (by rw[h]))
 have It:((s.apply d1 e1).apply d2 e2).adr=((s.apply d2 e2).apply d1 e1).adr:=by
  cases d1<;>cases d2<;>simp only[St.apply]
  rename_i a b;exact zdq (fun h=>hd a rfl (by rw[h]))
 have Kh:((s.apply d1 e1).apply d2 e2).used=((s.apply d2 e2).apply d1 e1).used:=by
  simp only[St.apply];cases e1.adr<;>cases e2.adr<;>simp only
  funext k
  simp only[upd];split<;>split<;>rfl
 have M0:((s.apply d1 e1).apply d2 e2).heap=((s.apply d2 e2).apply d1 e1).heap:=zqz hh
 have Mv:((s.apply d1 e1).apply d2 e2).loc=((s.apply d2 e2).apply d1 e1).loc:=by
  simp only[St.apply];rcases hw with hw | hw
  ·cases BO:e2.wloc with
   | none=>
     simp only[hw];cases d1<;>cases d2<;>simp only
     rename_i a b
     exact zdq (fun h=>hd a rfl (by rw[h]))
   | some bc=>
     obtain⟨b,cs⟩:=bc;simp only[hw];have hb:=h2 b cs BO
     cases d1 with
     | none=>rfl
     | some a=>
       have Ca:a≠b:=fun h=>hb (by rw[h])
       cases d2 with
       | none=>simp only;exact zdq Ca
       | some c=>
         simp only;rw[zdq (f:=s.loc) Ca];exact zdq (fun h=>hd a rfl (by rw[h]))
  ·cases Cj:e1.wloc with
   | none=>
     simp only[hw];cases d1<;>cases d2<;>simp only
     rename_i a b
     exact zdq (fun h=>hd a rfl (by rw[h]))
   | some bc=>
     obtain⟨b,cs⟩:=bc;simp only[hw];have hb:=h1 b cs Cj
     cases d2 with
     | none=>rfl
     | some c=>
       have CL:c≠b:=fun h=>hb (by rw[h])
       cases d1 with
       | none=>simp only;exact(zdq CL).symm
       | some a=>
         simp only;rw[zdq (f:=s.loc) CL];exact zdq (fun h=>hd a rfl (by rw[h]))
 have hn:((s.apply d1 e1).apply d2 e2).nxt=((s.apply d2 e2).apply d1 e1).nxt:=rfl;have hb:((s.apply d1 e1).apply d2 e2).bas=((s.apply d2 e2).apply d1 e1).bas:=rfl
 generalize(s.apply d1 e1).apply d2 e2=A at *
 generalize(s.apply d2 e2).apply d1 e1=B at *
 cases A;cases B
 simp_all
def zuR (a b:ROp):Bool:=
 (match a.dst with | some d=> !b.reads.contains d&&b.dst != some d | none=>true)&&
 (match b.dst with | some d=> !a.reads.contains d | none=>true)&&
 !(a.op.wrH&&b.op.rdH)&& !(b.op.wrH&&a.op.rdH)&& !(a.op.wrL&&(b.op.rdL||b.op.mkL))&& !(b.op.wrL&&(a.op.rdL||a.op.mkL))&&
 !a.op.isRaw&& !b.op.isRaw&&a.op.opds.all Opd.plain&&b.op.opds.all Opd.plain
structure Indep (a b:ROp):Prop where
 d1: ∀t∈b.reads,a.dst≠some t
 d12: ∀x,a.dst=some x->b.dst≠some x
 d2: ∀t∈a.reads,b.dst≠some t
 h1:a.op.wrH=true->b.op.rdH=false
 h2:b.op.wrH=true->a.op.rdH=false
 l1:a.op.wrL=true->b.op.rdL=false/\b.op.mkL=false
 l2:b.op.wrL=true->a.op.rdL=false/\a.op.mkL=false
 r1:a.op.isRaw=false
 r2:b.op.isRaw=false
 p1: ∀y∈a.op.opds,y.plain=true
 p2: ∀y∈b.op.opds,y.plain=true
theorem zqy {a b:ROp} (h:zuR a b=true):Indep a b:=by
 simp only[zuR,zF,Bool.not_eq_true',Bool.and_eq_false_iff,List.all_eq_true]at h;obtain⟨⟨⟨⟨⟨⟨⟨⟨⟨a1,a2⟩,a3⟩,a4⟩,a5⟩,a6⟩,a7⟩,a8⟩,a9⟩,a10⟩:=h;refine⟨?_,?_,?_,?_,?_,?_,?_,a7,a8,a9,a10⟩
 ·intro t ht hd;rw[hd]at a1;simp at a1;exact a1.1 ht
 ·intro x hx hd;rw[hx]at a1;simp[hd]at a1
 ·intro t ht hd;rw[hd]at a2;simp at a2;exact a2 ht
 ·intro hw;rcases a3 with h | h
  ·rw[hw]at h;simp at h
  ·exact h
 ·intro hw;rcases a4 with h | h
  ·rw[hw]at h;simp at h
  ·exact h
 ·intro hw;rcases a5 with h | h
  ·rw[hw]at h;simp at h
  ·simpa using h
 ·intro hw;rcases a6 with h | h
  ·rw[hw]at h;simp at h
  ·simpa using h
theorem zwc {op:AOp} (h:op.rdH=false):op.wrH=false:=by cases op<;>simp_all [AOp.rdH,AOp.wrH]
theorem zwb {op:AOp} (h:op.rdL=false):op.wrL=false:=by cases op<;>simp_all [AOp.rdL,AOp.wrL]
theorem DStep.shape {p:Nat} {x:ROp} {e:Eff} (h:DStep P N p x s e):
 (x.op.wrL=false->e.wloc=none)/\(x.op.wrH=false-> ∀y∈e.hp,y.1=s.bas+p)/\(∀y∈e.hp,y.1=s.bas+p\/(s.heap y.1).isSome=true)/\
 (∀b cs,e.wloc=some (b,cs)-> ∃y∈x.op.opds,∃o,zd8 s y=some (b,o))/\(∀b o,e.adr=some (b,o)-> ∃y∈x.op.opds,∃o,zd8 s y=some (b,o)):=by
 cases h with
 | skip hw=>exact⟨fun _=>rfl,fun _=>by simp,by simp,by simp,by simp⟩
 | eff hw he=>exact⟨znH he,zBk he,zsy he,fun b cs hb=>ztV he hb,fun b o hb=>ztW he hb⟩
 | pure hw ho As Ax An Au AD hc hd=>exact⟨fun _=>rfl,fun _=>by simp,by simp,by simp,by simp⟩
 | fresh hw ho As Ax An Au AD hd hc he=>
   obtain⟨h1,h2,h3⟩:=zeP he;exact⟨fun _=>h3,fun _=>zlq he,fun y hy=> .inl (zlq he y hy),fun b cs hb=>by rw[h3]at hb;simp at hb,fun b o hb=>by rw[h1]at hb;simp at hb⟩
theorem zhG (hz:Rz N ns s) {y:Opd} {b o d:Nat} (h:zd8 s y=some (b,o)) (hs:d∉ y.slots) (hu:s.used d=false):b≠d:=by
 cases y with
 | s t=>
   simp only[zd8]at h;split at h
   ·rename_i q hq;simp only[zA]at h;subst h;rintro rfl;have:=hz.adr hq;rw[hu]at this;simp at this
   ·split at h<;>first | (simp at h;done) | skip
    simp only[zA,Prod.mk.injEq]at h;obtain⟨rfl,_⟩:=h;rintro rfl
    simp[Opd.slots]at hs
 | c v=>simp[zd8]at h
 | g q=>simp[zd8]at h
 | m mt t=>simp[zd8]at h
theorem swap (hz:Rz N ns s) {pj pi:Nat} {j i:ROp} {ej ei:Eff} (Av:Indep j i) (Kl:pj≠pi) (fj:s.heap (s.bas+pj)=none) (fi:s.heap (s.bas+pi)=none)
 (hj:DStep P N pj j s ej) (Dg:s.free j.dst ej) (hi:DStep P N pi i (s.apply j.dst ej) ei) (BJ:(s.apply j.dst ej).free i.dst ei):
 DStep P N pi i s ei/\s.free i.dst ei/\DStep P N pj j (s.apply i.dst ei) ej/\(s.apply i.dst ei).free j.dst ej/\(s.apply j.dst ej).apply i.dst ei=(s.apply i.dst ei).apply j.dst ej:=by
 obtain⟨sj1,sj2,sj3,sj4,sj5⟩:=hj.shape
 have LE:i.op.rdH=true-> ∀k o,s.heap k=some o->(s.apply j.dst ej).heap k=some o:=by
  intro hr k o hk
  have C9:j.op.wrH=false:=by
   cases hw:j.op.wrH with
   | false=>rfl
   | true=>have:=Av.h1 hw;rw[hr]at this;simp at this
  show zbf s.heap ej.hp k=some o;rw[zbv,hk];intro x hx e;have:=sj2 C9 x hx;rw[e]at this;rw[this,fj]at hk;simp at hk
 have IF:i.op.rdL=true->ej.wloc=none:=by
  intro hr;refine sj1 ?_
  cases hw:j.op.wrL with
  | false=>rfl
  | true=>have:=(Av.l1 hw).1;rw[hr]at this;simp at this
 have AK:DStep P N pi i s ei:=(DStep.transfer hz Av.p2 Av.d1 (fun d' hd=>(Dg d' hd).1) IF LE).2 hi
 have Ek:s.free i.dst ei:=by
  intro d hd;obtain⟨h1,h2⟩:=BJ d hd;refine⟨?_,h2⟩
  cases hu:s.used d with
  | false=>rfl
  | true=>have:=zeE (d:=j.dst) (e:=ej) hu;rw[h1]at this;simp at this
 obtain⟨si1,si2,si3,si4,si5⟩:=AK.shape
 have GU:j.op.rdH=true-> ∀k o,s.heap k=some o->(s.apply i.dst ei).heap k=some o:=by
  intro hr k o hk
  have BF:i.op.wrH=false:=by
   cases hw:i.op.wrH with
   | false=>rfl
   | true=>have:=Av.h2 hw;rw[hr]at this;simp at this
  show zbf s.heap ei.hp k=some o;rw[zbv,hk];intro x hx e;have:=si2 BF x hx;rw[e]at this;rw[this,fi]at hk;simp at hk
 have O5:j.op.rdL=true->ei.wloc=none:=by
  intro hr;refine si1 ?_
  cases hw:i.op.wrL with
  | false=>rfl
  | true=>have:=(Av.l2 hw).1;rw[hr]at this;simp at this
 have Dp:DStep P N pj j (s.apply i.dst ei) ej:=(DStep.transfer hz Av.p1 Av.d2 (fun d' hd=>(Ek d' hd).1) O5 GU).1 hj;have BA: ∀{x:ROp} {y:Opd},y∈x.op.opds-> ∀t∈y.slots,t∈x.reads:=fun hy t ht=>List.mem_append_left _ (List.mem_flatMap.2 ⟨_,hy,ht⟩)
 have GT:(s.apply i.dst ei).free j.dst ej:=by
  intro d hd;obtain⟨h1,h2⟩:=Dg d hd;refine⟨?_,h2⟩;simp only[St.apply]
  cases ha:ei.adr with
  | none=>exact h1
  | some bo=>
    obtain⟨b,o⟩:=bo;obtain⟨y,hy,o',hr⟩:=si5 b o ha;have hb:b≠d:=zhG hz hr (fun Aj=>Av.d1 d (BA hy d Aj) hd) h1;simp only[zad _ _ (Ne.symm hb)];exact h1
 refine⟨AK,Ek,Dp,GT,zeT Av.d12 ?_ ?_ ?_ ?_⟩
 ·cases hw:j.op.wrL with
  | false=>exact .inl (sj1 hw)
  | true=>exact .inr (si1 (zwb (Av.l1 hw).1))
 ·intro b cs hb hd;obtain⟨y,hy,o',hr⟩:=sj4 b cs hb;exact zhG hz hr (fun Aj=>Av.d2 b (BA hy b Aj) hd) (Ek b hd).1 rfl
 ·intro b cs hb hd;obtain⟨y,hy,o',hr⟩:=si4 b cs hb;exact zhG hz hr (fun Aj=>Av.d1 b (BA hy b Aj) hd) (Dg b hd).1 rfl
 ·intro x hx y hy e;have Az:s.bas+pj≠s.bas+pi:=by omega
  by_cases C9:j.op.wrH=true
  ·have BF:=zwc (Av.h1 C9);have e2:=si2 BF y hy;rcases sj3 x hx with h1 | h1
   ·exact Az (by rw[<- h1,<- e2,e])
   ·rw[e,e2,fi]at h1;simp at h1
  ·have e1:=sj2 (by simpa using C9) x hx;rcases si3 y hy with h1 | h1
   ·exact Az (by rw[<- e1,<- h1,e])
   ·rw[<- e,e1,fj]at h1;simp at h1
def AOp.isApp:AOp->Bool
 | .append _ _ _ _=>true
 | _=>false
theorem zdD {op:AOp} (h:op.looks=true):op.wrH=false/\op.wrL=false/\op.isRaw=false/\op.rdL=false:=by
 cases op<;>simp_all [AOp.looks,AOp.wrH,AOp.wrL,AOp.isRaw,AOp.rdL]
theorem zjt {G:Nat->List T} {y:Opd} {n:Int} {v:V} (h:zex G s y=some n) (hv:evl G s y=some v):v.top=[]:=by
 unfold zex at h;rw[hv]at h;split at h
 ·rename_i Fq;cases Fq;rfl
 ·cases h
theorem zqr {op:AOp} {p:Nat} {G:Nat->List T} {e:Eff} (hl:op.looks=true) (he:zaj G p s op=some e):
 ∀y∈op.opds,∀v,evl G s y=some v-> ∀k∈v.top,s.heap k≠some .dead:=by
 intro y hy v hv k hk hd;cases op<;>simp only[AOp.looks,zG]at hl
 ·simp only[AOp.opds,List.mem_singleton]at hy;subst hy;simp only[zaj,hv,zC,zD]at he;cases v<;>simp[V.top]at hk<;>subst hk<;>simp[hd]at he
 ·simp only[AOp.opds,List.mem_singleton]at hy;subst hy;simp only[zaj,hv,zC,zD]at he;cases v<;>simp[V.top]at hk<;>subst hk<;>simp[hd]at he
 ·rename_i sz x lo hi mx;simp only[AOp.opds,List.mem_cons,List.mem_append,Option.mem_toList]at hy;simp only[zaj,zC,zB]at he;obtain⟨u,hu,n,hn,h,hh,l,Ef,he⟩:=he
  have Ao: ∀{q:Opd} {d:Nat} {z:Option Opd} {m:Int},z=some q->zew G s d z=some m->evl G s q=some v->v.top=[]:=by
   intro q d z m hz hm hq;subst hz;exact zjt hm hq
  rcases hy with rfl | (hy | hy) | hy
  ·obtain rfl:=Option.some.inj (hu.symm.trans hv);cases u<;>simp[V.top]at hk<;>subst hk<;>simp[lenOf,hd]at hn
  ·rw[Ao hy Ef hv]at hk;simp at hk
  ·rw[Ao hy hh hv]at hk;simp at hk
  ·subst hy;simp only[zB]at he;obtain⟨m,hm,_⟩:=he;rw[zjt hm hv]at hk;simp at hk
 ·simp only[AOp.opds,List.mem_singleton]at hy;subst hy;simp only[zaj,hv,zC,zD]at he;cases v<;>simp[V.top]at hk<;>subst hk<;>simp[hd]at he
 ·rename_i sz x i;simp only[AOp.opds,List.mem_cons,List.not_mem_nil,or_false]at hy;simp only[zaj,zC,zB]at he;obtain⟨n,hn,u,hu,he⟩:=he;rcases hy with rfl | rfl
  ·obtain rfl:=Option.some.inj (hu.symm.trans hv);cases u<;>simp[V.top]at hk<;>subst hk<;>simp[hd]at he
  ·rw[zjt hn hv]at hk;simp at hk
 ·simp only[AOp.opds,List.mem_singleton]at hy;subst hy;simp only[zaj,hv,zC,zD,zB]at he;obtain⟨n,hn,_⟩:=he;cases v<;>simp[V.top]at hk<;>subst hk<;>simp[lenOf,hd]at hn
def zpq (a b:ROp):Bool:=
 (match a.dst with | some d=> !b.reads.contains d&&b.dst != some d | none=>true)&&
 (match b.dst with | some d=> !a.reads.contains d | none=>true)&&a.op.isApp&&b.op.looks&&a.op.opds.all Opd.plain&&b.op.opds.all Opd.plain
structure IndepX (a b:ROp):Prop where
 d1: ∀t∈b.reads,a.dst≠some t
 d12: ∀x,a.dst=some x->b.dst≠some x
 d2: ∀t∈a.reads,b.dst≠some t
 ap:a.op.isApp=true
 lk:b.op.looks=true
 p1: ∀y∈a.op.opds,y.plain=true
 p2: ∀y∈b.op.opds,y.plain=true
theorem zob {a b:ROp} (h:zpq a b=true):IndepX a b:=by
 simp only[zpq,zF,List.all_eq_true]at h;obtain⟨⟨⟨⟨⟨a1,a2⟩,a3⟩,a4⟩,a5⟩,a6⟩:=h;refine⟨?_,?_,?_,a3,a4,a5,a6⟩
 ·intro t ht hd;rw[hd]at a1;simp at a1;exact a1.1 ht
 ·intro x hx hd;rw[hx]at a1;simp[hd]at a1
 ·intro t ht hd;rw[hd]at a2;simp at a2;exact a2 ht
theorem zv6 {op:AOp} (h:op.isApp=true):op.wrL=false/\op.rdL=false/\op.isRaw=false:=by
 cases op<;>simp_all [AOp.isApp,AOp.wrL,AOp.rdL,AOp.isRaw]
theorem zvu {op:AOp} {p:Nat} {G:Nat->List T} {e:Eff} (hl:op.isApp=true) (he:zaj G p s op=some e):
 ∀k,k≠s.bas+p->zbf s.heap e.hp k=s.heap k\/zbf s.heap e.hp k=some .dead:=by
 intro k hk;cases op<;>simp only[AOp.isApp,zG]at hl
 simp only[zaj,zC,zB]at he;obtain⟨u,hu,v,hv,a,ha,b,hb,he⟩:=he;split at he
 ·split at he
  ·cases he;exact .inl rfl
  ·split at he
   ·cases he;left;simp only[zbf];exact zad _ _ hk
   ·simp only[zB,zA]at he;obtain⟨ts,_,rfl⟩:=he;exact .inl rfl
   ·split at he
    ·split at he
     ·cases he;simp only[zbf];rw[zad _ _ hk];unfold upd;split
      ·exact .inr rfl
      ·exact .inl rfl
     ·cases he
    ·cases he
   ·cases he
 ·cases he
theorem zBh (hz:Rz N ns s) {pj pi:Nat} {j i:ROp} {ej ei:Eff} (Av:IndepX j i) (Kl:pj≠pi) (fj:s.heap (s.bas+pj)=none) (fi:s.heap (s.bas+pi)=none)
 (hj:DStep P N pj j s ej) (Dg:s.free j.dst ej) (hi:DStep P N pi i (s.apply j.dst ej) ei) (BJ:(s.apply j.dst ej).free i.dst ei):
 DStep P N pi i s ei/\s.free i.dst ei/\DStep P N pj j (s.apply i.dst ei) ej/\(s.apply i.dst ei).free j.dst ej/\(s.apply j.dst ej).apply i.dst ei=(s.apply i.dst ei).apply j.dst ej:=by
 obtain⟨iwH,iwL,iraw,irL⟩:=zdD Av.lk;obtain⟨jwL,jrL,jraw⟩:=zv6 Av.ap;obtain⟨sj1,sj2,sj3,sj4,sj5⟩:=hj.shape;have Kp:ej.wloc=none:=sj1 jwL
 have Q6: ∀k,k≠s.bas+pj->(s.apply j.dst ej).heap k=s.heap k\/(s.apply j.dst ej).heap k=some .dead:=by
  intro k hk
  cases hj with
  | skip hw=>exact .inl rfl
  | eff hw he=>exact zvu Av.ap he k hk
  | pure hw ho=>exact .inl rfl
  | fresh hw ho=>have:=Av.ap;rw[ho]at this;cases this
 have Cm: ∀t∈i.reads,(s.apply j.dst ej).env t=s.env t:=by
  intro t ht;have hd:=Av.d1 t ht
  cases NM:j.dst with
  | none=>rfl
  | some d'=>rw[NM]at hd;simp only[St.apply];exact zad _ _ (fun h=>hd (by rw[h]))
 have Ao: ∀y∈i.op.opds,evl N.G (s.apply j.dst ej) y=evl N.G s y:=by
  intro y hy
  cases y with
  | s t=>simp only[evl,Cm t (List.mem_append_left _ (List.mem_flatMap.2 ⟨_,hy,by simp[Opd.slots]⟩))]
  | m mt t=>simp only[evl,Cm t (List.mem_append_left _ (List.mem_flatMap.2 ⟨_,hy,by simp[Opd.slots]⟩))]
  | c v=>rfl
  | g q=>rfl
 have Dq:DStep P N pi i (s.apply j.dst { ej with hp:=[] }) ei:=by
  cases hi with
  | skip hw=>exact .skip hw
  | eff hw he=>
    refine .eff hw ?_;rw[<- he];refine(zfg (s:=s.apply j.dst ej) (u:=s.apply j.dst { ej with hp:=[] }) (fun x _=>by cases x<;>rfl) (fun x _=>by cases x<;>rfl) (fun hr=>by rw[irL]at hr;cases hr) (fun _ x hx v hv k hk=> ?_) rfl).symm;obtain⟨o,ho⟩:=hz.top (Av.p2 x hx) (by rw[<- Ao x hx];exact hv) k hk;have A8:k≠s.bas+pj:=by rintro rfl;rw[fj]at ho;cases ho
    rcases Q6 k A8 with h | h
    ·exact h
    ·exact absurd h (zqr Av.lk he x hx v hv k hk)
  | pure hw ho=>have:=Av.lk;rw[ho]at this;cases this
  | fresh hw ho=>have:=Av.lk;rw[ho]at this;cases this
 have AK:DStep P N pi i s ei:=(DStep.transfer (e':= { ej with hp:=[] }) hz Av.p2 Av.d1 (fun d' hd=>(Dg d' hd).1) (fun _=>Kp) (fun _ k o hk=>hk)).2 Dq
 have Ek:s.free i.dst ei:=by
  intro d hd;obtain⟨h1,h2⟩:=BJ d hd;refine⟨?_,h2⟩
  cases hu:s.used d with
  | false=>rfl
  | true=>have:=zeE (d:=j.dst) (e:=ej) hu;rw[h1]at this;simp at this
 obtain⟨si1,si2,si3,si4,si5⟩:=AK.shape
 have GU:j.op.rdH=true-> ∀k o,s.heap k=some o->(s.apply i.dst ei).heap k=some o:=by
  intro hr k o hk;show zbf s.heap ei.hp k=some o;rw[zbv,hk];intro x hx e;have:=si2 iwH x hx;rw[e]at this;rw[this,fi]at hk;simp at hk
 have Dp:DStep P N pj j (s.apply i.dst ei) ej:=(DStep.transfer hz Av.p1 Av.d2 (fun d' hd=>(Ek d' hd).1) (fun _=>si1 iwL) GU).1 hj;have BA: ∀{x:ROp} {y:Opd},y∈x.op.opds-> ∀t∈y.slots,t∈x.reads:=fun hy t ht=>List.mem_append_left _ (List.mem_flatMap.2 ⟨_,hy,ht⟩)
 have GT:(s.apply i.dst ei).free j.dst ej:=by
  intro d hd;obtain⟨h1,h2⟩:=Dg d hd;refine⟨?_,h2⟩;simp only[St.apply]
  cases ha:ei.adr with
  | none=>exact h1
  | some bo=>
    obtain⟨b,o⟩:=bo;obtain⟨y,hy,o',hr⟩:=si5 b o ha;have hb:b≠d:=zhG hz hr (fun Aj=>Av.d1 d (BA hy d Aj) hd) h1;simp only[zad _ _ (Ne.symm hb)];exact h1
 refine⟨AK,Ek,Dp,GT,zeT Av.d12 (.inl Kp) (fun b cs hb=>by rw[Kp]at hb;cases hb) (fun b cs hb=>by rw[si1 iwL]at hb;cases hb) ?_⟩;intro x hx y hy e;have Az:s.bas+pj≠s.bas+pi:=by omega
 have e2:=si2 iwH y hy;rcases sj3 x hx with h1 | h1
 ·exact Az (by rw[<- h1,<- e2,e])
 ·rw[e,e2,fi]at h1;simp at h1
def AOp.still:AOp->Bool
 | .mv _ | .faddrL _ _ | .loadL _ _ _ | .allocL _=>true
 | _=>false
def zkO (a b:ROp):Bool:=
 (match a.dst with | some d=> !b.reads.contains d&&b.dst != some d | none=>true)&&
 (match b.dst with | some d=> !a.reads.contains d | none=>true)&&a.op.still&&b.op.isRaw&&a.op.opds.all Opd.plain
structure IndepR (a b:ROp):Prop where
 d1: ∀t∈b.reads,a.dst≠some t
 d12: ∀x,a.dst=some x->b.dst≠some x
 d2: ∀t∈a.reads,b.dst≠some t
 st:a.op.still=true
 rw:b.op.isRaw=true
 p1: ∀y∈a.op.opds,y.plain=true
theorem zjj {a b:ROp} (h:zkO a b=true):IndepR a b:=by
 simp only[zkO,zF,List.all_eq_true]at h;obtain⟨⟨⟨⟨a1,a2⟩,a3⟩,a4⟩,a5⟩:=h;refine⟨?_,?_,?_,a3,a4,a5⟩
 ·intro t ht hd;rw[hd]at a1;simp at a1;exact a1.1 ht
 ·intro x hx hd;rw[hx]at a1;simp[hd]at a1
 ·intro t ht hd;rw[hd]at a2;simp at a2;exact a2 ht
theorem zld {op:AOp} (h:op.still=true):op.rdH=false/\op.wrH=false/\op.wrL=false/\op.isRaw=false:=by
 cases op<;>simp_all [AOp.still,AOp.rdH,AOp.wrH,AOp.wrL,AOp.isRaw]
theorem zml {op:AOp} {e:Eff} {p:Nat} {G:Nat->List T} (h:op.still=true) (he:zaj G p s op=some e):e.hp=[]/\e.wloc=none:=by
 cases op<;>simp only[AOp.still,zG]at h
 all_goals simp only[zaj,zC,zB,zA,Prod.exists]at he
 ·obtain⟨_,_,rfl⟩:=he;exact⟨rfl,rfl⟩
 ·subst he;exact⟨rfl,rfl⟩
 ·obtain⟨_,_,_,_,_,_,_,_,_,rfl⟩:=he;exact⟨rfl,rfl⟩
 ·obtain⟨_,_,_,_,_,_,_,_,rfl⟩:=he;exact⟨rfl,rfl⟩
theorem zkg {op:AOp} {p:Nat} {G:Nat->List T} {H:Nat->Option O} {n:Nat} (h:op.still=true):zaj G p { s with heap:=H,nxt:=n } op=zaj G p s op:=by
 refine(zfg (s:=s) (u:={ s with heap:=H,nxt:=n }) (G:=G) (p:=p) (op:=op) (fun x _=> ?_) (fun x _=> ?_) (fun _ _ _ _ _ _=>rfl) (fun hr=> ?_) rfl).symm
 ·cases x<;>rfl
 ·cases x<;>rfl
 ·rw[(zld h).1]at hr;cases hr
theorem zeW {u:St} {G:Nat->List T} {l:List Opd} (h: ∀y∈l,evl G s y=evl G u y):zid G s l=zid G u l:=by
 unfold zid
 induction l with
 | nil=>rfl
 | cons y l ih=>rw[List.flatMap_cons,List.flatMap_cons,h y (by simp),ih fun z hz=>h z (by simp[hz])]
theorem zBi (hz:Rz N ns s) {pj pi:Nat} {j i:ROp} {s1 s2:St} (Av:IndepR j i) (h1:StepG P N true pj j s s1) (h2:StepG P N true pi i s1 s2):
 ∃t,StepG P N true pi i s t/\StepG P N true pj j t s2:=by
 obtain⟨sr,swH,swL,snr⟩:=zld Av.st;obtain⟨ej,Gb,Dg,rfl⟩:=h1.toD snr
 have Ic:ej.hp=[]/\ej.wloc=none:=by
  cases Gb with
  | skip hw=>exact⟨rfl,rfl⟩
  | eff hw he=>exact zml Av.st he
  | pure hw ho=>exact⟨rfl,rfl⟩
  | fresh hw ho=>have:=Av.st;rw[ho]at this;cases this
 obtain⟨ehp,ewl⟩:=Ic;have Ar:(s.apply j.dst ej).heap=s.heap:=by simp only[St.apply,ehp,zbf]
 have Cm: ∀t∈i.reads,(s.apply j.dst ej).env t=s.env t:=by
  intro t ht;have hd:=Av.d1 t ht
  cases NM:j.dst with
  | none=>rfl
  | some d'=>rw[NM]at hd;simp only[St.apply];exact zad _ _ (fun h=>hd (by rw[h]))
 have Ao: ∀y∈i.op.opds,evl N.G (s.apply j.dst ej) y=evl N.G s y:=by
  intro y hy
  cases y with
  | s t=>simp only[evl,Cm t (List.mem_append_left _ (List.mem_flatMap.2 ⟨_,hy,by simp[Opd.slots]⟩))]
  | m mt t=>simp only[evl,Cm t (List.mem_append_left _ (List.mem_flatMap.2 ⟨_,hy,by simp[Opd.slots]⟩))]
  | c v=>rfl
  | g q=>rfl
 have E4:zcs (s.apply j.dst ej) i.guard=zcs s i.guard:=by
  cases hg:i.guard with
  | none=>rfl
  | some gw=>
    obtain⟨g,w⟩:=gw;have:g∈i.reads:=by unfold ROp.reads;rw[hg];simp
    simp only[zcs,Cm g this]
 have Bd: ∀{e:Eff},(s.apply j.dst ej).free i.dst e->s.free i.dst e:=by
  intro e hf d hd;obtain⟨h1,h2⟩:=hf d hd;refine⟨?_,h2⟩
  cases hu:s.used d with
  | false=>rfl
  | true=>have:=zeE (d:=j.dst) (e:=ej) hu;rw[h1]at this;simp at this
 -- what is left to do when the call Dt been made
 have fin: ∀(H':Nat->Option O) (n':Nat) (r:V),s.free i.dst {}->StepG P N true pj j ({ s with heap:=H',nxt:=n' }.apply i.dst { val:=r }) (({ s.apply j.dst ej with heap:=H',nxt:=n' }:St).apply i.dst { val:=r }):=by
  intro H' n' r BJ;have AE:({ s with heap:=H',nxt:=n' }:St).apply i.dst { val:=r }= { s.apply i.dst { val:=r }with heap:=H',nxt:=n' }:=rfl
  have Dp:DStep P N pj j (s.apply i.dst { val:=r }) ej:=
   (DStep.transfer hz Av.p1 Av.d2 (fun d' hd=>(BJ d' hd).1) (fun _=>rfl) (fun hr=>by rw[sr]at hr;cases hr)).1 Gb
  have IS:DStep P N pj j ({ s with heap:=H',nxt:=n' }.apply i.dst { val:=r }) ej:=by
   rw[AE]
   cases Dp with
   | skip hw=>exact .skip hw
   | eff hw he=>exact .eff hw (by rw[zkg Av.st];exact he)
   | pure hw ho=>have:=Av.st;rw[ho]at this;cases this
   | fresh hw ho=>have:=Av.st;rw[ho]at this;cases this
  have NW:(({ s with heap:=H',nxt:=n' }:St).apply i.dst { val:=r }).free j.dst ej:=Dg;have:=IS.toG NW
  have e1:({ s.apply j.dst ej with heap:=H',nxt:=n' }:St)=({ s with heap:=H',nxt:=n' }:St).apply j.dst ej:=by
   simp only[St.apply,ehp,zbf]
  rw[e1,zeT (s:={ s with heap:=H',nxt:=n' }) Av.d12 (.inl ewl) (fun b cs hb=>by rw[ewl]at hb;cases hb) (fun b cs hb=>by cases hb) (by rw[ehp];simp)];exact this
 cases h2 with
 | skip hw hf=>
   refine⟨_,.skip (by rw[<- E4];exact hw) (Bd hf),?_⟩;have:=fin s.heap s.nxt .undef (Bd hf)
   have e1:({ s.apply j.dst ej with heap:=s.heap,nxt:=s.nxt }:St)=s.apply j.dst ej:=by
    simp only[St.apply,ehp,zbf]
   rw[e1]at this
   exact this
 | eff hw hf he=>have:=Av.rw;revert he;cases Jo:i.op<;>rw[Jo]at this<;>simp[AOp.isRaw]at this<;>simp[zaj]
 | pure hw hf ho=>have:=Av.rw;rw[ho]at this;simp[AOp.isRaw]at this
 | fresh hw hf ho=>have:=Av.rw;rw[ho]at this;simp[AOp.isRaw]at this
 | raw hw hf ho As Ax Bu An Au hc hn AG A8=>
   rename_i f args fv g a a0 b vs r rf H' n';have Ak: ∀y,y∈f::args->evl N.G (s.apply j.dst ej) y=evl N.G s y:=fun y hy=>Ao y (by rw[ho];exact hy)
   rw[Ak f (by simp)]at As;rw[zbZ (fun x hx=>Ak x (by simp[hx]))]at Au;rw[Ar]at hc AG Bu;refine⟨_,.raw (by rw[<- E4];exact hw) (Bd hf) ho As Ax Bu An Au hc hn AG (fun hk k hm=> ?_),fin H' n' r (Bd hf)⟩;rw[<- Ar];have ht:zid N.G (s.apply j.dst ej) args=zid N.G s args:=zeW (fun y hy=>Ak y (List.mem_cons_of_mem _ hy))
   exact A8 hk k (by rw[ht];exact hm)
 | yld hw hf ho As hk Au Ac Bi AT CL AF AG=>
   rename_i f args k vs env env1 env' ps ps1 ps' ca cb bd1 bd' e t1 t2;have Ak: ∀y,y∈f::args->evl N.G (s.apply j.dst ej) y=evl N.G s y:=fun y hy=>Ao y (by rw[ho];exact hy)
   rw[Ak f (by simp)]at As;rw[zbZ (fun x hx=>Ak x (by simp[hx]))]at Au;rw[Ar]at hk Bi AG;exact⟨_,.yld (by rw[<- E4];exact hw) (Bd hf) ho As hk Au Ac Bi AT CL AF AG,fin _ _ _ (Bd hf)⟩
end
end Rg
end
