/- Part of the proof of the laws of the package relyguardlaw36: an abstract machine for the program's functions, what they compute, and that the machine is the program's. No condition. (RgS RgT1) -/
import Derived.Test.YtaiokglcgiemnaaGreatDoorPartAI
section
namespace Rg
open Go
section
variable (P:Program) (I:Inv)
def compGuard (ops:Array Oper) (ns:Nat):Option (Nat×Bool)->Option (Option (Nat×Bool))
 | none=>some none
 | some (j,want)=>match(ops[j]?).bind (·.dst)with
   | some d=>if d<ns then some (some (d,want))else none
   | none=>none
def dstOk (ns:Nat):Option Nat->Bool
 | none=>true
 | some d=>decide (d<ns)
def isAdr:AOp->Bool
 | .faddrL _ _=>true
 | .iaddrAL _ _ _ _=>true
 | _=>false
def isCall:AOp->Bool
 | .call _ _ _=>true
 | .fcall _ _=>true
 | _=>false
structure Raws where
 fns:List Nat
 slots:List Nat
 own:List Nat:=[]
def Raws.raw (r:Raws) (dst:Option Nat):Opd->Bool
 | .c (.t (.fn k _ _))=>r.fns.contains k
 | _=>match dst with
   | some d=>r.slots.contains d
   | none=>true
def Raws.fresh (r:Raws):Opd->Bool
 | .c (.t (.fn k _ _))=>r.own.contains k
 | _=>false
def compOne (rw:Raws) (isL:Nat->Bool) (dst:Option Nat) (op:Op):Option AOp:=
 match op with
 | .call c=>match c.callee with
   | .value f=>do
     let f<- opd I f
     let args<- opds I c.args
     some (if rw.fresh f then .fcall f args else .call (rw.raw dst f) f args)
   | _=>do
     let x<- compOp P I isL dst op
     if isCall x then none else some x
 | _=>do
   let x<- compOp P I isL dst op
   if isCall x then none else some x
def compOps (rw:Raws) (L:List Nat) (ns:Nat) (ops:Array Oper):List Nat->List Oper->Option (List ROp)
 | _,[]=>some []
 | adrs,o::os=>do
   let op<- compOne P I rw (fun t=>L.contains t||adrs.contains t) o.dst o.op
   let g<- compGuard ops ns o.guard
   let rest<- compOps rw L ns ops (if isAdr op then o.dst.toList++adrs else adrs) os
   if dstOk ns o.dst then some ({ guard:=g,dst:=o.dst,op:=op }::rest)else none
structure OpRel (ns:Nat) (ops:Array Oper) (o:Oper) (r:ROp):Prop where
 dst:r.dst=o.dst
 op: ∃rw isL,compOne P I rw isL o.dst o.op=some r.op
 lt: ∀x,o.dst=some x->x<ns
 guard:compGuard ops ns o.guard=some r.guard
theorem compOps_spec {rw:Raws} {L:List Nat} {ns:Nat} {ops:Array Oper}: ∀{os:List Oper} {adrs:List Nat} {l:List ROp},compOps P I rw L ns ops adrs os=some l->
 os.length=l.length/\ ∀(i:Nat) (r:ROp),l[i]? =some r-> ∃o,os[i]? =some o/\OpRel P I ns ops o r
 | [],adrs,l,h=>by simp[compOps]at h;subst h;simp
 | o::os,adrs,l,h=>by
   simp only[compOps,Option.bind_eq_bind,Option.bind_eq_some_iff]at h
   obtain⟨op,hop,g,hg,rest,hrest,h⟩:=h
   split at h
   ·rename_i hd
    simp only[Option.some.injEq]at h;subst h
    obtain⟨h1,h2⟩:=compOps_spec hrest
    refine⟨by simp[h1],fun i r hi=> ?_⟩
    cases i with
    | zero=>
      simp at hi;subst hi
      refine⟨o,rfl,rfl,⟨_,_,hop⟩,fun x hx=> ?_,hg⟩
      simp[dstOk,hx]at hd;exact hd
    | succ i=>simp at hi;simpa using h2 i r hi
   ·simp at h
end
theorem wanted_eq {N:Nam} {c:Ctx} {ns:Nat} {A:Nat->Prop} {μ lam:Nat->Nat} {s:St} {a:Act} {w:World} (R:Rel N c ns A μ lam s a w) {ops:Array Oper} {o:Oper} {g:Option (Nat×Bool)} {b:Bool}
 (hg:compGuard ops ns o.guard=some g) (hw:wants s g=some b):Region.wanted o (yielded ops a.tmps)=b:=by
 unfold compGuard at hg
 split at hg
 ·rename_i hn
  simp only[Option.some.injEq]at hg;subst hg
  simp only[wants,Option.some.injEq]at hw;subst hw
  simp[Region.wanted,hn]
 ·rename_i j want hj
  split at hg
  ·rename_i d hd
   split at hg
   ·rename_i hlt
    simp only[Option.some.injEq]at hg;subst hg
    have he:=R.env d
    have hget:a.tmps[d]? =some (a.tmps.getD d undef):=by
     have:d<a.tmps.size:=by rw[R.size];exact hlt
     rw[Array.getD_eq_getD_getElem?,Array.getElem?_eq_getElem this];rfl
    simp only[wants]at hw
    simp only[Region.wanted,hj,yielded,hd,Option.bind_some]
    split at hw
    ·rename_i b' hb
     rw[hb]at he
     simp only[Option.some.injEq]at hw;subst hw
     rw[hget,he.bool_inv]
     cases b'<;>cases want<;>rfl
    ·rename_i hb
     rw[hb]at he
     simp only[Option.some.injEq]at hw;subst hw
     rw[hget,show a.tmps.getD d undef=undef from he]
     rfl
    ·simp at hw
   ·simp at hg
  ·simp at hg
theorem hp_keys {G:Nat->List T} {p:Nat} {s:St} {op:AOp} {e:Eff} (h:aeval G p s op=some e): ∀x∈e.hp,x.1=s.bas+p\/(s.heap x.1).isSome=true:=by
 intro x hx
 cases op
 all_goals simp only[aeval,Option.bind_eq_bind,Option.bind_eq_some_iff,Option.some.injEq,Prod.exists]at h
 all_goals(try(repeat(first | (obtain⟨_,_,h⟩:=h) | split at h | (simp only[Option.bind_eq_some_iff,Option.some.injEq]at h))))
 all_goals(try(repeat(first | (obtain⟨_,_,h⟩:=h) | split at h | (simp only[Option.bind_eq_some_iff,Option.some.injEq]at h))))
 all_goals(try(repeat(first | (obtain⟨_,_,h⟩:=h) | split at h | (simp only[Option.bind_eq_some_iff]at h))))
 all_goals(try(repeat(first | (obtain⟨_,_,h⟩:=h) | split at h | (simp only[Option.bind_eq_some_iff]at h))))
 all_goals(try(simp at h;done))
 all_goals(try(subst h;simp at hx;done))
 all_goals(try subst h)
 all_goals(try(simp at hx;done))
 all_goals(try(simp at h;done))
 all_goals(try(simp only[List.mem_cons,List.not_mem_nil,or_false]at hx))
 all_goals(try(rcases hx with rfl | rfl<;>simp[*];done))
 all_goals(try(subst hx;simp[*];done))
inductive StepG (P:Program) (N:Nam) (d:Bool) (p:Nat) (o:ROp) (s:St):St->Prop where
 | skip (hw:wants s o.guard=some false) (hf:s.free o.dst {}):StepG P N d p o s (s.apply o.dst {})
 | eff {e:Eff} (hw:wants s o.guard=some true) (hf:s.free o.dst e) (he:aeval N.G p s o.op=some e):StepG P N d p o s (s.apply o.dst e)
 | pure {f:Opd} {args:List Opd} {fv:V} {g:Nat} {a b vs rs:List V} {r:V} {rf:Func} (hw:wants s o.guard=some true) (hf:s.free o.dst {}) (ho:o.op= .call false f args) (hfv:evl N.G s f=some fv)
    (hfn:fnOf fv=some (g,a,b)) (hreal:Real P (N.nm g) rf) (hvs:evls N.G s args=some vs) (hrs:(a++vs++b).mapM (toT1 s.heap)=some rs) (hc:PureOK P N g rs r) (hd:d=true->r.scalar=true\/(a++vs++b).flatMap (reach1 s.heap)=[]):
    StepG P N d p o s (s.apply o.dst { val:=r,hp:=if r.scalar then []else freezes s.heap ((a++vs++b).flatMap (reach1 s.heap)) })
 | raw {f:Opd} {args:List Opd} {fv:V} {g:Nat} {a b vs:List V} {r:V} {rf:Func} {H':Nat->Option O} {n':Nat} (hw:wants s o.guard=some true) (hf:s.free o.dst {}) (ho:o.op= .call true f args) (hfv:evl N.G s f=some fv)
    (hfn:fnOf fv=some (g,a,b)) (hreal:Real P (N.nm g) rf) (hvs:evls N.G s args=some vs) (hc:RawOK P N g (a++vs++b) s.heap s.nxt r H' n') (hn:s.nxt<=n') (hfr: ∀k,k<s.nxt->s.heap k=none->H' k=none):
    StepG P N d p o s ({ s with heap:=H',nxt:=n' }.apply o.dst { val:=r })
 | fresh {f:Opd} {args:List Opd} {fv:V} {g:Nat} {a b vs rs:List V} {r:V} {rf:Func} {H':Nat->Option O} {n':Nat} {e:Eff} (hw:wants s o.guard=some true) (hf:s.free o.dst {}) (ho:o.op= .fcall f args) (hfv:evl N.G s f=some fv)
    (hfn:fnOf fv=some (g,a,b)) (hreal:Real P (N.nm g) rf) (hvs:evls N.G s args=some vs) (hrs:(a++vs++b).mapM (toT1 s.heap)=some rs) (hd:(a++vs++b).flatMap (reach1 s.heap)=[])
    (hc:RawOK P N g rs (fun _=>none) 0 r H' n') (he:ownR (s.bas+p) r H'=some e):StepG P N d p o s (s.apply o.dst e)
 | yld {f:Opd} {args:List Opd} {k:Nat} {vs:List V} {env env1 env':Nat->V} {ps ps1 ps':List Nat} {ca cb bd1 bd':C} {e:Ex} {s1 s2:St} (hw:wants s o.guard=some true) (hf:s.free o.dst {}) (ho:o.op= .call true f args)
    (hfv:evl N.G s f=some (.yl k)) (hk:s.heap k=some (.loop env ps (.round ca cb) .ready)) (hvs:evls N.G s args=some vs) (hlen:vs.length=ps.length) (hca:BodyOK P N ca (roundSt s.heap s.nxt k env ps (.round ca cb) vs) .normal s1)
    (hk1:s1.heap k=some (.loop env1 ps1 bd1 .enter)) (hcb:BodyOK P N cb { s1 with heap:=upd s1.heap k (some (.loop env1 ps1 bd1 .busy)) } e s2)
    (hk2:s2.heap k=some (.loop env' ps' bd' .busy)) (hfr:s.nxt<=s2.nxt/\ ∀k',k'<s.nxt->s.heap k'=none->s2.heap k'=none):
    StepG P N d p o s ({ s with heap:=upd s2.heap k (some (.loop env' ps' bd' e.toL)),nxt:=s2.nxt }.apply o.dst { val:=.t (.bool (decide (e=Ex.normal))) })
section
variable {P:Program} {N:Nam} {I:Inv} {c:Ctx} {d:Bool} {ns p:Nat} {A:Nat->Prop} {μ lam:Nat->Nat} {s s' : St} {a:Act} {w:World} {e:Eff} {o:Oper} {ro:Option Nat} {r:ROp} {ops:Array Oper}
theorem comp_any {rw:Raws} {isL:Nat->Bool} {dst:Option Nat} {op:Op} {x:AOp} (hx:isCall x=true) (h:compOne P I rw isL dst op=some x):
 ∃cl f0 f args,op= .call cl/\cl.callee= .value f0/\opd I f0=some f/\opds I cl.args=some args/\(x= .fcall f args\/ ∃b,x= .call b f args):=by
 have hno: ∀{y:Option AOp},(do let z<- y;if isCall z then none else some z)=some x->False:=by
  intro y hy
  simp only[Option.bind_eq_bind,Option.bind_eq_some_iff]at hy
  obtain⟨z,_,hz⟩:=hy
  split at hz
  ·simp at hz
  ·rename_i hc
   simp only[Option.some.injEq]at hz;subst hz
   exact hc hx
 unfold compOne at h
 split at h
 ·rename_i cl
  split at h
  ·rename_i f0 hb
   simp only[Option.bind_eq_bind,Option.bind_eq_some_iff,Option.some.injEq]at h
   obtain⟨f1,hf1,as,has,h⟩:=h
   refine⟨cl,f0,f1,as,rfl,hb,hf1,has,?_⟩
   split at h
   ·exact .inl h.symm
   ·exact .inr ⟨_,h.symm⟩
  ·exact(hno h).elim
 ·exact(hno h).elim
theorem comp_call {rw:Raws} {isL:Nat->Bool} {dst:Option Nat} {op:Op} {b:Bool} {f:Opd} {args:List Opd} (h:compOne P I rw isL dst op=some (.call b f args)):
 ∃cl f0,op= .call cl/\cl.callee= .value f0/\opd I f0=some f/\opds I cl.args=some args:=by
 obtain⟨cl,f0,f1,as1,h1,h2,h3,h4,hx⟩:=comp_any rfl h
 rcases hx with hx | ⟨b',hx⟩
 ·simp at hx
 ·simp only[AOp.call.injEq]at hx
  obtain⟨_,rfl,rfl⟩:=hx
  exact⟨cl,f0,h1,h2,h3,h4⟩
theorem comp_fcall {rw:Raws} {isL:Nat->Bool} {dst:Option Nat} {op:Op} {f:Opd} {args:List Opd} (h:compOne P I rw isL dst op=some (.fcall f args)):
 ∃cl f0,op= .call cl/\cl.callee= .value f0/\opd I f0=some f/\opds I cl.args=some args:=by
 obtain⟨cl,f0,f1,as1,h1,h2,h3,h4,hx⟩:=comp_any rfl h
 rcases hx with hx | ⟨b',hx⟩
 ·simp only[AOp.fcall.injEq]at hx
  obtain⟨rfl,rfl⟩:=hx
  exact⟨cl,f0,h1,h2,h3,h4⟩
 ·simp at hx
theorem comp_eff {G:Nat->List T} {rw:Raws} {isL:Nat->Bool} {dst:Option Nat} {op:Op} {x:AOp} (h:compOne P I rw isL dst op=some x) (he:aeval G p s x=some e):compOp P I isL dst op=some x:=by
 have hyes: ∀{y:Option AOp},(do let x<- y;if isCall x then none else some x)=some x->y=some x:=by
  intro y hy
  simp only[Option.bind_eq_bind,Option.bind_eq_some_iff]at hy
  obtain⟨z,hz,hx⟩:=hy
  split at hx
  ·simp at hx
  ·simp only[Option.some.injEq]at hx;subst hx;exact hz
 unfold compOne at h
 split at h
 ·split at h
  ·simp only[Option.bind_eq_bind,Option.bind_eq_some_iff,Option.some.injEq]at h
   obtain⟨f1,hf1,as,has,h⟩:=h
   split at h<;>(subst h;simp[aeval]at he)
  ·exact hyes h
 ·exact hyes h
theorem upon_mono {K K':Act->World->Prop} {Q:Exit->Act->World->Prop} (h:o.wpIn (FW ro) 0 P a w K Q) (hk: ∀a w,K a w->K' a w):o.wpIn (FW ro) 0 P a w K' Q:=by
 obtain⟨h0,h⟩:=h
 refine⟨h0,?_⟩
 generalize(o.semAt (FW ro).round a.eval).run P w=r at *
 unfold Oper.uponIn at *
 split at h
 ·exact hk _ _ h
 ·exact hk _ _ h
 ·exact hk _ _ h
 ·refine⟨h.1,h.2.mono ?_⟩
  intro e w' he
  split at he
  ·exact hk _ _ he
  ·exact he
  ·exact he
 ·exact⟨h.1,h.2.mono fun v w' he=>hk _ _ he⟩
 ·refine⟨h.1,h.2.mono ?_⟩
  intro e w' he
  split at he
  ·exact hk _ _ he
  ·exact he
  ·exact he
 ·exact h
 ·exact h.elim
theorem comp_ndef {rw:Raws} {isL:Nat->Bool} {dst:Option Nat} {op:Op} {x:AOp} (h:compOne P I rw isL dst op=some x): ∀cl,op≠ .defer cl:=by
 rintro cl rfl
 simp[compOne,compOp]at h
theorem step_sound (hI:I.Ok N) (hst:StepG P N d p r s s') (hr:OpRel P I ns ops o r) (R:Rel N c ns A μ lam s a w) (hk:s.heap (s.bas+p)=none) (hn:s.bas+p<s.nxt) (Q:Exit->Act->World->Prop):
 if Region.wanted o (yielded ops a.tmps)then o.wpIn (FW ro) 0 P a w (fun a' w'=> ∃A' μ' lam',Rel N c ns A' μ' lam' s' a' w') Q
 else ∃A' μ' lam',Rel N c ns A' μ' lam' s' (a.put o.dst undef) w:=by
 have hdst:=hr.dst
 cases hst with
 | skip hw hf=>
   rw[wanted_eq R hr.guard hw,if_neg (by simp),hdst]at *
   exact⟨A,μ,lam,R.put o.dst {} undef hr.lt hf rfl rfl rfl rfl (by simp)⟩
 | eff hw hf he=>
   rw[wanted_eq R hr.guard hw,if_pos rfl,hdst]at *
   obtain⟨rw',isL,hop⟩:=hr.op
   obtain⟨v,w',A',μ',lam',hrun,R'⟩:=eff_sound hI R (comp_eff hop he) he hr.lt hf hk hn
   refine⟨fun _ _=>trivial,?_⟩
   rw[o.semAt_eq _ _ (comp_ndef hop)]
   rcases hrun with h | ⟨h,rfl⟩
   ·rw[h];exact⟨A',μ',lam',R'⟩
   ·rw[h];exact⟨A',μ',lam',R'⟩
 | pure hw hf ho hfv hfn hreal hvs hrs hc _=>
   rw[wanted_eq R hr.guard hw,if_pos rfl,hdst]at *
   obtain⟨rw',isL,hop⟩:=hr.op
   rw[ho]at hop
   obtain⟨cl,f0,h1,h2,h3,h4⟩:=comp_call hop
   exact pure_step hI R h1 h2 h3 h4 hfv hfn hreal hvs hrs hc hr.lt hf
 | raw hw hf ho hfv hfn hreal hvs hc hn hfr=>
   rw[wanted_eq R hr.guard hw,if_pos rfl,hdst]at *
   obtain⟨rw',isL,hop⟩:=hr.op
   rw[ho]at hop
   obtain⟨cl,f0,h1,h2,h3,h4⟩:=comp_call hop
   exact raw_step hI R h1 h2 h3 h4 hfv hfn hreal hvs hc hr.lt hf
 | fresh hw hf ho hfv hfn hreal hvs hrs hd hc he=>
   rw[wanted_eq R hr.guard hw,if_pos rfl,hdst]at *
   obtain⟨rw',isL,hop⟩:=hr.op
   rw[ho]at hop
   obtain⟨cl,f0,h1,h2,h3,h4⟩:=comp_fcall hop
   exact fresh_step hI R h1 h2 h3 h4 hfv hfn hreal hvs hrs hd hc he hr.lt hf hk hn
 | yld hw hf ho hfv hkk hvs hlen hca hk1 hcb hk2 hfr=>
   rw[wanted_eq R hr.guard hw,if_pos rfl,hdst]at *
   obtain⟨rw',isL,hop⟩:=hr.op
   rw[ho]at hop
   obtain⟨cl,f0,h1,h2,h3,h4⟩:=comp_call hop
   exact yield_step hI R h1 h2 h3 h4 hfv hkk hvs hlen hca hk1 hcb hk2 hr.lt hf
theorem StepG.free (hst:StepG P N d p r s s'):s'.bas=s.bas/\s.nxt<=s'.nxt/\ ∀k,k<s.nxt->k≠s.bas+p->s.heap k=none->s'.heap k=none:=by
 have hup: ∀(l:List (Nat×O)) (h:Nat->Option O) (k:Nat),(∀x∈l,x.1≠k)->hpUpd h l k=h k:=by
  intro l
  induction l with
  | nil=>intro h k _;rfl
  | cons x l ih=>
    intro h k hx
    obtain⟨q,o⟩:=x
    simp only[hpUpd]
    rw[ih _ k (fun y hy=>hx y (List.mem_cons_of_mem _ hy)),upd_other _ _ (Ne.symm (hx (q,o) (List.mem_cons_self)))]
 cases hst with
 | skip=>exact⟨rfl,Nat.le_refl _,fun k _ _ h=>h⟩
 | eff hw hf he=>
   refine⟨rfl,Nat.le_refl _,fun k hk hne h=> ?_⟩
   show hpUpd s.heap _ k=none
   rw[hup,h]
   intro x hx e
   rcases hp_keys he x hx with h1 | h1
   ·exact hne (e▸h1)
   ·rw[e,h]at h1;simp at h1
 | pure hw hf ho hfv hfn hreal hvs hrs hc _=>
   refine⟨rfl,Nat.le_refl _,fun k hk hne h=> ?_⟩
   show hpUpd s.heap _ k=none
   rw[hup,h]
   intro x hx e
   split at hx
   ·simp at hx
   ·simp only[freezes,List.mem_filterMap]at hx
    obtain⟨q,_,hq⟩:=hx
    split at hq
    ·rename_i hq2
     simp only[Option.some.injEq]at hq;subst hq
     simp only at e;subst e;rw[h]at hq2;simp at hq2
    ·simp at hq
 | raw hw hf ho hfv hfn hreal hvs hc hn hfr=>exact⟨rfl,hn,fun k hk _ h=>hfr k hk h⟩
 | fresh hw hf ho hfv hfn hreal hvs hrs hd hc he=>
   refine⟨rfl,Nat.le_refl _,fun k hk hne h=> ?_⟩
   show hpUpd s.heap _ k=none
   rw[hup,h]
   intro x hx e
   exact hne (e▸(ownR_key he x hx))
 | yld hw hf ho hfv hkk hvs hlen hca hk1 hcb hk2 hfr=>
   rename_i f args k vs env env1 env' ps ps1 ps' ca cb bd1 bd' e s1 s2
   refine⟨rfl,hfr.1,fun q hq _ h=> ?_⟩
   have h2:=hfr.2 q hq h
   show upd s2.heap k _ q=none
   rw[upd_other];exact h2
   rintro rfl;rw[hkk]at h;cases h
inductive Run (P:Program) (N:Nam) (d:Bool) (l:List ROp):List Nat->St->St->Prop where
 | nil {s:St}:Run P N d l [] s s
 | cons {i:Nat} {is:List Nat} {s s1 s2:St} {r:ROp} (hr:l[i]? =some r) (h1:StepG P N d i r s s1) (h2:Run P N d l is s1 s2):Run P N d l (i::is) s s2
theorem run_sound (hI:I.Ok N) {l:List ROp} (hl:ops.toList.length=l.length/\ ∀(i:Nat) (r:ROp),l[i]? =some r-> ∃o,ops.toList[i]? =some o/\OpRel P I ns ops o r) (Q:Exit->Act->World->Prop):
 ∀{is:List Nat} {s s':St} {A:Nat->Prop} {μ lam:Nat->Nat} {a:Act} {w:World},Run P N d l is s s'->is.Nodup->(∀i∈is,s.heap (s.bas+i)=none/\s.bas+i<s.nxt)->Rel N c ns A μ lam s a w->
  (∀a' w' A' μ' lam',Rel N c ns A' μ' lam' s' a' w'->Q .normal a' w')->wpOpsIn (FW ro) 0 P ops Q is a w:=by
 intro is
 induction is with
 | nil=>
   intro s s' A μ lam a w hrun _ _ R hQ
   cases hrun
   exact hQ a w A μ lam R
 | cons i is ih=>
   intro s s' A μ lam a w hrun hnd hfresh R hQ
   cases hrun with
   | cons hr h1 h2=>
     rename_i s1 r
     obtain⟨o,ho,hrel⟩:=hl.2 i r hr
     obtain⟨f1,f2⟩:=hfresh i List.mem_cons_self
     have hs:=step_sound (ro:=ro) hI h1 hrel R f1 f2 Q
     obtain⟨g1,g2,g3⟩:=h1.free
     have hnd':=List.nodup_cons.1 hnd
     have hfresh': ∀j∈is,s1.heap (s1.bas+j)=none/\s1.bas+j<s1.nxt:=by
      intro j hj
      obtain⟨e1,e2⟩:=hfresh j (List.mem_cons_of_mem _ hj)
      rw[g1]
      exact⟨g3 _ e2 (fun e=>hnd'.1 (by have:j=i:=by omega
                                       exact this▸hj)) e1,by omega⟩
     simp only[Array.getElem?_toList]at ho
     simp only[wpOpsIn,ho]
     split
     ·rename_i hw
      rw[if_pos hw]at hs
      refine upon_mono hs ?_
      rintro a' w' ⟨A',μ',lam',R'⟩
      exact ih h2 hnd'.2 hfresh' R' hQ
     ·rename_i hw
      rw[if_neg hw]at hs
      obtain⟨A',μ',lam',R'⟩:=hs
      exact⟨fun _ _=>trivial,ih h2 hnd'.2 hfresh' R' hQ⟩
end
end Rg
end
section
namespace Rg
open Go
def AOp.rdH:AOp->Bool
 | .load _ _ _ | .bstr _ | .nilchk _ | .faddr _ _ | .iaddrS _ _ _ | .iaddrA _ _ _ _ | .slice _ _ _ _ _ | .len _ | .lookup _ _ _ _ _ | .store _ _ _ | .append _ _ _ _ | .copy _ _ _ | .clear _ _ _ | .mapupd _ _ _ _ | .call _ _ _ | .fcall _ _ | .mkfnT _ _=>true
 | _=>false
def AOp.rdL:AOp->Bool
 | .loadL _ _ _ | .storeL _ _ _ | .faddrL _ _ | .iaddrAL _ _ _ _=>true
 | _=>false
def AOp.wrH:AOp->Bool
 | .store _ _ _ | .append _ _ _ _ | .copy _ _ _ | .clear _ _ _ | .mapupd _ _ _ _ | .mkfnT _ _=>true
 | _=>false
def AOp.wrL:AOp->Bool
 | .storeL _ _ _=>true
 | _=>false
def AOp.mkL:AOp->Bool
 | .allocL _ | .boxL _ _=>true
 | _=>false
section
variable {G:Nat->List T} {s u:St}
theorem evInt_congr {x:Opd} (h:evl G s x=evl G u x):evInt G s x=evInt G u x:=by simp only[evInt,h]
theorem evBool_congr {x:Opd} (h:evl G s x=evl G u x):evBool G s x=evBool G u x:=by simp only[evBool,h]
theorem evls_congr: ∀{l:List Opd},(∀x∈l,evl G s x=evl G u x)->evls G s l=evls G u l
 | [],_=>rfl
 | x::l,h=>by
   simp only[evls,h x List.mem_cons_self,evls_congr (fun y hy=>h y (List.mem_cons_of_mem _ hy))]
theorem evOpt_congr {d:Nat} {x:Option Opd} (h: ∀y∈x.toList,evl G s y=evl G u y):evOpt G s d x=evOpt G u d x:=by
 cases x with
 | none=>rfl
 | some y=>simp only[evOpt,evInt_congr (h y (by simp))]
theorem fillParts_congr: ∀{l:List (Nat×Nat×Opd)} {cs:List V},(∀x∈l.map (·.2.2),evl G s x=evl G u x)->fillParts G cs s l=fillParts G cs u l
 | [],_,_=>rfl
 | (a,b,x)::l,cs,h=>by
   have h1:=h x (by simp)
   have h2: ∀cs,fillParts G cs s l=fillParts G cs u l:=fun cs=>fillParts_congr (fun y hy=>h y (by simp at hy⊢;exact .inr hy))
   simp only[fillParts,h1,h2]
theorem fillRows_congr: ∀{l:List (Nat×Opd)} {rs:List (List V)} {sz:Nat},(∀x∈l.map (·.2),evl G s x=evl G u x)->fillRows G rs sz s l=fillRows G rs sz u l
 | [],_,_,_=>rfl
 | (a,x)::l,rs,sz,h=>by
   have h1:=h x (by simp)
   have h2: ∀rs,fillRows G rs sz s l=fillRows G rs sz u l:=fun rs=>fillRows_congr (fun y hy=>h y (by simp at hy⊢;exact .inr hy))
   simp only[fillRows,h1,h2]
theorem rowsOf_congr {v:V} (h: ∀k∈v.top,s.heap k=u.heap k):rowsOf s v=rowsOf u v:=by
 cases v with
 | ms k i l=>simp only[rowsOf];rw[h k (by simp[V.top])]
 | t x=>cases x<;>rfl
 | _=>rfl
theorem lenOf_congr {v:V} (h: ∀k∈v.top,s.heap k=u.heap k):lenOf s v=lenOf u v:=by
 cases v with
 | ms k i l=>simp only[lenOf];rw[h k (by simp[V.top])]
 | t x=>cases x<;>rfl
 | _=>rfl
theorem aeval_congr {p:Nat} {op:AOp} (hev: ∀x∈op.opds,evl G s x=evl G u x) (href: ∀x∈op.opds,refL s x=refL u x)
 (hloc:op.rdL=true-> ∀x∈op.opds,∀b o,refL s x=some (b,o)->s.loc b=u.loc b)
 (hheap:op.rdH=true-> ∀x∈op.opds,∀v,evl G s x=some v-> ∀k∈v.top,s.heap k=u.heap k) (hbas:s.bas=u.bas):aeval G p s op=aeval G p u op:=by
 cases op with
 | mv x=>simp only[aeval,hev x (by simp[AOp.opds])]
 | pick c a b=>
   have h1:=evBool_congr (hev c (by simp[AOp.opds]))
   have h2:=hev a (by simp[AOp.opds])
   have h3:=hev b (by simp[AOp.opds])
   simp only[aeval,h1]
   congr 1;funext t
   cases t<;>simp[h2,h3]
 | allocL c=>rfl
 | allocH c=>simp only[aeval,hbas]
 | allocB=>simp only[aeval,hbas]
 | bstr x=>
   simp only[aeval,<- hev x (by simp[AOp.opds])]
   cases hv:evl G s x with
   | none=>rfl
   | some v=>simp only[Option.bind_eq_bind,Option.bind_some,rowsOf_congr (hheap rfl x (by simp[AOp.opds]) v hv)]
 | boxL n x=>simp only[aeval,hev x (by simp[AOp.opds])]
 | boxH n x=>simp only[aeval,hev x (by simp[AOp.opds]),hbas]
 | build z ps=>simp only[aeval,fillParts_congr (s:=s) (u:=u) (l:=ps) hev]
 | bslice sz len z ps=>simp only[aeval,fillRows_congr (s:=s) (u:=u) (l:=ps) hev,hbas]
 | loadL ag n a=>
   simp only[aeval,<- href a (by simp[AOp.opds])]
   cases hr:refL s a with
   | none=>rfl
   | some bo=>obtain⟨b,o⟩:=bo;simp only[Option.bind_eq_bind,Option.bind_some,hloc rfl a (by simp[AOp.opds]) b o hr]
 | load ag n a=>
   simp only[aeval,<- hev a (by simp[AOp.opds])]
   cases hv:evl G s a with
   | none=>rfl
   | some v=>
     have:=hheap rfl a (by simp[AOp.opds]) v hv
     cases v with
     | mp k i off=>simp only[Option.bind_eq_bind,Option.bind_some];rw[this k (by simp[V.top])]
     | ms k i off=>simp only[Option.bind_eq_bind,Option.bind_some];try rw[this k (by simp[V.top])]
     | t x=>cases x<;>rfl
     | _=>rfl
 | storeL n a v=>
   simp only[aeval,<- href a (by simp[AOp.opds]),hev v (by simp[AOp.opds])]
   cases hr:refL s a with
   | none=>rfl
   | some bo=>obtain⟨b,o⟩:=bo;simp only[Option.bind_eq_bind,Option.bind_some,hloc rfl a (by simp[AOp.opds]) b o hr]
 | store n a x=>
   simp only[aeval,<- hev a (by simp[AOp.opds]),hev x (by simp[AOp.opds])]
   cases hv:evl G s a with
   | none=>rfl
   | some v=>
     have:=hheap rfl a (by simp[AOp.opds]) v hv
     cases v with
     | mp k i off=>simp only[Option.bind_eq_bind,Option.bind_some];rw[this k (by simp[V.top])]
     | ms k i off=>simp only[Option.bind_eq_bind,Option.bind_some];try rw[this k (by simp[V.top])]
     | t x=>cases x<;>rfl
     | _=>rfl
 | nilchk a=>
   simp only[aeval,<- hev a (by simp[AOp.opds])]
   cases hv:evl G s a with
   | none=>rfl
   | some v=>
     have:=hheap rfl a (by simp[AOp.opds]) v hv
     cases v with
     | mp k i off=>simp only[Option.bind_eq_bind,Option.bind_some];rw[this k (by simp[V.top])]
     | ms k i off=>simp only[Option.bind_eq_bind,Option.bind_some];try rw[this k (by simp[V.top])]
     | t x=>cases x<;>rfl
     | _=>rfl
 | bin op x y=>simp only[aeval,hev x (by simp[AOp.opds]),hev y (by simp[AOp.opds])]
 | mx mn x y=>simp only[aeval,hev x (by simp[AOp.opds]),hev y (by simp[AOp.opds])]
 | eqb n x y=>simp only[aeval,evBool_congr (hev x (by simp[AOp.opds])),evBool_congr (hev y (by simp[AOp.opds]))]
 | eqa n ks x y=>simp only[aeval,hev x (by simp[AOp.opds]),hev y (by simp[AOp.opds])]
 | un op x=>simp only[aeval,hev x (by simp[AOp.opds])]
 | conv k x=>simp only[aeval,evInt_congr (hev x (by simp[AOp.opds]))]
 | mkfn f a b=>simp only[aeval,evls_congr (s:=s) (u:=u) (l:=a) (fun x hx=>hev x (by simp[AOp.opds,hx])),evls_congr (s:=s) (u:=u) (l:=b) (fun x hx=>hev x (by simp[AOp.opds,hx]))]
 | mkfnT f a=>
   simp only[aeval,<- hev a (by simp[AOp.opds])]
   cases hv:evl G s a with
   | none=>rfl
   | some v=>
     have:=hheap rfl a (by simp[AOp.opds]) v hv
     cases v with
     | mp k i off=>simp only[Option.bind_eq_bind,Option.bind_some];rw[this k (by simp[V.top])]
     | ms k i off=>simp only[Option.bind_eq_bind,Option.bind_some];try rw[this k (by simp[V.top])]
     | t x=>cases x<;>rfl
     | _=>rfl
 | mkslice sz by_ z l c=>simp only[aeval,evInt_congr (hev l (by simp[AOp.opds])),evInt_congr (hev c (by simp[AOp.opds])),hbas]
 | slice sz x lo hi mx=>
   simp only[aeval,<- hev x (by simp[AOp.opds])]
   cases hv:evl G s x with
   | none=>rfl
   | some v=>
     have ht:=hheap rfl x (by simp[AOp.opds]) v hv
     have h1: ∀d,evOpt G s d hi=evOpt G u d hi:=fun d=>evOpt_congr (fun y hy=>hev y (by simp only[AOp.opds];simp at hy⊢;simp[hy]))
     have h2: ∀d,evOpt G s d lo=evOpt G u d lo:=fun d=>evOpt_congr (fun y hy=>hev y (by simp only[AOp.opds];simp at hy⊢;simp[hy]))
     simp only[Option.bind_eq_bind,Option.bind_some,lenOf_congr ht,h1,h2]
     cases mx with
     | none=>
       cases v with
       | ms k i l=>simp only;rw[ht k (by simp[V.top])]
       | t x=>cases x<;>rfl
       | _=>rfl
     | some m=>simp only[evInt_congr (hev m (by simp[AOp.opds]))]
 | slstr x lo hi=>
   have h1: ∀d,evOpt G s d hi=evOpt G u d hi:=fun d=>evOpt_congr (fun y hy=>hev y (by simp only[AOp.opds];simp at hy⊢;simp[hy]))
   have h2: ∀d,evOpt G s d lo=evOpt G u d lo:=fun d=>evOpt_congr (fun y hy=>hev y (by simp only[AOp.opds];simp at hy⊢;simp[hy]))
   simp only[aeval,hev x (by simp[AOp.opds]),h1,h2]
 | faddrL off x=>
   simp only[aeval,<- href x (by simp[AOp.opds])]
   cases hr:refL s x with
   | none=>rfl
   | some bo=>obtain⟨b,o⟩:=bo;simp only[Option.bind_eq_bind,Option.bind_some,hloc rfl x (by simp[AOp.opds]) b o hr]
 | faddr off a=>
   simp only[aeval,<- hev a (by simp[AOp.opds])]
   cases hv:evl G s a with
   | none=>rfl
   | some v=>
     have:=hheap rfl a (by simp[AOp.opds]) v hv
     cases v with
     | mp k i off=>simp only[Option.bind_eq_bind,Option.bind_some];rw[this k (by simp[V.top])]
     | ms k i off=>simp only[Option.bind_eq_bind,Option.bind_some];try rw[this k (by simp[V.top])]
     | t x=>cases x<;>rfl
     | _=>rfl
 | field ag off n x=>simp only[aeval,hev x (by simp[AOp.opds])]
 | iaddrS sz x i=>
   simp only[aeval,<- hev x (by simp[AOp.opds]),evInt_congr (hev i (by simp[AOp.opds]))]
   cases hv:evl G s x with
   | none=>rfl
   | some v=>
     have:=hheap rfl x (by simp[AOp.opds]) v hv
     cases v with
     | mp k i off=>simp only[Option.bind_eq_bind,Option.bind_some];try rw[this k (by simp[V.top])]
     | ms k i off=>simp only[Option.bind_eq_bind,Option.bind_some];try rw[this k (by simp[V.top])]
     | t x=>cases x<;>rfl
     | _=>rfl
 | iaddrAL len sz x i=>
   simp only[aeval,<- href x (by simp[AOp.opds]),evInt_congr (hev i (by simp[AOp.opds]))]
   cases hr:refL s x with
   | none=>rfl
   | some bo=>obtain⟨b,o⟩:=bo;simp only[Option.bind_eq_bind,Option.bind_some,hloc rfl x (by simp[AOp.opds]) b o hr]
 | iaddrA len sz x i=>
   simp only[aeval,<- hev x (by simp[AOp.opds]),evInt_congr (hev i (by simp[AOp.opds]))]
   cases hv:evl G s x with
   | none=>rfl
   | some v=>
     have:=hheap rfl x (by simp[AOp.opds]) v hv
     cases v with
     | mp k i off=>simp only[Option.bind_eq_bind,Option.bind_some];rw[this k (by simp[V.top])]
     | ms k i off=>simp only[Option.bind_eq_bind,Option.bind_some];try rw[this k (by simp[V.top])]
     | t x=>cases x<;>rfl
     | _=>rfl
 | idxA ag len sz x i=>simp only[aeval,hev x (by simp[AOp.opds]),evInt_congr (hev i (by simp[AOp.opds]))]
 | idxS x i=>simp only[aeval,hev x (by simp[AOp.opds]),evInt_congr (hev i (by simp[AOp.opds]))]
 | extr x i=>simp only[aeval,hev x (by simp[AOp.opds])]
 | len x=>
   simp only[aeval,<- hev x (by simp[AOp.opds])]
   cases hv:evl G s x with
   | none=>rfl
   | some v=>
     have:=hheap rfl x (by simp[AOp.opds]) v hv
     simp only[Option.bind_eq_bind,Option.bind_some,lenOf_congr this]
 | slen x=>simp only[aeval,hev x (by simp[AOp.opds])]
 | lenA n=>rfl
 | capN x=>simp only[aeval,hev x (by simp[AOp.opds])]
 | stop=>rfl
 | appz sz by_ z x l=>simp only[aeval,hev x (by simp[AOp.opds]),evInt_congr (hev l (by simp[AOp.opds])),hbas]
 | append sz by_ x y=>
   simp only[aeval,<- hev x (by simp[AOp.opds]),<- hev y (by simp[AOp.opds])]
   cases hv:evl G s x with
   | none=>rfl
   | some v=>
     cases hw:evl G s y with
     | none=>rfl
     | some z=>
       have h1:=hheap rfl x (by simp[AOp.opds]) v hv
       have h2:=hheap rfl y (by simp[AOp.opds]) z hw
       simp only[Option.bind_eq_bind,Option.bind_some,rowsOf_congr h1,rowsOf_congr h2,hbas]
       cases v with
       | ms k i l=>simp only;rw[h1 k (by simp[V.top])]
       | t x=>cases x<;>rfl
       | _=>rfl
 | clear sz z x=>
   simp only[aeval,<- hev x (by simp[AOp.opds])]
   cases hv:evl G s x with
   | none=>rfl
   | some v=>
     have:=hheap rfl x (by simp[AOp.opds]) v hv
     cases v with
     | ms k i off=>simp only[Option.bind_eq_bind,Option.bind_some];rw[this k (by simp[V.top])]
     | t x=>cases x<;>rfl
     | _=>rfl
 | copy sz x y=>
   simp only[aeval,<- hev x (by simp[AOp.opds]),<- hev y (by simp[AOp.opds])]
   cases hv:evl G s x with
   | none=>rfl
   | some v=>
     cases hw:evl G s y with
     | none=>rfl
     | some z=>
       have h1:=hheap rfl x (by simp[AOp.opds]) v hv
       have h2:=hheap rfl y (by simp[AOp.opds]) z hw
       simp only[Option.bind_eq_bind,Option.bind_some,rowsOf_congr h2]
       cases v with
       | ms k i l=>simp only;rw[h1 k (by simp[V.top])]
       | t x=>cases x<;>rfl
       | _=>rfl
 | mkmap=>simp only[aeval,hbas]
 | lookup kd z ok m k=>
   simp only[aeval,<- hev m (by simp[AOp.opds]),hev k (by simp[AOp.opds])]
   cases hv:evl G s m with
   | none=>rfl
   | some v=>
     have h1:=hheap rfl m (by simp[AOp.opds]) v hv
     cases v with
     | mm j=>simp only[Option.bind_eq_bind,Option.bind_some];rw[h1 j (by simp[V.top])]
     | t x=>cases x<;>rfl
     | _=>rfl
 | mapupd kd m k v=>
   simp only[aeval,<- hev m (by simp[AOp.opds]),hev k (by simp[AOp.opds]),hev v (by simp[AOp.opds])]
   cases hv:evl G s m with
   | none=>rfl
   | some z=>
     have h1:=hheap rfl m (by simp[AOp.opds]) z hv
     cases z with
     | mm j=>simp only[Option.bind_eq_bind,Option.bind_some];rw[h1 j (by simp[V.top])]
     | t x=>cases x<;>rfl
     | _=>rfl
 | call r f as=>rfl
 | fcall f args=>rfl
end
end Rg
end
