/- Part of the proof of the laws of the package relyguardlaw36: an abstract machine for the program's functions, what they compute, and that the machine is the program's. No condition. (RgW RgX) -/
import Derived.Test.YtaiokglcgiemnaaGreatDoorPartAM
import Derived.Laws.BitsLemmas
import Derived.Attr
section
namespace Rg
open Go
def rootOf (E:List (Nat×Nat)) (t:Nat):Nat:=(E.lookup t).getD t
def opWr (E:List (Nat×Nat)) (o:ROp):List Nat:=
 o.dst.toList++(match o.op with | .storeL _ (.s t) _=>[rootOf E t] | _=>[])
def opE (E:List (Nat×Nat)) (o:ROp):List (Nat×Nat):=
 match o.dst with
 | none=>E
 | some d=>match o.op with
   | .faddrL _ (.s x)=>(d,rootOf E x)::E
   | .iaddrAL _ _ (.s x) _=>(d,rootOf E x)::E
   | _=>(d,d)::E
def opsIn (W:List Nat):List (Nat×Nat)->List ROp->Bool
 | _,[]=>true
 | E,o::l=>(opWr E o).all (W.contains ·)&&opsIn W (opE E o) l
def C.wrIn (W:List Nat):C->Bool
 | .skip | .ret | .exit _ | .ext _=>true
 | .region _ l=>opsIn W [] l
 | .regionD _ l=>opsIn W [] l
 | .seq a b=>a.wrIn W&&b.wrIn W
 | .cond _ a b=>a.wrIn W&&b.wrIn W
 | .block _ b=>b.wrIn W
 | .loop b=>b.wrIn W
 | .rangeF _ _ _=>true
 | .round _ _=>true
def AOp.noH:AOp->Bool
 | .allocH _ | .allocB | .mkfnT _ _ | .boxH _ _ | .bslice _ _ _ _ | .store _ _ _ | .mkslice _ _ _ _ _ | .appz _ _ _ _ _ | .append _ _ _ _ | .copy _ _ _ | .clear _ _ _ | .mkmap | .mapupd _ _ _ _=>false
 | .call r _ _=> !r
 | .fcall _ _=>false
 | _=>true
def C.noH:C->Bool
 | .skip | .ret | .exit _ | .ext _=>true
 | .region _ l=>l.all fun o=>o.op.noH
 | .regionD _ l=>l.all fun o=>o.op.noH
 | .seq a b=>a.noH&&b.noH
 | .cond _ a b=>a.noH&&b.noH
 | .block _ b=>b.noH
 | .loop b=>b.noH
 | .rangeF _ _ _=>false
 | .round _ _=>false
def SameOff (W:List Nat) (s s':St):Prop:= ∀t,W.contains t=false->s'.env t=s.env t/\s'.loc t=s.loc t
theorem SameOff.refl (W:List Nat) (s:St):SameOff W s s:=fun _ _=>⟨rfl,rfl⟩
theorem SameOff.trans {W:List Nat} {a b c:St} (h1:SameOff W a b) (h2:SameOff W b c):SameOff W a c:=
 fun t ht=>⟨(h2 t ht).1.trans (h1 t ht).1,(h2 t ht).2.trans (h1 t ht).2⟩
def RootOk (E:List (Nat×Nat)) (s:St):Prop:= ∀t,(∀b o,s.adr t=some (b,o)->rootOf E t=b)/\(s.adr t=none->s.env t= .lb->rootOf E t=t)
theorem refL_root {E:List (Nat×Nat)} {s:St} {t b o:Nat} (h:RootOk E s) (hr:refL s (.s t)=some (b,o)):rootOf E t=b:=by
 simp only[refL]at hr
 split at hr
 ·rename_i r hr'
  simp only[Option.some.injEq]at hr
  subst hr
  exact(h t).1 b o hr'
 ·rename_i hn
  split at hr
  ·rename_i hl
   simp only[Option.some.injEq,Prod.mk.injEq]at hr
   obtain⟨rfl,_⟩:=hr
   exact(h t).2 hn hl
  ·simp at hr
theorem rootOf_cons (d x t:Nat) (E:List (Nat×Nat)):rootOf ((d,x)::E) t=if t=d then x else rootOf E t:=by
 simp only[rootOf,List.lookup]
 by_cases h:t=d
 ·subst h;simp
 ·simp[h,beq_eq_false_iff_ne.2 h]
theorem sh_adr {G:Nat->List T} {p:Nat} {s:St} {op:AOp} {e:Eff} (h:aeval G p s op=some e) (hn:isAdr op=false):e.adr=none:=by
 cases op
 all_goals(try(simp[isAdr]at hn;done))
 all_goals simp only[aeval,Option.bind_eq_bind,Option.bind_eq_some_iff,Option.some.injEq,Prod.exists]at h
 all_goals(try(repeat(first | (obtain⟨_,_,h⟩:=h) | split at h | (simp only[Option.bind_eq_some_iff,Option.some.injEq]at h))))
 all_goals(try(repeat(first | (obtain⟨_,_,h⟩:=h) | split at h | (simp only[Option.bind_eq_some_iff,Option.some.injEq]at h))))
 all_goals(try(repeat(first | (obtain⟨_,_,h⟩:=h) | split at h | (simp only[Option.bind_eq_some_iff]at h))))
 all_goals(try(repeat(first | (obtain⟨_,_,h⟩:=h) | split at h | (simp only[Option.bind_eq_some_iff]at h))))
 all_goals(try(simp at h;done))
 all_goals(try(obtain⟨_,_,rfl⟩:=h))
 all_goals(try subst h)
 all_goals rfl
theorem refL_s {s:St} {x:Opd} {b o:Nat} (h:refL s x=some (b,o)): ∃t,x= .s t:=by
 cases x with
 | s t=>exact⟨t,rfl⟩
 | c v=>simp[refL]at h
 | g k=>simp[refL]at h
theorem aeval_faddrL {G:Nat->List T} {p:Nat} {s:St} {off:Nat} {x:Opd} {e:Eff} {E:List (Nat×Nat)} (h:RootOk E s) (he:aeval G p s (.faddrL off x)=some e):
 ∃t o,x= .s t/\e.adr=some (rootOf E t,o):=by
 simp only[aeval,Option.bind_eq_bind,Option.bind_eq_some_iff,Option.some.injEq,Prod.exists]at he
 obtain⟨b,o,hr,cs,hcs,rfl⟩:=he
 obtain⟨t,rfl⟩:=refL_s hr
 exact⟨t,o+off,rfl,by rw[refL_root h hr]⟩
theorem aeval_iaddrAL {G:Nat->List T} {p:Nat} {s:St} {len sz:Nat} {x i:Opd} {e:Eff} {E:List (Nat×Nat)} (h:RootOk E s) (he:aeval G p s (.iaddrAL len sz x i)=some e):
 ∃t o,x= .s t/\e.adr=some (rootOf E t,o):=by
 simp only[aeval,Option.bind_eq_bind,Option.bind_eq_some_iff,Prod.exists]at he
 obtain⟨n,hn,b,o,hr,cs,hcs,he⟩:=he
 obtain⟨t,rfl⟩:=refL_s hr
 split at he
 ·simp only[Option.some.injEq]at he
  subst he
  exact⟨t,o+n.toNat*sz,rfl,by rw[refL_root h hr]⟩
 ·simp at he
theorem aeval_wloc {G:Nat->List T} {p:Nat} {s:St} {op:AOp} {e:Eff} {E:List (Nat×Nat)} {b:Nat} {cs:List V} (h:RootOk E s) (he:aeval G p s op=some e) (hb:e.wloc=some (b,cs)):
 ∃n t v,op= .storeL n (.s t) v/\rootOf E t=b:=by
 by_cases hw:op.wrL=true
 ·cases op<;>simp[AOp.wrL]at hw
  rename_i n x v
  simp only[aeval,Option.bind_eq_bind,Option.bind_eq_some_iff,Prod.exists]at he
  obtain⟨b',o,hr,cs',hcs',v',hv',new,hnew,he⟩:=he
  split at he
  ·simp only[Option.bind_eq_some_iff,Option.some.injEq]at he
   obtain⟨cs2,hcs2,rfl⟩:=he
   simp only[Option.some.injEq,Prod.mk.injEq]at hb
   obtain⟨rfl,_⟩:=hb
   obtain⟨t,rfl⟩:=refL_s hr
   exact⟨n,t,v,rfl,refL_root h hr⟩
  ·simp at he
 ·have:=sh_wloc he (by simpa using hw)
  rw[this]at hb;simp at hb
theorem apply_off {G:Nat->List T} {p:Nat} {s:St} {o:ROp} {e:Eff} {E:List (Nat×Nat)} {W:List Nat} (h:RootOk E s) (he:aeval G p s o.op=some e) (hw:(opWr E o).all (W.contains ·)=true):
 SameOff W s (s.apply o.dst e)/\RootOk (opE E o) (s.apply o.dst e):=by
 have hall: ∀x∈opWr E o,W.contains x=true:=by simpa using hw
 constructor
 ·intro t ht
  have hd: ∀d,o.dst=some d->t≠d:=by
   rintro d hd rfl
   have:=hall t (by simp[opWr,hd])
   rw[this]at ht;simp at ht
  have hwl: ∀b cs,e.wloc=some (b,cs)->t≠b:=by
   rintro b cs hb rfl
   obtain⟨n,t',v,ho,hr⟩:=aeval_wloc h he hb
   have:=hall t (by simp[opWr,ho,hr])
   rw[this]at ht;simp at ht
  have hbase:(match e.wloc with | some (b,cs)=>upd s.loc b (some cs) | none=>s.loc) t=s.loc t:=by
   cases hq:e.wloc with
   | none=>rfl
   | some x=>obtain⟨b,cs⟩:=x;exact upd_other _ _ (hwl b cs hq)
  cases hdst:o.dst with
  | none=>exact⟨rfl,hbase⟩
  | some d=>exact⟨upd_other _ _ (hd d hdst),by simp only[St.apply];rw[upd_other _ _ (hd d hdst)];exact hbase⟩
 ·intro t
  cases hdst:o.dst with
  | none=>simp only[opE,hdst];exact h t
  | some d=>
    by_cases htd:t=d
    ·subst htd
     simp only[opE,hdst,St.apply,upd_same]
     by_cases ha:isAdr o.op=true
     ·cases hop:o.op<;>rw[hop]at ha<;>simp[isAdr]at ha
      ·rw[hop]at he
       obtain⟨t',o',rfl,hadr⟩:=aeval_faddrL h he
       simp only[rootOf_cons,hadr]
       exact⟨fun b o hb=>by simp only[Option.some.injEq,Prod.mk.injEq]at hb;exact hb.1,by simp⟩
      ·rw[hop]at he
       obtain⟨t',o',rfl,hadr⟩:=aeval_iaddrAL h he
       simp only[rootOf_cons,hadr]
       exact⟨fun b o hb=>by simp only[Option.some.injEq,Prod.mk.injEq]at hb;exact hb.1,by simp⟩
     ·have hn:=sh_adr he (by simpa using ha)
      rw[hn]
      refine⟨by simp,fun _ _=> ?_⟩
      split
      ·rename_i hx;rw[hx]at ha;simp[isAdr]at ha
      ·rename_i hx;rw[hx]at ha;simp[isAdr]at ha
      ·simp[rootOf_cons]
    ·have h1:(s.apply (some d) e).adr t=s.adr t:=upd_other _ _ htd
     have h2:(s.apply (some d) e).env t=s.env t:=upd_other _ _ htd
     have h3:rootOf (opE E o) t=rootOf E t:=by
      simp only[opE,hdst]
      split<;>simp[rootOf_cons,htd]
     rw[h1,h2,h3];exact h t
theorem put_off {s:St} {o:ROp} {v:V} {hp:List (Nat×O)} {E:List (Nat×Nat)} {W:List Nat} (h:RootOk E s) (hv:v≠ .lb\/isAdr o.op=false) (hw:(opWr E o).all (W.contains ·)=true):
 SameOff W s (s.apply o.dst { val:=v,hp:=hp })/\RootOk (opE E o) (s.apply o.dst { val:=v,hp:=hp }):=by
 have hall: ∀x∈opWr E o,W.contains x=true:=by simpa using hw
 constructor
 ·intro t ht
  have hd: ∀d,o.dst=some d->t≠d:=by
   rintro d hd rfl
   have:=hall t (by simp[opWr,hd])
   rw[this]at ht;simp at ht
  cases hdst:o.dst with
  | none=>exact⟨rfl,rfl⟩
  | some d=>exact⟨upd_other _ _ (hd d hdst),by simp only[St.apply];rw[upd_other _ _ (hd d hdst)]⟩
 ·intro t
  cases hdst:o.dst with
  | none=>simp only[opE,hdst];exact h t
  | some d=>
    by_cases htd:t=d
    ·subst htd
     simp only[St.apply,upd_same]
     refine⟨by simp,fun _ h=> ?_⟩
     rcases hv with hv | hv
     ·exact absurd h hv
     ·simp only[opE,hdst]
      split
      ·rename_i hx;rw[hx]at hv;simp[isAdr]at hv
      ·rename_i hx;rw[hx]at hv;simp[isAdr]at hv
      ·simp[rootOf_cons]
    ·have h1:(s.apply (some d) { val:=v,hp:=hp }).adr t=s.adr t:=upd_other _ _ htd
     have h2:(s.apply (some d) { val:=v,hp:=hp }).env t=s.env t:=upd_other _ _ htd
     have h3:rootOf (opE E o) t=rootOf E t:=by
      simp only[opE,hdst]
      split<;>simp[rootOf_cons,htd]
     rw[h1,h2,h3];exact h t
theorem begin_off (W:List Nat) (s:St) (n:Nat):SameOff W s (s.begin n)/\RootOk [] (s.begin n):=
 ⟨fun _ _=>⟨rfl,rfl⟩,fun t=>⟨fun b o h=>by simp[St.begin]at h,fun _ _=>by simp[rootOf]⟩⟩
def Keeps (W:List Nat):Task->Out->Prop
 | .code c s,.code _ s'=>c.wrIn W=true->SameOff W s s'
 | .loop c s,.code _ s'=>c.wrIn W=true->SameOff W s s'
 | .ops _ _ l s,.ops s'=> ∀E,RootOk E s->opsIn W E l=true->SameOff W s s'
 | _,_=>True
theorem big_keeps {Γ:Nat->Option F} {G:Nat->List T} {W:List Nat} {t:Task} {o:Out} (h:Big Γ G t o):Keeps W t o:=by
 induction h with
 | skip=>intro _;exact .refl _ _
 | ret=>intro _;exact .refl _ _
 | exit=>intro _;exact .refl _ _
 | region h ih=>intro hw;exact(begin_off W _ _).1.trans (ih [] (begin_off W _ _).2 hw)
 | regionD h _ ih=>intro hw;exact(begin_off W _ _).1.trans (ih [] (begin_off W _ _).2 hw)
 | seqN h1 h2 ih1 ih2=>
   intro hw
   simp only[C.wrIn,Bool.and_eq_true]at hw
   exact(ih1 hw.1).trans (ih2 hw.2)
 | seqX h1 he ih1=>
   intro hw
   simp only[C.wrIn,Bool.and_eq_true]at hw
   exact ih1 hw.1
 | cond hc h ih=>
   rename_i t
   intro hw
   simp only[C.wrIn,Bool.and_eq_true]at hw
   cases t with
   | true=>exact ih hw.1
   | false=>exact ih hw.2
 | block h ih=>intro hw;exact ih hw
 | loop h ih=>intro hw;exact ih hw
 | loopN h1 h2 ih1 ih2=>intro hw;exact(ih1 hw).trans (ih2 hw)
 | loopX h1 he ih1=>intro hw;exact ih1 hw
 | opsNil=>intro E _ _;exact .refl _ _
 | opsSkip hw hf h ih=>
   intro E hE hin
   simp only[opsIn,Bool.and_eq_true]at hin
   obtain⟨h1,h2⟩:=put_off (v:=.undef) (hp:=[]) hE (.inl (by simp)) hin.1
   exact h1.trans (ih _ h2 hin.2)
 | opsEff hw hf he h ih=>
   intro E hE hin
   simp only[opsIn,Bool.and_eq_true]at hin
   obtain⟨h1,h2⟩:=apply_off hE he hin.1
   exact h1.trans (ih _ h2 hin.2)
 | opsPure hw hf ho hfv hfn hg hr0 hvs hrs hc hd h ihc ih=>
   intro E hE hin
   simp only[opsIn,Bool.and_eq_true]at hin
   obtain⟨h1,h2⟩:=put_off hE (.inr (by rw[ho];rfl)) hin.1
   exact h1.trans (ih _ h2 hin.2)
 | opsRaw hw hf ho hfv hfn hg hr0 hvs hc h ihc ih=>
   rename_i d p s s' o l f args fv g a b vs fn r h' n'
   intro E hE hin
   simp only[opsIn,Bool.and_eq_true]at hin
   have hE':RootOk E { s with heap:=h',nxt:=n' }:=hE
   obtain⟨h1,h2⟩:=put_off (v:=r) (hp:=[]) hE' (.inr (by rw[ho];rfl)) hin.1
   have h3:SameOff W s { s with heap:=h',nxt:=n' }:=fun _ _=>⟨rfl,rfl⟩
   exact h3.trans (h1.trans (ih _ h2 hin.2))
 | rangeF=>intro _;exact fun _ _=>⟨rfl,rfl⟩
 | opsYield hw hf ho hfv hkk hvs hlen hca hk1 hcb hk2 h iha ihb ih=>
   rename_i d p s s' s1 s2 o l f args k vs env env1 env' ps ps1 ps' ca cb bd1 bd' e
   intro E hE hin
   simp only[opsIn,Bool.and_eq_true]at hin
   have hE':RootOk E { s with heap:=upd s2.heap k (some (.loop env' ps' bd' e.toL)),nxt:=s2.nxt }:=hE
   obtain⟨h1,h2⟩:=put_off (v:=.t (.bool (decide (e=Ex.normal)))) (hp:=[]) hE' (.inr (by rw[ho];rfl)) hin.1
   have h3:SameOff W s { s with heap:=upd s2.heap k (some (.loop env' ps' bd' e.toL)),nxt:=s2.nxt }:=fun _ _=>⟨rfl,rfl⟩
   exact h3.trans (h1.trans (ih _ h2 hin.2))
 | opsFresh hw hf ho hfv hfn hg hr0 hvs hrs hd hc he h ihc ih=>
   rename_i e
   intro E hE hin
   simp only[opsIn,Bool.and_eq_true]at hin
   obtain⟨s1,s2,s3⟩:=ownR_shape he
   obtain⟨ev,ea,el,ew,eh⟩:=e
   simp only at s1 s2 s3
   subst s1;subst s2;subst s3
   obtain⟨h1,h2⟩:=put_off hE (.inr (by rw[ho];rfl)) hin.1
   exact h1.trans (ih _ h2 hin.2)
 | pcall=>trivial
 | rcall=>trivial
 | rext=>trivial
 | pext=>trivial
def Frozen (h h':Nat->Option O):Prop:= ∀k,(h k=none->h' k=none)/\ ∀o,h k=some o->h' k=some o\/ ∃sz rs b,o= .rows sz rs b/\h' k=some (.rows sz rs true)
theorem Frozen.refl (h:Nat->Option O):Frozen h h:=fun _=>⟨fun h=>h,fun _ h=> .inl h⟩
theorem Frozen.trans {a b c:Nat->Option O} (h1:Frozen a b) (h2:Frozen b c):Frozen a c:=fun k=>⟨fun h=>(h2 k).1 ((h1 k).1 h),fun o h=>by
 rcases(h1 k).2 o h with hq | ⟨sz,rs,z,rfl,hq⟩
 ·exact(h2 k).2 o hq
 ·rcases(h2 k).2 _ hq with hr | ⟨sz',rs',z',hb,hr⟩
  ·exact .inr ⟨sz,rs,z,rfl,hr⟩
  ·cases hb;exact .inr ⟨sz,rs,z,rfl,hr⟩⟩
theorem freezes_frozen (h:Nat->Option O) (l:List Nat):Frozen h (hpUpd h (freezes h l)):=by
 have key: ∀(l:List Nat) (g:Nat->Option O),Frozen h g->Frozen h (hpUpd g (freezes h l)):=by
  intro l
  induction l with
  | nil=>intro g hg;exact hg
  | cons x l ih=>
    intro g hg
    cases hx:h x with
    | none=>simpa[freezes,hx]using ih g hg
    | some o=>
      cases o with
      | rows sz rs b=>
        have:freezes h (x::l)=(x,.rows sz rs true)::freezes h l:=by simp[freezes,hx]
        rw[this]
        simp only[hpUpd]
        refine ih _ fun k=> ?_
        by_cases hk:k=x
        ·subst hk
         refine⟨fun hn=>by simp[hx]at hn,fun o ho=> ?_⟩
         rw[hx]at ho;cases ho
         exact .inr ⟨sz,rs,b,rfl,by simp⟩
        ·rw[upd_other _ _ hk];exact hg k
      | map es=>simpa[freezes,hx]using ih g hg
      | loop _ _ _ _=>simpa[freezes,hx]using ih g hg
      | raw _=>simpa[freezes,hx]using ih g hg
      | dead=>simpa[freezes,hx]using ih g hg
 exact key l h (.refl h)
theorem noH_hp {G:Nat->List T} {p:Nat} {s:St} {op:AOp} {e:Eff} (h:aeval G p s op=some e) (hn:op.noH=true):e.hp=[]:=by
 cases op
 all_goals(try(simp[AOp.noH]at hn;done))
 all_goals simp only[aeval,Option.bind_eq_bind,Option.bind_eq_some_iff,Option.some.injEq,Prod.exists]at h
 all_goals(try(repeat(first | (obtain⟨_,_,h⟩:=h) | split at h | (simp only[Option.bind_eq_some_iff,Option.some.injEq]at h))))
 all_goals(try(repeat(first | (obtain⟨_,_,h⟩:=h) | split at h | (simp only[Option.bind_eq_some_iff,Option.some.injEq]at h))))
 all_goals(try(repeat(first | (obtain⟨_,_,h⟩:=h) | split at h | (simp only[Option.bind_eq_some_iff]at h))))
 all_goals(try(repeat(first | (obtain⟨_,_,h⟩:=h) | split at h | (simp only[Option.bind_eq_some_iff]at h))))
 all_goals(try(simp at h;done))
 all_goals(try(obtain⟨_,_,rfl⟩:=h))
 all_goals(try subst h)
 all_goals rfl
def KeepsH:Task->Out->Prop
 | .code c s,.code _ s'=>c.noH=true->Frozen s.heap s'.heap
 | .loop c s,.code _ s'=>c.noH=true->Frozen s.heap s'.heap
 | .ops _ _ l s,.ops s'=>(l.all fun o=>o.op.noH)=true->Frozen s.heap s'.heap
 | _,_=>True
theorem big_keepsH {Γ:Nat->Option F} {G:Nat->List T} {t:Task} {o:Out} (h:Big Γ G t o):KeepsH t o:=by
 induction h with
 | skip=>intro _;exact .refl _
 | ret=>intro _;exact .refl _
 | exit=>intro _;exact .refl _
 | region h ih=>intro hw;exact ih hw
 | regionD h _ ih=>intro hw;exact ih hw
 | seqN h1 h2 ih1 ih2=>
   intro hw
   simp only[C.noH,Bool.and_eq_true]at hw
   exact(ih1 hw.1).trans (ih2 hw.2)
 | seqX h1 he ih1=>
   intro hw
   simp only[C.noH,Bool.and_eq_true]at hw
   exact ih1 hw.1
 | cond hc h ih=>
   rename_i t
   intro hw
   simp only[C.noH,Bool.and_eq_true]at hw
   cases t with
   | true=>exact ih hw.1
   | false=>exact ih hw.2
 | block h ih=>intro hw;exact ih hw
 | loop h ih=>intro hw;exact ih hw
 | loopN h1 h2 ih1 ih2=>intro hw;exact(ih1 hw).trans (ih2 hw)
 | loopX h1 he ih1=>intro hw;exact ih1 hw
 | opsNil=>intro _;exact .refl _
 | opsSkip hw hf h ih=>
   intro hin
   simp only[List.all_cons,Bool.and_eq_true]at hin
   exact ih hin.2
 | opsEff hw hf he h ih=>
   intro hin
   simp only[List.all_cons,Bool.and_eq_true]at hin
   have:=ih hin.2
   simp only[St.apply,noH_hp he hin.1,hpUpd]at this
   exact this
 | opsPure hw hf ho hfv hfn hg hr0 hvs hrs hc hd h ihc ih=>
   rename_i d p s s' o l f args fv g a b vs rs fn r
   intro hin
   simp only[List.all_cons,Bool.and_eq_true]at hin
   have h2:=ih hin.2
   simp only[St.apply]at h2
   refine Frozen.trans ?_ h2
   split
   ·exact .refl _
   ·exact freezes_frozen _ _
 | opsRaw hw hf ho hfv hfn hg hr0 hvs hc h ihc ih=>
   intro hin
   simp only[List.all_cons,Bool.and_eq_true]at hin
   rw[ho]at hin
   simp[AOp.noH]at hin
 | opsFresh hw hf ho hfv hfn hg hr0 hvs hrs hd hc he h ihc ih=>
   intro hin
   simp only[List.all_cons,Bool.and_eq_true]at hin
   rw[ho]at hin
   simp[AOp.noH]at hin
 | rangeF=>intro hw;simp[C.noH]at hw
 | opsYield hw hf ho hfv hkk hvs hlen hca hk1 hcb hk2 h iha ihb ih=>
   intro hin
   simp only[List.all_cons,Bool.and_eq_true]at hin
   rw[ho]at hin
   simp[AOp.noH]at hin
 | pcall=>trivial
 | rcall=>trivial
 | rext=>trivial
 | pext=>trivial
theorem Frozen.none {h':Nat->Option O} (h:Frozen (fun _=>Option.none) h'):h'=fun _=>Option.none:=by
 funext k;exact(h k).1 rfl
def ovr (W:List Nat) (f g:Nat->Slot):Nat->Slot:=fun t=>{ v:=if W.contains t then(f t).v else(g t).v,box:=if W.contains t then(f t).box else(g t).box,ad:=(f t).ad }
theorem ovr_v (W:List Nat) (f g:Nat->Slot) (t:Nat):(ovr W f g t).v=if W.contains t then(f t).v else(g t).v:=rfl
theorem ovr_box (W:List Nat) (f g:Nat->Slot) (t:Nat):(ovr W f g t).box=if W.contains t then(f t).box else(g t).box:=rfl
theorem ovr_eq {W:List Nat} {m m':M} (h:SameOff W m.st m'.st):m'=⟨ovr W m'.sl m.sl,m'.used,m'.heap,m'.nxt,m'.bas⟩:=by
 have:m'.sl=ovr W m'.sl m.sl:=by
  funext t
  cases hc:W.contains t with
  | true=>simp only[ovr,hc,if_true]
  | false=>
    obtain⟨h1,h2⟩:=h t hc
    have h1':(m'.sl t).v=(m.sl t).v:=h1
    have h2':(m'.sl t).box=(m.sl t).box:=h2
    simp only[ovr,hc,Bool.false_eq_true,if_false,<- h1',<- h2']
 rw[<- this]
section
variable {Γ:Nat->Option F} {G:Nat->List T}
theorem WL_inv {b:C} {m:M} {Q:Ex->M->Prop} (W:List Nat) (hW:b.wrIn W=true) (Inv:Nat->(Nat->Slot)->(Nat->Option O)->Nat->Prop) (n:Nat)
 (h0:Inv n m.sl m.heap m.nxt)
 (h: ∀n f u h k bs,Inv n f h k->Rg.W Γ G b ⟨ovr W f m.sl,u,h,k,bs⟩ (thenQ (fun m'=> ∃n',n'<n/\Inv n' m'.sl m'.heap m'.nxt) Q)):WL Γ G b m Q:=by
 have key: ∀(n:Nat) (m':M),SameOff W m.st m'.st->Inv n m'.sl m'.heap m'.nxt->WL Γ G b m' Q:=by
  intro n
  induction n using Nat.strongRecOn with
  | _ n ih=>
    intro m' hs hi
    refine WL_step ?_
    have h1:=h n m'.sl m'.used m'.heap m'.nxt m'.bas hi
    rw[<- ovr_eq hs]at h1
    obtain⟨e,m1,hB,hQ⟩:=h1
    refine⟨e,m1,hB,?_⟩
    cases e with
    | normal=>
      obtain⟨k,hk,hi'⟩:=hQ
      exact ih k hk m1 (hs.trans (big_keeps hB hW)) hi'
    | exit id=>exact hQ
    | ret=>exact hQ
 exact key n m (.refl _ _) h0
theorem WL_inv0 {b:C} {sl:Nat->Slot} {us:Nat->Bool} {nx ba:Nat} {Q:Ex->M->Prop} (W:List Nat) (hW:b.wrIn W=true) (hH:b.noH=true) (Inv:Nat->(Nat->Slot)->Prop) (n:Nat)
 (h0:Inv n sl)
 (h: ∀n f u k bs,Inv n f->Rg.W Γ G b ⟨ovr W f sl,u,fun _=>none,k,bs⟩ (thenQ (fun m'=> ∃n',n'<n/\Inv n' m'.sl) Q)):WL Γ G b ⟨sl,us,fun _=>none,nx,ba⟩ Q:=by
 refine WL_inv W hW (fun n f hp _=>Inv n f/\hp=fun _=>none) n ⟨h0,rfl⟩ ?_
 rintro n f u hp k bs ⟨hi,rfl⟩
 obtain⟨e,m1,hB,hQ⟩:=h n f u k bs hi
 refine⟨e,m1,hB,?_⟩
 have hf:=Frozen.none (big_keepsH hB hH)
 cases e with
 | normal=>obtain⟨k,hk,hi'⟩:=hQ;exact⟨k,hk,hi',hf⟩
 | exit id=>exact hQ
 | ret=>exact hQ
end
end Rg
end
section
namespace Rg
open Go
abbrev ci (n:Int):Opd:=.c (.t (.int .i64 n))
abbrev cb (b:Bool):Opd:=.c (.t (.bool b))
abbrev cf (f:Nat):Opd:=.c (.t (.fn f [] []))
abbrev o (d:Nat) (x:AOp):ROp:=⟨none,some d,x⟩
abbrev on (x:AOp):ROp:=⟨none,none,x⟩
abbrev og (g:Nat) (b:Bool) (d:Nat) (x:AOp):ROp:=⟨some (g,b),some d,x⟩
abbrev vi (n:Int):V:=.t (.int .i64 n)
abbrev vb (b:Bool):V:=.t (.bool b)
def bs (l:List UInt8):ByteArray:=⟨l.toArray⟩
abbrev oM (d x:Nat):ROp:=⟨none,some d,.mv (.s x)⟩
abbrev oI (d:Nat) (n:Int):ROp:=⟨none,some d,.mv (ci n)⟩
abbrev oB (d:Nat) (b:Bool):ROp:=⟨none,some d,.mv (cb b)⟩
abbrev oF (d k x:Nat):ROp:=⟨none,some d,.faddrL k (.s x)⟩
abbrev oG (d k x:Nat):ROp:=⟨none,some d,.faddr k (.s x)⟩
abbrev oL (d x:Nat):ROp:=⟨none,some d,.loadL false 1 (.s x)⟩
abbrev oK (d k x:Nat):ROp:=⟨none,some d,.loadL true k (.s x)⟩
abbrev oR (d x:Nat):ROp:=⟨none,some d,.load false 1 (.s x)⟩
abbrev oS (d k x:Nat):ROp:=⟨none,some d,.load true k (.s x)⟩
abbrev oA (d k x y:Nat):ROp:=⟨none,some d,.iaddrS k (.s x) (.s y)⟩
abbrev oN (d x:Nat):ROp:=⟨none,some d,.len (.s x)⟩
abbrev oT (d x:Nat):ROp:=⟨none,some d,.un .not (.s x)⟩
abbrev oX (d x k:Nat):ROp:=⟨none,some d,.extr (.s x) k⟩
abbrev oQ (d k x:Nat):ROp:=⟨none,some d,.boxL k (.s x)⟩
abbrev oV (d x y:Nat):ROp:=⟨none,some d,.pick (.s x) (cb true) (.s y)⟩
abbrev oW (d x y:Nat):ROp:=⟨none,some d,.pick (.s x) (.s y) (cb false)⟩
abbrev oC (d:Nat) (b:BinOp) (x y:Nat):ROp:=⟨none,some d,.bin b (.s x) (.s y)⟩
abbrev oD (d:Nat) (b:BinOp) (x:Nat) (n:Int):ROp:=⟨none,some d,.bin b (.s x) (ci n)⟩
abbrev oP (k x y:Nat):ROp:=⟨none,none,.storeL k (.s x) (.s y)⟩
abbrev oO (k x y:Nat):ROp:=⟨none,none,.store k (.s x) (.s y)⟩
abbrev gM (g:Nat) (b:Bool) (d x:Nat):ROp:=⟨some (g,b),some d,.mv (.s x)⟩
abbrev gF (g:Nat) (b:Bool) (d k x:Nat):ROp:=⟨some (g,b),some d,.faddrL k (.s x)⟩
abbrev gG (g:Nat) (b:Bool) (d k x:Nat):ROp:=⟨some (g,b),some d,.faddr k (.s x)⟩
abbrev gL (g:Nat) (b:Bool) (d x:Nat):ROp:=⟨some (g,b),some d,.loadL false 1 (.s x)⟩
abbrev gK (g:Nat) (b:Bool) (d k x:Nat):ROp:=⟨some (g,b),some d,.loadL true k (.s x)⟩
abbrev gR (g:Nat) (b:Bool) (d x:Nat):ROp:=⟨some (g,b),some d,.load false 1 (.s x)⟩
abbrev gN (g:Nat) (b:Bool) (d x:Nat):ROp:=⟨some (g,b),some d,.len (.s x)⟩
abbrev gT (g:Nat) (b:Bool) (d x:Nat):ROp:=⟨some (g,b),some d,.un .not (.s x)⟩
abbrev gI (g:Nat) (b:Bool) (d k x y:Nat):ROp:=⟨some (g,b),some d,.iaddrS k (.s x) (.s y)⟩
abbrev gC (g:Nat) (b:Bool) (d:Nat) (q:BinOp) (x y:Nat):ROp:=⟨some (g,b),some d,.bin q (.s x) (.s y)⟩
abbrev gD (g:Nat) (b:Bool) (d:Nat) (q:BinOp) (x:Nat) (n:Int):ROp:=⟨some (g,b),some d,.bin q (.s x) (ci n)⟩
abbrev rF (l:List ROp):C:=.region false l
abbrev rT (l:List ROp):C:=.region true l
abbrev zi:V:=.t (.int .i64 0)
abbrev zn:V:=.t .nils
abbrev zb:V:=.t (.bool false)
abbrev ze:V:=.t (.str (bs []))
theorem wrap64 {n:Int} (h: -9223372036854775808<=n/\n<=9223372036854775807):IntKind.i64.wrap n=n:=by
 rw[IntKind.wrap_i64];omega
def noSlot:Slot:=⟨.undef,none,none⟩
def slots:List V->Nat->Nat->Slot
 | [],_=>fun _=>noSlot
 | v::l,i=>upd (slots l (i+1)) i ⟨v,none,none⟩
theorem slots_spec: ∀(l:List V) (i t:Nat),slots l i (i+t)=⟨l.getD t .undef,none,none⟩
 | [],i,t=>by simp[slots,noSlot]
 | v::l,i,0=>by simp[slots]
 | v::l,i,t+1=>by
   simp only[slots]
   rw[upd_other _ _ (by omega),show i+(t+1)=i+1+t by omega,slots_spec l (i+1) t]
   simp
theorem init_eq (args:List V) (h:Nat->Option O) (n:Nat):M.init args h n=⟨slots args 0,fun _=>false,h,n,n⟩:=by
 simp only[M.init,initEnv,M.mk.injEq,and_true]
 funext t
 have:=slots_spec args 0 t
 simpa using this.symm
section
variable (Γ:Nat->Option F) (G:Nat->List T)
def wpC:C->M->(Ex->M->Prop)->Prop
 | .skip,m,Q=>Q .normal m
 | .ret,m,Q=>Q .ret m
 | .exit id,m,Q=>Q (.exit id) m
 | .region d l,m,Q=>wpO Γ G d 0 l (m.begin l.length) (Q .normal)
 | .regionD ck l,m,Q=>wpO Γ G true 0 l (m.begin l.length) (fun m'=>sepAll G m'.st l ck=true/\Q .normal m')
 | .seq a b,m,Q=>wpC a m (thenQ (fun m'=>wpC b m' Q) Q)
 | .cond c a b,m,Q=>match evBool G m.st c with
   | none=>False
   | some t=>if t=true then wpC a m Q else wpC b m Q
 | .block id b,m,Q=>wpC b m (blockQ id Q)
 | .loop b,m,Q=>WL Γ G b m Q
 | .ext _,_,_=>False
 | .round _ _,_,_=>False
 | .rangeF x ps bd,m,Q=>match(evl G m.st x).bind fnOf with
   | none=>False
   | some (g,a,b)=> ∃r h' n',RC Γ G g (a++[.yl m.nxt]++b) (upd m.heap m.nxt (some (.loop (fun t=>(m.sl t).v) ps bd .ready))) (m.nxt+1) r h' n'/\(∃fn,Γ g=some fn/\fn.raw=true)/\
     ∃env' ps' bd' st e,h' m.nxt=some (.loop env' ps' bd' st)/\st.ends=some e/\Q e { m with heap:=upd h' m.nxt (some .dead),nxt:=n' }
def Fin (rs:List Res) (r:V) (e:Ex) (m:M):Prop:=(∀id,e≠ .exit id)/\ ∃v,resAll m.st rs=some v/\reify m.heap v=some r
end
section
variable {Γ:Nat->Option F} {G:Nat->List T}
theorem thenQ_mono {K K':M->Prop} {Q:Ex->M->Prop} (h: ∀m,K m->K' m): ∀e m,thenQ K Q e m->thenQ K' Q e m
 | .normal,m,hk=>h m hk
 | .exit _,_,hk=>hk
 | .ret,_,hk=>hk
theorem W_of: ∀{c:C} {m:M} {Q:Ex->M->Prop},wpC Γ G c m Q->W Γ G c m Q
 | .skip,m,Q,h=>W_skip h
 | .ret,m,Q,h=>W_ret h
 | .exit id,m,Q,h=>W_exit h
 | .region d l,m,Q,h=>W_region h
 | .regionD ck l,m,Q,h=>W_regionD h
 | .seq a b,m,Q,h=>W_seq (W_mono (W_of h) (thenQ_mono fun _ h=>W_of h))
 | .cond c a b,m,Q,h=>by
   simp only[wpC]at h
   split at h
   ·exact h.elim
   ·rename_i t ht
    refine W_cond ht (fun h1=> ?_) (fun h1=> ?_)
    ·subst h1;exact W_of (by simpa using h)
    ·subst h1;exact W_of (by simpa using h)
 | .block id b,m,Q,h=>W_block (W_of h)
 | .loop b,m,Q,h=>W_loop h
 | .ext _,_,_,h=>h.elim
 | .round _ _,_,_,h=>h.elim
 | .rangeF x ps bd,m,Q,h=>by
   simp only[wpC]at h
   split at h
   ·exact h.elim
   ·rename_i g a b hfn
    simp only[Option.bind_eq_some_iff]at hfn
    obtain⟨fv,hfv,hfn⟩:=hfn
    obtain⟨r,h',n',hc,hg,env',ps',bd',st,e,hl,he,hQ⟩:=h
    exact W_range hfv hfn hg hc hl he hQ
theorem PC_fin {g:Nat} {args:List V} {fn:F} {r:V} (hg:Γ g=some fn) (hr:fn.raw=false)
 (h:wpC Γ G fn.body ⟨slots args 0,fun _=>false,fun _=>none,0,0⟩ (Fin fn.results r)):PC Γ G g args r:=by
 refine PC_of hg hr ?_
 rw[init_eq]
 exact W_of h
structure Wit (A B:Prop)where
 n:Nat
def condS (b:Bool) (A B:Prop) (_:Wit A B):Prop:=if b=true then A else B
@[go_sem]theorem condS_t (A B:Prop) (w:Wit A B):condS true A B w=A:=by simp[condS]
@[go_sem]theorem condS_f (A B:Prop) (w:Wit A B):condS false A B w=B:=by simp[condS]
theorem csplit {b:Bool} {A B:Prop} {w:Wit A B} (h1:b=true->A) (h2:b=false->B):condS b A B w:=by
 cases b
 ·simpa[condS]using h2 rfl
 ·simpa[condS]using h1 rfl
def condV (v:V) (A B:Prop) (w:Wit A B):Prop:=match v with
 | .t (.bool b)=>condS b A B w
 | _=>False
@[go_sem]theorem condV_b (b:Bool) (A B:Prop) (w:Wit A B):condV (.t (.bool b)) A B w=condS b A B w:=rfl
def guardV (v:V) (g:Bool) (A B:Prop) (w:Wit A B):Prop:=match v with
 | .t (.bool b)=>if g=true then condS b A B w else condS b B A ⟨0⟩
 | .undef=>B
 | _=>False
@[go_sem]theorem guardV_t (b:Bool) (A B:Prop) (w:Wit A B):guardV (.t (.bool b)) true A B w=condS b A B w:=by simp[guardV]
@[go_sem]theorem guardV_f (b:Bool) (A B:Prop) (w:Wit A B):guardV (.t (.bool b)) false A B w=condS b B A ⟨0⟩:=by simp[guardV]
@[go_sem]theorem guardV_u (g:Bool) (A B:Prop) (w:Wit A B):guardV .undef g A B w=B:=rfl
structure Wit1 (A:Prop)where
 n:Nat
def SpN (P:Prop) (_:Wit1 P):Prop:=P
@[go_sem]theorem r_cond (sl:Nat->Slot) (u:Nat->Bool) (h:Nat->Option O) (n b t:Nat) (x y:C) (Q:Ex->M->Prop):
 wpC Γ G (.cond (.s t) x y) ⟨sl,u,h,n,b⟩ Q=condV (sl t).v (wpC Γ G x ⟨sl,u,h,n,b⟩ Q) (wpC Γ G y ⟨sl,u,h,n,b⟩ Q) ⟨0⟩:=by
 simp only[wpC,evBool,evl,M.st,condV,condS]
 cases hv:(sl t).v<;>simp only[]
 rename_i x
 cases x<;>simp only[]
@[go_sem]theorem r_finR (rs:List Res) (r:V) (sl:Nat->Slot) (u:Nat->Bool) (h:Nat->Option O) (n b:Nat):
 Fin rs r .ret ⟨sl,u,h,n,b⟩= ∃v,resAll (M.st ⟨sl,u,h,n,b⟩) rs=some v/\reify h v=some r:=by simp[Fin]
attribute [go_sem] M.free hpUpd stepO evl evls evInt evBool refL fnOf rd wrapAg wr binT mxT unT lenOf rowsOf V.cells V.scalar V.scalar1 V.scalar2 T.scalar resAll resOf reify toT1 toT T.norm eqCell eqCells fillParts evOpt V.isCell V.one
attribute [go_sem] aeval
@[go_sem]theorem r_wpO_cons (d:Bool) (p:Nat) (dst:Option Nat) (op:AOp) (l:List ROp) (sl:Nat->Slot) (u:Nat->Bool) (h:Nat->Option O) (n b:Nat) (Q:M->Prop):
 wpO Γ G d p (⟨none,dst,op⟩::l) ⟨sl,u,h,n,b⟩ Q=stepO Γ G d p ⟨sl,u,h,n,b⟩ dst op (fun m'=>wpO Γ G d (p+1) l m' Q):=by
 simp only[wpO,wants,if_true]
@[go_sem]theorem r_wpO_consG (d:Bool) (p g:Nat) (w:Bool) (dst:Option Nat) (op:AOp) (l:List ROp) (sl:Nat->Slot) (u:Nat->Bool) (h:Nat->Option O) (n b:Nat) (Q:M->Prop):
 wpO Γ G d p (⟨some (g,w),dst,op⟩::l) ⟨sl,u,h,n,b⟩ Q=guardV (sl g).v w (stepO Γ G d p ⟨sl,u,h,n,b⟩ dst op (fun m'=>wpO Γ G d (p+1) l m' Q))
  (M.free ⟨sl,u,h,n,b⟩ dst {}=true/\wpO Γ G d (p+1) l (M.apply ⟨sl,u,h,n,b⟩ dst {}) Q) ⟨0⟩:=by
 simp only[wpO,wants,M.st,guardV,condS]
 cases hv:(sl g).v with
 | t x=>
   cases x with
   | bool b=>cases b<;>cases w<;>simp
   | _=>rfl
 | undef=>simp
 | _=>rfl
attribute [go_sem] slots List.map_cons List.map_nil Int.toNat_natCast Int.natCast_nonneg List.getElem?_map Option.map_some Option.map_none List.length_map decide_eq_true_eq Int.ofNat_lt
attribute [go_sem] Bool.not_false Bool.true_and Bool.and_true Bool.not_true Bool.false_eq_true if_true if_false true_and and_true Option.bind_eq_bind Option.bind_some Option.bind_none Option.some.injEq reduceIte reduceCtorEq
attribute [go_sem] List.length_cons List.length_nil List.mapM_cons List.mapM_nil Option.pure_def List.getElem?_cons_zero List.getElem?_cons_succ List.drop_zero List.drop_succ_cons List.take_succ_cons List.take_zero List.cons_append List.nil_append List.append_nil
end
end Rg
end
