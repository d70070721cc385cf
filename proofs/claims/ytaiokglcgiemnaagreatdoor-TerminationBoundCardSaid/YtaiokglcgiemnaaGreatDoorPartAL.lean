/- Part of the proof of the laws of the package relyguardlaw36: an abstract machine for the program's functions, what they compute, and that the machine is the program's. No condition. (RgT3 RgT) -/
import Derived.Test.YtaiokglcgiemnaaGreatDoorPartAK
section
namespace Rg
open Go
def AOp.writes:AOp->Bool
 | .store _ _ _ | .append _ _ _ _=>true
 | _=>false
theorem writes_sh {op:AOp} (h:op.writes=true):op.wrL=false/\op.rdL=false/\op.isRaw=false/\isCall op=false:=by
 cases op<;>simp_all [AOp.writes,AOp.wrL,AOp.rdL,AOp.isRaw,isCall]
theorem looks_call {op:AOp} (h:op.looks=true):isCall op=false:=by
 cases op<;>simp_all [AOp.looks,isCall]
theorem wopd_sub {op:AOp}: ∀y∈op.wopd,y∈op.opds:=by
 cases op<;>simp[AOp.wopd,AOp.opds]
section
variable {P:Program} {N:Nam} {s u:St}
theorem evl_env {G:Nat->List T} {x:Opd} (h: ∀t∈x.slots,s.env t=u.env t):evl G s x=evl G u x:=by
 cases x with
 | s t=>simp only[evl,h t (by simp[Opd.slots])]
 | c v=>rfl
 | g q=>rfl
theorem wkey {op:AOp} {p:Nat} {G:Nat->List T} {e:Eff} (hl:op.writes=true) (he:aeval G p s op=some e):
 ∀x∈e.hp,x.1=s.bas+p\/ ∃y∈op.wopd,∃v,evl G s y=some v/\x.1∈v.top:=by
 intro x hx
 cases op<;>simp only[AOp.writes,Bool.false_eq_true]at hl
 ·simp only[aeval,Option.bind_eq_bind,Option.bind_eq_some_iff]at he
  obtain⟨u,hu,he⟩:=he
  split at he
  ·split at he
   ·simp only[Option.bind_eq_some_iff]at he
    obtain⟨row,_,v,_,new,_,he⟩:=he
    split at he
    ·simp only[Option.bind_eq_some_iff,Option.some.injEq]at he
     obtain⟨row',_,rfl⟩:=he
     simp only[List.mem_singleton]at hx
     subst hx
     exact .inr ⟨_,by simp[AOp.wopd],_,hu,by simp[V.top]⟩
    ·cases he
   ·cases he
  ·cases he
 ·simp only[aeval,Option.bind_eq_bind,Option.bind_eq_some_iff]at he
  obtain⟨u,hu,v,hv,a,ha,b,hb,he⟩:=he
  split at he
  ·split at he
   ·cases he;cases hx
   ·split at he
    ·cases he
     simp only[List.mem_cons,List.not_mem_nil,or_false]at hx
     subst hx;exact .inl rfl
    ·simp only[Option.bind_eq_some_iff,Option.some.injEq]at he
     obtain⟨ts,_,rfl⟩:=he
     cases hx
    ·split at he
     ·split at he
      ·cases he
       simp only[List.mem_cons,List.not_mem_nil,or_false]at hx
       rcases hx with rfl | rfl
       ·exact .inr ⟨_,by simp[AOp.wopd],_,hu,by simp[V.top]⟩
       ·exact .inl rfl
      ·cases he
     ·cases he
    ·cases he
  ·cases he
theorem DStep.transferE {p:Nat} {x:ROp} {d:Option Nat} {e' e:Eff} (hnc:isCall x.op=false) (hrl:x.op.rdL=false) (hslots: ∀t∈x.reads,d≠some t)
 (hheap: ∀y∈x.op.opds,∀v,evl N.G s y=some v-> ∀k∈v.top,s.heap k=(s.apply d e').heap k):
 DStep P N p x s e<->DStep P N p x (s.apply d e') e:=by
 have henv: ∀t,d≠some t->(s.apply d e').env t=s.env t:=by
  intro t ht
  cases d with
  | none=>rfl
  | some d'=>simp only[St.apply];exact upd_other _ _ (fun h=>ht (by rw[h]))
 have hadr: ∀t,d≠some t->(s.apply d e').adr t=s.adr t:=by
  intro t ht
  cases d with
  | none=>rfl
  | some d'=>simp only[St.apply];exact upd_other _ _ (fun h=>ht (by rw[h]))
 have hop: ∀y∈x.op.opds,∀t∈y.slots,d≠some t:=by
  intro y hy t ht
  exact hslots t (List.mem_append_left _ (List.mem_flatMap.2 ⟨y,hy,ht⟩))
 have hev: ∀y∈x.op.opds,evl N.G s y=evl N.G (s.apply d e') y:=fun y hy=>evl_env fun t ht=>(henv t (hop y hy t ht)).symm
 have href: ∀y∈x.op.opds,refL s y=refL (s.apply d e') y:=by
  intro y hy
  cases y with
  | s t=>simp only[refL,henv t (hop _ hy t (by simp[Opd.slots])),hadr t (hop _ hy t (by simp[Opd.slots]))]
  | c v=>rfl
  | g q=>rfl
 have hwant:wants s x.guard=wants (s.apply d e') x.guard:=by
  cases hg:x.guard with
  | none=>rfl
  | some gw=>
    obtain⟨g,wnt⟩:=gw
    simp only[wants,henv g (hslots g (by simp[ROp.reads,hg]))]
 have haev:aeval N.G p s x.op=aeval N.G p (s.apply d e') x.op:=aeval_congr hev href (fun h=>by rw[hrl]at h;cases h) (fun _=>hheap) rfl
 constructor
 ·intro h
  cases h with
  | skip hw=>exact .skip (hwant▸hw)
  | eff hw he=>exact .eff (hwant▸hw) (haev▸he)
  | pure hw ho=>rw[ho]at hnc;cases hnc
  | fresh hw ho=>rw[ho]at hnc;cases hnc
 ·intro h
  cases h with
  | skip hw=>exact .skip (hwant▸hw)
  | eff hw he=>exact .eff (hwant▸hw) (haev▸he)
  | pure hw ho=>rw[ho]at hnc;cases hnc
  | fresh hw ho=>rw[ho]at hnc;cases hnc
def indepD (a b:ROp):Bool:=
 (match a.dst with | some d=> !b.reads.contains d&&b.dst != some d | none=>true)&&
 (match b.dst with | some d=> !a.reads.contains d | none=>true)&&((a.op.looks&&b.op.writes)||(a.op.writes&&b.op.looks))&&a.op.opds.all Opd.plain&&b.op.opds.all Opd.plain
structure IndepD (a b:ROp):Prop where
 d1: ∀t∈b.reads,a.dst≠some t
 d12: ∀x,a.dst=some x->b.dst≠some x
 d2: ∀t∈a.reads,b.dst≠some t
 lw:(a.op.looks=true/\b.op.writes=true)\/(a.op.writes=true/\b.op.looks=true)
 p1: ∀y∈a.op.opds,y.plain=true
 p2: ∀y∈b.op.opds,y.plain=true
theorem indepD_spec {a b:ROp} (h:indepD a b=true):IndepD a b:=by
 simp only[indepD,Bool.and_eq_true,Bool.or_eq_true,List.all_eq_true]at h
 obtain⟨⟨⟨⟨a1,a2⟩,a3⟩,a5⟩,a6⟩:=h
 refine⟨?_,?_,?_,a3,a5,a6⟩
 ·intro t ht hd
  rw[hd]at a1
  simp at a1
  exact a1.1 ht
 ·intro x hx hd
  rw[hx]at a1
  simp[hd]at a1
 ·intro t ht hd
  rw[hd]at a2
  simp at a2
  exact a2 ht
theorem mem_topsL {G:Nat->List T} {l:List Opd} {y:Opd} {v:V} {k:Nat} (hy:y∈l) (hv:evl G s y=some v) (hk:k∈v.top):k∈topsL G s l:=
 List.mem_flatMap.2 ⟨y,hy,by rw[hv];exact hk⟩
theorem DStep.wkey {p:Nat} {x:ROp} {e:Eff} (h:DStep P N p x s e) (hw:x.op.writes=true): ∀z∈e.hp,z.1=s.bas+p\/z.1∈topsL N.G s x.op.wopd:=by
 have hnc:=(writes_sh hw).2.2.2
 cases h with
 | skip hw=>simp
 | eff _ he=>
   intro z hz
   rcases Rg.wkey hw he z hz with h | ⟨y,hy,v,hv,hk⟩
   ·exact .inl h
   ·exact .inr (mem_topsL hy hv hk)
 | pure hw ho=>rw[ho]at hnc;cases hnc
 | fresh hw ho=>rw[ho]at hnc;cases hnc
theorem topsL_congr {G:Nat->List T} {l:List Opd} (h: ∀y∈l,evl G s y=evl G u y):topsL G s l=topsL G u l:=by
 unfold topsL
 induction l with
 | nil=>rfl
 | cons y l ih=>rw[List.flatMap_cons,List.flatMap_cons,h y (by simp),ih fun z hz=>h z (by simp[hz])]
theorem sep_congr {G:Nat->List T} {a b:ROp} (ha: ∀y∈a.op.opds,evl G s y=evl G u y) (hb: ∀y∈b.op.opds,evl G s y=evl G u y):sep G s a b=sep G u a b:=by
 simp only[sep,topsL_congr ha,topsL_congr hb,topsL_congr (fun y hy=>ha y (wopd_sub y hy)),topsL_congr (fun y hy=>hb y (wopd_sub y hy))]
theorem swapD {ns:Nat} (hz:Rz N ns s) {pj pi:Nat} {j i:ROp} {ej ei:Eff} (hij:IndepD j i) (hs:sep N.G s j i=true) (hpp:pj≠pi) (fj:s.heap (s.bas+pj)=none) (fi:s.heap (s.bas+pi)=none)
 (hj:DStep P N pj j s ej) (hfj:s.free j.dst ej) (hi:DStep P N pi i (s.apply j.dst ej) ei) (hfi:(s.apply j.dst ej).free i.dst ei):
 DStep P N pi i s ei/\s.free i.dst ei/\DStep P N pj j (s.apply i.dst ei) ej/\(s.apply i.dst ei).free j.dst ej/\(s.apply j.dst ej).apply i.dst ei=(s.apply i.dst ei).apply j.dst ej:=by
 have cj:isCall j.op=false/\j.op.rdL=false/\j.op.wrL=false:=by
  rcases hij.lw with⟨h,_⟩ | ⟨h,_⟩
  ·exact⟨looks_call h,(look_sh h).2.2.2,(look_sh h).2.1⟩
  ·exact⟨(writes_sh h).2.2.2,(writes_sh h).2.1,(writes_sh h).1⟩
 have ci:isCall i.op=false/\i.op.rdL=false/\i.op.wrL=false:=by
  rcases hij.lw with⟨_,h⟩ | ⟨_,h⟩
  ·exact⟨(writes_sh h).2.2.2,(writes_sh h).2.1,(writes_sh h).1⟩
  ·exact⟨looks_call h,(look_sh h).2.2.2,(look_sh h).2.1⟩
 obtain⟨sj1,sj2,sj3,sj4,sj5⟩:=hj.shape
 have hjw:ej.wloc=none:=sj1 cj.2.2
 have hi':DStep P N pi i s ei:=by
  refine(DStep.transferE ci.1 ci.2.1 hij.d1 (fun y hy v hv k hk=> ?_)).2 hi
  obtain⟨o,ho⟩:=hz.top (hij.p2 y hy) hv k hk
  show s.heap k=hpUpd s.heap ej.hp k
  rw[hpUpd_other]
  rintro z hzz rfl
  rcases hij.lw with⟨hl,hw⟩ | ⟨hw,hl⟩
  ·have:=sj2 (look_sh hl).1 z hzz
   rw[this,fj]at ho;cases ho
  ·rcases hj.wkey hw z hzz with h | h
   ·rw[h,fj]at ho;cases ho
   ·have hnl:j.op.looks=false:=by revert hw;cases j.op<;>simp[AOp.writes,AOp.looks]
    simp only[sep,hnl,Bool.false_eq_true,if_false,List.all_eq_true]at hs
    have:=hs _ (mem_topsL hy hv hk)
    simp[h]at this
 have hfi':s.free i.dst ei:=by
  intro d hd
  obtain⟨h1,h2⟩:=hfi d hd
  refine⟨?_,h2⟩
  cases hu:s.used d with
  | false=>rfl
  | true=>have:=used_mono (d:=j.dst) (e:=ej) hu;rw[h1]at this;simp at this
 obtain⟨si1,si2,si3,si4,si5⟩:=hi'.shape
 have hj':DStep P N pj j (s.apply i.dst ei) ej:=by
  refine(DStep.transferE cj.1 cj.2.1 hij.d2 (fun y hy v hv k hk=> ?_)).1 hj
  obtain⟨o,ho⟩:=hz.top (hij.p1 y hy) hv k hk
  show s.heap k=hpUpd s.heap ei.hp k
  rw[hpUpd_other]
  rintro z hzz rfl
  rcases hij.lw with⟨hl,hw⟩ | ⟨hw,hl⟩
  ·rcases hi'.wkey hw z hzz with h | h
   ·rw[h,fi]at ho;cases ho
   ·simp only[sep,hl,if_true,List.all_eq_true]at hs
    have:=hs _ (mem_topsL hy hv hk)
    simp[h]at this
  ·have:=si2 (look_sh hl).1 z hzz
   rw[this,fi]at ho;cases ho
 have hsl: ∀{x:ROp} {y:Opd},y∈x.op.opds-> ∀t∈y.slots,t∈x.reads:=fun hy t ht=>List.mem_append_left _ (List.mem_flatMap.2 ⟨_,hy,ht⟩)
 have hfj':(s.apply i.dst ei).free j.dst ej:=by
  intro d hd
  obtain⟨h1,h2⟩:=hfj d hd
  refine⟨?_,h2⟩
  simp only[St.apply]
  cases ha:ei.adr with
  | none=>exact h1
  | some bo=>
    obtain⟨b,o⟩:=bo
    obtain⟨y,hy,o',hr⟩:=si5 b o ha
    have hb:b≠d:=base_ne hz hr (fun hin=>hij.d1 d (hsl hy d hin) hd) h1
    simp only[upd_other _ _ (Ne.symm hb)];exact h1
 refine⟨hi',hfi',hj',hfj',apply_comm hij.d12 (.inl hjw) (fun b cs hb=>by rw[hjw]at hb;cases hb) (fun b cs hb=>by rw[si1 ci.2.2]at hb;cases hb) ?_⟩
 intro x hx y hy e
 have hne:s.bas+pj≠s.bas+pi:=by omega
 rcases hij.lw with⟨hl,hw⟩ | ⟨hw,hl⟩
 ·have e1:=sj2 (look_sh hl).1 x hx
  rcases si3 y hy with h1 | h1
  ·exact hne (by rw[<- e1,<- h1,e])
  ·rw[<- e,e1,fj]at h1;simp at h1
 ·have e2:=si2 (look_sh hl).1 y hy
  rcases sj3 x hx with h1 | h1
  ·exact hne (by rw[<- h1,<- e2,e])
  ·rw[e,e2,fi]at h1;simp at h1
theorem StepG.env {d:Bool} {p:Nat} {o:ROp} {s':St} (h:StepG P N d p o s s') {q:Nat} (hq:o.dst≠some q):s'.env q=s.env q:=by
 have key: ∀(t:St) (e:Eff),t.env=s.env->(t.apply o.dst e).env q=s.env q:=by
  intro t e ht
  cases hd:o.dst with
  | none=>simp only[St.apply,ht]
  | some x=>simp only[St.apply,ht];exact upd_other _ _ (fun h=>hq (by rw[hd,h]))
 cases h<;>exact key _ _ rfl
theorem StepG.evl {d:Bool} {p:Nat} {o x:ROp} {s':St} (h:StepG P N d p o s s') (hd: ∀t∈x.reads,o.dst≠some t): ∀y∈x.op.opds,evl N.G s y=evl N.G s' y:=
 fun y hy=>evl_env fun t ht=>(h.env (hd t (List.mem_append_left _ (List.mem_flatMap.2 ⟨y,hy,ht⟩)))).symm
theorem swapR2 {ns:Nat} (hz:Rz N ns s) {pj pi:Nat} {j i:ROp} {s1 s2:St} (hij:IndepR i j) (h1:StepG P N true pj j s s1) (h2:StepG P N true pi i s1 s2):
 ∃t,StepG P N true pi i s t/\StepG P N true pj j t s2:=by
 obtain⟨sr,swH,swL,snr⟩:=still_sh hij.st
 obtain⟨ei,hdi,hfi,rfl⟩:=h2.toD snr
 have hei:ei.hp=[]/\ei.wloc=none:=by
  cases hdi with
  | skip hw=>exact⟨rfl,rfl⟩
  | eff hw he=>exact still_eff hij.st he
  | pure hw ho=>exact⟨rfl,rfl⟩
  | fresh hw ho=>have:=hij.st;rw[ho]at this;cases this
 obtain⟨ehp,ewl⟩:=hei
 have hsl: ∀{x:ROp} {y:Opd},y∈x.op.opds-> ∀t∈y.slots,t∈x.reads:=fun hy t ht=>List.mem_append_left _ (List.mem_flatMap.2 ⟨_,hy,ht⟩)
 -- the operation that looks at slots alone,ahead of the call
 have first : ∀(H':Nat->Option O) (n':Nat) (r:V),s.free j.dst {}->DStep P N pi i (({ s with heap:=H',nxt:=n' }:St).apply j.dst { val:=r }) ei->DStep P N pi i s ei:=by
  intro H' n' r hfj hd
  refine(DStep.transfer (d:=j.dst) (e':= { val:=r }) hz hij.p1 hij.d2 (fun d' hd=>(hfj d' hd).1) (fun _=>rfl) (fun hr=>by rw[sr]at hr;cases hr)).2 ?_
  cases hd with
  | skip hw=>exact .skip hw
  | eff hw he=>exact .eff hw (by rw[<- still_heap (H:=H') (n:=n') hij.st];exact he)
  | pure hw ho=>have:=hij.st;rw[ho]at this;cases this
  | fresh hw ho=>have:=hij.st;rw[ho]at this;cases this
 have fin: ∀(H':Nat->Option O) (n':Nat) (r:V),s.free j.dst {}->DStep P N pi i s ei->s.free i.dst ei->
  (∀(q:Opd),q∈j.op.opds->evl N.G s q=evl N.G (s.apply i.dst ei) q)/\wants s j.guard=wants (s.apply i.dst ei) j.guard/\(s.apply i.dst ei).heap=s.heap/\(s.apply i.dst ei).free j.dst {}/\
  (({ s with heap:=H',nxt:=n' }:St).apply j.dst { val:=r }).apply i.dst ei=({ s.apply i.dst ei with heap:=H',nxt:=n' }:St).apply j.dst { val:=r }:=by
  intro H' n' r hfj hd hf
  have hg:=hd.toG hf
  refine⟨hg.evl hij.d1,?_,by simp only[St.apply,ehp,hpUpd],?_,?_⟩
  ·cases hgd:j.guard with
   | none=>rfl
   | some gw=>
     obtain⟨g,wnt⟩:=gw
     have:=hg.env (q:=g) (hij.d1 g (by simp[ROp.reads,hgd]))
     simp only[wants,this]
  ·intro d hd'
   obtain⟨k1,_⟩:=hfj d hd'
   refine⟨?_,fun b o hb=>by cases hb⟩
   simp only[St.apply]
   cases ha:ei.adr with
   | none=>exact k1
   | some bo=>
     obtain⟨b,o⟩:=bo
     obtain⟨y,hy,o',hr⟩:=hd.shape.2.2.2.2 b o ha
     have hb:b≠d:=base_ne hz hr (fun hin=>hij.d2 d (hsl hy d hin) hd') k1
     simp only[upd_other _ _ (Ne.symm hb)];exact k1
  ·have e1:({ s.apply i.dst ei with heap:=H',nxt:=n' }:St)=({ s with heap:=H',nxt:=n' }:St).apply i.dst ei:=by
    simp only[St.apply,ehp,hpUpd]
   rw[e1,apply_comm (s:={ s with heap:=H',nxt:=n' }) (fun x hx hy=>hij.d12 x hy hx) (.inl rfl) (fun b cs hb=>by cases hb) (fun b cs hb=>by rw[ewl]at hb;cases hb) (by simp)]
 cases h1 with
 | skip hw hf=>
   have hd:=first s.heap s.nxt .undef hf hdi
   obtain⟨g1,g2,g3,g4,g5⟩:=fin s.heap s.nxt .undef hf hd hfi
   refine⟨_,hd.toG hfi,?_⟩
   have:=StepG.skip (P:=P) (N:=N) (d:=true) (p:=pj) (o:=j) (s:=s.apply i.dst ei) (by rw[<- g2];exact hw) g4
   rw[show(s.apply j.dst {}).apply i.dst ei=(s.apply i.dst ei).apply j.dst {}from ?_]
   ·exact this
   ·have e2:({ s.apply i.dst ei with heap:=s.heap,nxt:=s.nxt }:St)=s.apply i.dst ei:=by simp only[St.apply,ehp,hpUpd]
    rw[e2]at g5;exact g5
 | eff hw hf he=>have:=hij.rw;revert he;cases hop':j.op<;>rw[hop']at this<;>simp[AOp.isRaw]at this<;>simp[aeval]
 | pure hw hf ho=>have:=hij.rw;rw[ho]at this;simp[AOp.isRaw]at this
 | fresh hw hf ho=>have:=hij.rw;rw[ho]at this;simp[AOp.isRaw]at this
 | raw hw hf ho hfv hfn hreal hvs hc hn hfr=>
   rename_i f args fv g a b vs r rf H' n'
   have hd:=first H' n' r hf hdi
   obtain⟨g1,g2,g3,g4,g5⟩:=fin H' n' r hf hd hfi
   have hev: ∀y,y∈f::args->evl N.G s y=evl N.G (s.apply i.dst ei) y:=fun y hy=>g1 y (by rw[ho];exact hy)
   rw[hev f (by simp)]at hfv
   rw[evls_congr (fun x hx=>hev x (by simp[hx]))]at hvs
   refine⟨_,hd.toG hfi,?_⟩
   rw[g5]
   exact .raw (by rw[<- g2];exact hw) g4 ho hfv hfn hreal hvs (by rw[g3];exact hc) hn (by rw[g3];exact hfr)
 | yld hw hf ho hfv hk hvs hlen hca hk1 hcb hk2 hfr=>
   rename_i f args k vs env env1 env' ps ps1 ps' ca cb bd1 bd' e t1 t2
   have hd:=first _ _ _ hf hdi
   obtain⟨g1,g2,g3,g4,g5⟩:=fin _ _ _ hf hd hfi
   have hev: ∀y,y∈f::args->evl N.G s y=evl N.G (s.apply i.dst ei) y:=fun y hy=>g1 y (by rw[ho];exact hy)
   rw[hev f (by simp)]at hfv
   rw[evls_congr (fun x hx=>hev x (by simp[hx]))]at hvs
   refine⟨_,hd.toG hfi,?_⟩
   rw[g5]
   exact .yld (by rw[<- g2];exact hw) g4 ho hfv (by rw[g3];exact hk) hvs hlen (by rw[g3];exact hca) hk1 hcb hk2 (by rw[g3];exact hfr)
inductive RunT (P:Program) (N:Nam) (l:List ROp) (T:Nat->ROp->St->Prop):List Nat->St->St->Prop where
 | nil {s:St}:RunT P N l T [] s s
 | cons {i:Nat} {is:List Nat} {s s1 s2:St} {r:ROp} (hr:l[i]? =some r) (h1:StepG P N true i r s s1) (ht:T i r s) (h2:RunT P N l T is s1 s2):RunT P N l T (i::is) s s2
theorem Run.toT {l:List ROp} {is:List Nat} {s':St} (h:Run P N true l is s s'):RunT P N l (fun _ _ _=>True) is s s':=by
 induction h with
 | nil=>exact .nil
 | cons hr h1 h2 ih=>exact .cons hr h1 trivial ih
theorem Run.env {d:Bool} {l:List ROp} {is:List Nat} {s':St} (h:Run P N d l is s s') {t:Nat} (ht: ∀q∈is,∀z,l[q]? =some z->z.dst≠some t):s'.env t=s.env t:=by
 induction h with
 | nil=>rfl
 | cons hr h1 h2 ih=>rw[ih fun q hq=>ht q (by simp[hq]),h1.env (ht _ (by simp) _ hr)]
def markedP (ck:List (Nat×Nat)) (i:Nat):Bool:=ck.any fun x=>x.1==i||x.2==i
def stableB (ck:List (Nat×Nat)) (l:List ROp):Bool:=
 (List.range l.length).all fun i=> !markedP ck i||(List.range l.length).all fun q=>decide (q<i)||(match l[i]?,l[q]? with
   | some r,some z=>(match z.dst with | some t=> !r.reads.contains t | none=>true)
   | _,_=>true)
theorem stableB_spec {ck:List (Nat×Nat)} {l:List ROp} (h:stableB ck l=true) {i q:Nat} {r z:ROp} (hi:l[i]? =some r) (hq:l[q]? =some z) (hm:markedP ck i=true) (hle:i<=q): ∀t∈r.reads,z.dst≠some t:=by
 intro t ht hd
 simp only[stableB,List.all_eq_true,List.mem_range,Bool.or_eq_true,decide_eq_true_eq]at h
 have h1:=h i (List.getElem?_eq_some_iff.1 hi).1
 rw[hm]at h1
 rcases h1 with h1 | h1
 ·cases h1
 ·rcases h1 q (List.getElem?_eq_some_iff.1 hq).1 with h1 | h1
  ·omega
  ·rw[hi,hq]at h1
   simp[hd,ht]at h1
def AsEnd (N:Nam) (ck:List (Nat×Nat)) (e:St) (i:Nat) (r:ROp) (s:St):Prop:=markedP ck i=true-> ∀y∈r.op.opds,evl N.G s y=evl N.G e y
theorem Run.annot {ck:List (Nat×Nat)} {l:List ROp} {is:List Nat} {s':St} (hst:stableB ck l=true) (h:Run P N true l is s s') (hs:is.Pairwise (· < ·)):RunT P N l (AsEnd N ck s') is s s':=by
 induction h with
 | nil=>exact .nil
 | cons hr h1 h2 ih=>
   obtain⟨hlt,hs'⟩:=List.pairwise_cons.1 hs
   refine .cons hr h1 (fun hm y hy=> ?_) (ih hs')
   have hrun:Run P N true l (_::_) _ _:=.cons hr h1 h2
   refine evl_env fun t ht=>(hrun.env fun q hq z hz=> ?_).symm
   refine stableB_spec hst hr hz hm ?_ t (List.mem_append_left _ (List.mem_flatMap.2 ⟨y,hy,ht⟩))
   rcases List.mem_cons.1 hq with rfl | hq
   ·exact Nat.le_refl _
   ·exact Nat.le_of_lt (hlt q hq)
theorem sepAll_spec {ck:List (Nat×Nat)} {l:List ROp} {e:St} (h:sepAll N.G e l ck=true) {j i:Nat} (hm:(j,i)∈ck) {x y:ROp} (hx:l[j]? =some x) (hy:l[i]? =some y)
 {s:St} (h1:AsEnd N ck e j x s) (h2:AsEnd N ck e i y s):sep N.G s x y=true:=by
 simp only[sepAll,List.all_eq_true]at h
 have h0:=h _ hm
 simp only[hx,hy]at h0
 have m1:markedP ck j=true:=List.any_eq_true.2 ⟨_,hm,by simp⟩
 have m2:markedP ck i=true:=List.any_eq_true.2 ⟨_,hm,by simp⟩
 rw[sep_congr (h1 m1) (h2 m2)];exact h0
end
end Rg
end
section
namespace Rg
open Go
def preds (o:Oper):List Nat:=o.after.toList.filterMap fun e=>if Region.binds .any e then some e.on else none
def befGo:List Nat->List Oper->List Nat
 | acc,[]=>acc
 | acc,o::os=>befGo (acc++[(preds o).foldl (fun s q=>s ||| 2^q ||| acc.getD q 0) 0]) os
def befs (ops:Array Oper):List Nat:=befGo [] ops.toList
def drawOkD (ck:List (Nat×Nat)) (ops:Array Oper) (l:List ROp):Bool:=
 let b:=befs ops
 (List.range l.length).all fun i=>
   ((ops[i]?).elim true fun o=>(preds o).all (· <i))&&
   (List.range i).all fun j=>(b.getD i 0).testBit j||(match l[j]?,l[i]? with | some x,some y=>indep x y||indepR x y||indepX x y||(ck.contains (j,i)&&indepD x y)||indepR y x | _,_=>false)
def drawOk (ops:Array Oper) (l:List ROp):Bool:=drawOkD [] ops l
def pairsD (ops:Array Oper) (l:List ROp):List (Nat×Nat):=
 let b:=befs ops
 (List.range l.length).flatMap fun i=>(List.range i).filterMap fun j=>if(b.getD i 0).testBit j then none else match l[j]?,l[i]? with
   | some x,some y=>if indep x y||indepR x y||indepX x y||indepR y x then none else some (j,i)
   | _,_=>none
theorem fold_bit (acc:List Nat) (m:Nat): ∀(l:List Nat) (s:Nat),(l.foldl (fun s q=>s ||| 2^q ||| acc.getD q 0) s).testBit m=true->s.testBit m=true\/ ∃q∈l,m=q\/(acc.getD q 0).testBit m=true
 | [],s,h=> .inl h
 | q::l,s,h=>by
   rcases fold_bit acc m l _ h with h | ⟨q',hq',h⟩
   ·simp only[Nat.testBit_or,Bool.or_eq_true]at h
    rcases h with(h | h) | h
    ·exact .inl h
    ·right
     refine⟨q,List.mem_cons_self,.inl ?_⟩
     rw[Nat.testBit_two_pow]at h
     exact(by simpa using h:q=m).symm
    ·exact .inr ⟨q,List.mem_cons_self,.inr h⟩
   ·exact .inr ⟨q',List.mem_cons_of_mem _ hq',h⟩
theorem befGo_pre: ∀(os:List Oper) (acc:List Nat),∃r,befGo acc os=acc++r
 | [],acc=>⟨[],by simp[befGo]⟩
 | o::os,acc=>by
   obtain⟨r,hr⟩:=befGo_pre os (acc++[(preds o).foldl (fun s q=>s ||| 2^q ||| acc.getD q 0) 0])
   exact⟨(preds o).foldl (fun s q=>s ||| 2^q ||| acc.getD q 0) 0::r,by simp only[befGo];rw[hr,List.append_assoc];rfl⟩
theorem befGo_spec: ∀(os:List Oper) (acc:List Nat) (k:Nat) (o:Oper),os[k]? =some o->(∀q∈preds o,q<acc.length+k)-> ∀m,((befGo acc os).getD (acc.length+k) 0).testBit m=true->
 ∃q∈preds o,m=q\/((befGo acc os).getD q 0).testBit m=true
 | [],acc,k,o,h,_,_,_=>by simp at h
 | o'::os,acc,k,o,h,hlt,m,hm=>by
   cases k with
   | zero=>
     simp at h;subst h
     simp only[befGo]at hm⊢
     obtain⟨r,hr⟩:=befGo_pre os (acc++[(preds o').foldl (fun s q=>s ||| 2^q ||| acc.getD q 0) 0])
     rw[hr]at hm⊢
     have e1:(acc++[(preds o').foldl (fun s q=>s ||| 2^q ||| acc.getD q 0) 0]++r).getD (acc.length+0) 0=(preds o').foldl (fun s q=>s ||| 2^q ||| acc.getD q 0) 0:=by
      simp[List.getD_eq_getElem?_getD]
     rw[e1]at hm
     rcases fold_bit acc m _ _ hm with h | ⟨q,hq,h⟩
     ·simp at h
     ·refine⟨q,hq,h.imp id fun h=> ?_⟩
      have hql:q<acc.length:=by have:=hlt q hq;omega
      have e2:(acc++[(preds o').foldl (fun s q=>s ||| 2^q ||| acc.getD q 0) 0]++r).getD q 0=acc.getD q 0:=by
       simp only[List.getD_eq_getElem?_getD]
       rw[List.append_assoc,List.getElem?_append_left hql]
      rw[e2];exact h
   | succ k=>
     simp at h
     simp only[befGo]at hm⊢
     have hl:(acc++[(preds o').foldl (fun s q=>s ||| 2^q ||| acc.getD q 0) 0]).length=acc.length+1:=by simp
     have e:acc.length+(k+1)=(acc++[(preds o').foldl (fun s q=>s ||| 2^q ||| acc.getD q 0) 0]).length+k:=by rw[hl];omega
     rw[e]at hm
     exact befGo_spec os _ k o h (fun q hq=>by have:=hlt q hq;omega) m hm
section
variable {P:Program} {N:Nam} {I:Inv} {ns:Nat} {ops:Array Oper} {l:List ROp} {ro:Option Nat}
theorem upon_exists {o:Oper} {a:Act} {w:World} {K:Act->World->Prop} (h:o.wpIn (FW none) 0 P a w K (fun _ _ _=>False)): ∃a' w',K a' w':=by
 replace h:=h.2
 generalize(o.semAt (FW none).round a.eval).run P w=r at h
 unfold Oper.uponIn at h
 split at h
 ·exact⟨_,_,h⟩
 ·exact⟨_,_,h⟩
 ·exact⟨_,_,h⟩
 ·obtain⟨e,w',fr,h1,_⟩:=h.2.2 [] FW_room
  cases e with
  | returned v=>exact⟨_,_,h1⟩
  | panicked ch=>exact h1.elim
  | outgrown=>obtain⟨_,_,h1⟩:=h1;exact h1.elim
 ·obtain⟨v,w',h1,_⟩:=h.2 default [] FW_room
  exact⟨_,_,h1⟩
 ·obtain⟨e,w',h1,_⟩:=h.2.2 default [] FW_room
  cases e with
  | returned v=>exact⟨_,_,h1⟩
  | panicked ch=>exact h1.elim
  | outgrown=>obtain⟨_,_,h1⟩:=h1;exact h1.elim
 ·exact h.elim
 ·exact h.elim
theorem Rz.step (hI:I.Ok N) {s s1:St} {p:Nat} {r:ROp} {o:Oper} {d:Bool} (hz:Rz N ns s) (hst:StepG P N d p r s s1) (hr:OpRel P I ns ops o r) (hk:s.heap (s.bas+p)=none) (hn:s.bas+p<s.nxt):Rz N ns s1:=by
 obtain⟨c,A,μ,lam,a,w,R⟩:=hz
 have h:=step_sound (ro:=none) hI hst hr R hk hn (fun _ _ _=>False)
 split at h
 ·obtain⟨a',w',A',μ',lam',R'⟩:=upon_exists h
  exact⟨c,A',μ',lam',a',w',R'⟩
 ·obtain⟨A',μ',lam',R'⟩:=h
  exact⟨c,A',μ',lam',_,w,R'⟩
theorem run_move (hI:I.Ok N) {T:Nat->ROp->St->Prop} (hT: ∀(i:Nat) (r:ROp) (s u:St),(∀y∈r.op.opds,evl N.G s y=evl N.G u y)->T i r s->T i r u) (hl:ops.toList.length=l.length/\ ∀(i:Nat) (r:ROp),l[i]? =some r-> ∃o,ops.toList[i]? =some o/\OpRel P I ns ops o r) {i:Nat} {l2:List Nat} {s':St}:
 ∀(l1:List Nat) (s:St),Rz N ns s->(l1++i::l2).Nodup->(∀q∈l1++i::l2,s.heap (s.bas+q)=none/\s.bas+q<s.nxt)->
  (∀j∈l1,∀x y,l[j]? =some x->l[i]? =some y->Indep x y\/IndepR x y\/IndepX x y\/(IndepD x y/\ ∀s,T j x s->T i y s->sep N.G s x y=true)\/IndepR y x)->
  RunT P N l T (l1++i::l2) s s'->RunT P N l T (i::(l1++l2)) s s':=by
 intro l1
 induction l1 with
 | nil=>intro s _ _ _ _ h;exact h
 | cons j l1 ih=>
   intro s hz hnd hfr hind h
   cases h with
   | cons hr h1 htj h2=>
     rename_i s1 rj
     obtain⟨oj,hoj,hrelj⟩:=hl.2 j rj hr
     have hnd':=List.nodup_cons.1 (by simpa using hnd:(j::(l1++i::l2)).Nodup)
     obtain⟨fj1,fj2⟩:=hfr j (by simp)
     obtain⟨fi1,fi2⟩:=hfr i (by simp)
     have hz1:Rz N ns s1:=hz.step hI h1 hrelj fj1 fj2
     obtain⟨g1,g2,g3⟩:=h1.free
     have hfr1: ∀q∈l1++i::l2,s1.heap (s1.bas+q)=none/\s1.bas+q<s1.nxt:=by
      intro q hq
      obtain⟨e1,e2⟩:=hfr q (by simp at hq⊢;exact .inr hq)
      rw[g1]
      refine⟨g3 _ e2 (fun e=>hnd'.1 ?_) e1,by omega⟩
      have:q=j:=by omega
      exact this▸hq
     have h3:=ih s1 hz1 hnd'.2 hfr1 (fun q hq x y hx hy=>hind q (List.mem_cons_of_mem _ hq) x y hx hy) h2
     cases h3 with
     | cons hri h4 hti h5=>
       rename_i t1 ri
       have hij:=hind j List.mem_cons_self rj ri hr hri
       have hne:j≠i:=by rintro rfl;exact hnd'.1 (by simp)
       have hd:(∀t∈ri.reads,rj.dst≠some t)/\ ∀t∈rj.reads,ri.dst≠some t:=by
        rcases hij with hij | hij | hij | hij | hij
        ·exact⟨hij.d1,hij.d2⟩
        ·exact⟨hij.d1,hij.d2⟩
        ·exact⟨hij.d1,hij.d2⟩
        ·exact⟨hij.1.d1,hij.1.d2⟩
        ·exact⟨hij.d2,hij.d1⟩
       have hti0:T i ri s:=hT i ri _ _ (fun y hy=>(h1.evl hd.1 y hy).symm) hti
       have htj0: ∀{t:St},StepG P N true i ri s t->T j rj t:=fun hst=>hT j rj _ _ (hst.evl hd.2) htj
       rcases hij with hij | hij | hij | ⟨hij,hsep⟩ | hij
       ·obtain⟨ej,hdj,hfj,rfl⟩:=h1.toD hij.r1
        obtain⟨ei,hdi,hfi,rfl⟩:=h4.toD hij.r2
        obtain⟨k1,k2,k3,k4,k5⟩:=swap hz hij hne fj1 fi1 hdj hfj hdi hfi
        refine .cons hri (k1.toG k2) hti0 (.cons hr (k3.toG k4) (htj0 (k1.toG k2)) ?_)
        rw[<- k5];exact h5
       ·obtain⟨t,k1,k3⟩:=swapR hz hij h1 h4
        exact .cons hri k1 hti0 (.cons hr k3 (htj0 k1) h5)
       ·obtain⟨ej,hdj,hfj,rfl⟩:=h1.toD (app_sh hij.ap).2.2
        obtain⟨ei,hdi,hfi,rfl⟩:=h4.toD (look_sh hij.lk).2.2.1
        obtain⟨k1,k2,k3,k4,k5⟩:=swapX hz hij hne fj1 fi1 hdj hfj hdi hfi
        refine .cons hri (k1.toG k2) hti0 (.cons hr (k3.toG k4) (htj0 (k1.toG k2)) ?_)
        rw[<- k5];exact h5
       ·have r1:rj.op.isRaw=false:=by
         rcases hij.lw with⟨h,_⟩ | ⟨h,_⟩
         ·exact(look_sh h).2.2.1
         ·exact(writes_sh h).2.2.1
        have r2:ri.op.isRaw=false:=by
         rcases hij.lw with⟨_,h⟩ | ⟨_,h⟩
         ·exact(writes_sh h).2.2.1
         ·exact(look_sh h).2.2.1
        obtain⟨ej,hdj,hfj,rfl⟩:=h1.toD r1
        obtain⟨ei,hdi,hfi,rfl⟩:=h4.toD r2
        obtain⟨k1,k2,k3,k4,k5⟩:=swapD hz hij (hsep s htj hti0) hne fj1 fi1 hdj hfj hdi hfi
        refine .cons hri (k1.toG k2) hti0 (.cons hr (k3.toG k4) (htj0 (k1.toG k2)) ?_)
        rw[<- k5];exact h5
       ·obtain⟨t,k1,k3⟩:=swapR2 hz hij h1 h4
        exact .cons hri k1 hti0 (.cons hr k3 (htj0 k1) h5)
def left (n:Nat) (listed:Array Bool):List Nat:=(List.range n).filter fun i=> !listed.getD i true
def ready (ops:Array Oper) (listed:Array Bool):List Nat:=
 (List.range ops.size).filter fun i=> !listed.getD i true&&((ops[i]?).map (·.after.all fun e=> !Region.binds .any e||listed.getD e.on false)).getD false
def fut (ops:Array Oper):Nat->Nat->Array Bool->List Nat
 | 0,_,_=>[]
 | fuel+1,t,listed=>match(ready ops listed)[t % (ready ops listed).length]? with
   | some i=>i::fut ops fuel (t/ (ready ops listed).length) (listed.setIfInBounds i true)
   | none=>[]
theorem go_fut (ops:Array Oper): ∀(fuel t:Nat) (listed:Array Bool) (acc:List Nat),Region.linearise.go .any ops fuel t listed acc=acc.reverse++fut ops fuel t listed
 | 0,t,listed,acc=>by simp[Region.linearise.go,fut]
 | fuel+1,t,listed,acc=>by
   simp only[Region.linearise.go,fut]
   show(match(ready ops listed)[t % (ready ops listed).length]? with
    | some i=>Region.linearise.go .any ops fuel (t/ (ready ops listed).length) (listed.setIfInBounds i true) (i::acc)
    | none=>acc.reverse)=_
   split
   ·rename_i i hi
    rw[go_fut ops fuel]
    simp
   ·simp
theorem getD_set (listed:Array Bool) (i q:Nat) (d:Bool) (hi:i<listed.size):(listed.setIfInBounds i true).getD q d=if q=i then true else listed.getD q d:=by
 by_cases h:q=i
 ·subst h;simp[hi]
 ·simp[h,Array.getD_eq_getD_getElem?,Ne.symm h]
theorem fut_sound (hI:I.Ok N) {T:Nat->ROp->St->Prop} (hT: ∀(i:Nat) (r:ROp) (s u:St),(∀y∈r.op.opds,evl N.G s y=evl N.G u y)->T i r s->T i r u)
 {ck:List (Nat×Nat)} (hck: ∀j i,(j,i)∈ck-> ∀x y,l[j]? =some x->l[i]? =some y-> ∀s,T j x s->T i y s->sep N.G s x y=true) {c:Ctx} (hl:ops.toList.length=l.length/\ ∀(i:Nat) (r:ROp),l[i]? =some r-> ∃o,ops.toList[i]? =some o/\OpRel P I ns ops o r) (hdr:drawOkD ck ops l=true) (Q:Exit->Act->World->Prop) {s':St}
 (hQ: ∀a' w' A' μ' lam',Rel N c ns A' μ' lam' s' a' w'->Q .normal a' w'):
 ∀(fuel t:Nat) (listed:Array Bool) (s:St) (A:Nat->Prop) (μ lam:Nat->Nat) (a:Act) (w:World),listed.size=ops.size->(left ops.size listed).length<=fuel->
  (∀(i:Nat) (o:Oper),ops[i]? =some o->listed.getD i true=true-> ∀q∈preds o,listed.getD q false=true)->
  RunT P N l T (left ops.size listed) s s'->(∀q∈left ops.size listed,s.heap (s.bas+q)=none/\s.bas+q<s.nxt)->Rel N c ns A μ lam s a w->wpOpsIn (FW ro) 0 P ops Q (fut ops fuel t listed) a w:=by
 have hn:ops.size=l.length:=by simpa using hl.1
 simp only[drawOkD,List.all_eq_true,List.mem_range,Bool.and_eq_true,Bool.or_eq_true]at hdr
 have hback: ∀(i:Nat) (o:Oper),ops[i]? =some o-> ∀q∈preds o,q<i:=by
  intro i o ho q hq
  have hi:i<ops.size:=(Array.getElem?_eq_some_iff.1 ho).1
  have:=(hdr i (by omega)).1
  rw[ho]at this
  simp only[Option.elim,List.all_eq_true,decide_eq_true_eq]at this
  exact this q hq
 intro fuel
 induction fuel with
 | zero=>
   intro t listed s A μ lam a w _ hlen _ hrun _ R
   have:left ops.size listed=[]:=List.length_eq_zero_iff.1 (by omega)
   rw[this]at hrun
   cases hrun
   exact hQ a w A μ lam R
 | succ fuel ih=>
   intro t listed s A μ lam a w hsz hlen hcl hrun hfr R
   have hmem: ∀q,q∈left ops.size listed<->q<ops.size/\listed.getD q true=false:=by
    intro q;simp[left,List.mem_filter]
   cases hL:left ops.size listed with
   | nil=>
     have hr0:ready ops listed=[]:=by
      refine List.filter_eq_nil_iff.2 fun i hi=> ?_
      have:i∉ left ops.size listed:=by rw[hL];simp
      rw[hmem]at this
      simp only[List.mem_range]at hi
      simp[hi]at this
      simp[this]
     rw[hL]at hrun
     cases hrun
     simp only[fut,hr0]
     simp only[List.getElem?_nil]
     exact hQ a w A μ lam R
   | cons h0 L0=>
     have hh0:h0∈left ops.size listed:=by rw[hL];simp
     have hsorted:(left ops.size listed).Pairwise (· < ·):=List.Pairwise.filter _ List.pairwise_lt_range
     have hpredsOf: ∀(i:Nat) (o:Oper),ops[i]? =some o->(∀q∈preds o,listed.getD q false=true)->(o.after.all fun e=> !Region.binds .any e||listed.getD e.on false)=true:=by
      intro i o ho hp
      rw[Array.all_eq_true']
      intro e he
      cases hb:Region.binds .any e with
      | false=>simp
      | true=>
        simp only[Bool.not_true,Bool.false_or]
        exact hp e.on (by simp only[preds,List.mem_filterMap];exact⟨e,by simpa using he,by simp[hb]⟩)
     have hready0:h0∈ready ops listed:=by
      obtain⟨hlt,hnl⟩:=(hmem h0).1 hh0
      refine List.mem_filter.2 ⟨List.mem_range.2 hlt,?_⟩
      rw[hnl,Array.getElem?_eq_getElem hlt]
      simp only[Bool.not_false,Bool.true_and,Option.map_some,Option.getD_some]
      refine hpredsOf h0 _ (Array.getElem?_eq_getElem hlt) (fun q hq=> ?_)
      have hqlt:=hback h0 _ (Array.getElem?_eq_getElem hlt) q hq
      have hnotin:q∉ left ops.size listed:=by
       intro hin
       rw[hL]at hin hsorted
       rcases List.mem_cons.1 hin with rfl | hin
       ·omega
       ·have:=(List.pairwise_cons.1 hsorted).1 q hin;omega
      rw[hmem]at hnotin
      have hq2:q<listed.size:=by omega
      have:listed.getD q true=true:=by
       cases hb:listed.getD q true with
       | true=>rfl
       | false=>exact absurd ⟨by omega,hb⟩ hnotin
      rw[Array.getD_eq_getD_getElem?,Array.getElem?_eq_getElem hq2]at this⊢
      exact this
     have hpos:0<(ready ops listed).length:=List.length_pos_of_mem hready0
     have hlt:t % (ready ops listed).length<(ready ops listed).length:=Nat.mod_lt _ hpos
     simp only[fut,List.getElem?_eq_getElem hlt]
     generalize hidef:(ready ops listed)[t % (ready ops listed).length]=i
     have hir:i∈ready ops listed:=by rw[<- hidef];exact List.getElem_mem hlt
     obtain⟨hi1,hi2⟩:=List.mem_filter.1 hir
     have hil:i<ops.size:=List.mem_range.1 hi1
     simp only[Bool.and_eq_true,Bool.not_eq_true']at hi2
     obtain⟨hi3,hi4⟩:=hi2
     have hioo:ops[i]? =some ops[i]:=Array.getElem?_eq_getElem hil
     rw[hioo]at hi4
     simp only[Option.map_some,Option.getD_some]at hi4
     have hipre: ∀q∈preds ops[i],listed.getD q false=true:=by
      intro q hq
      simp only[preds,List.mem_filterMap]at hq
      obtain⟨e,he,hq⟩:=hq
      split at hq
      ·rename_i hb
       simp only[Option.some.injEq]at hq;subst hq
       rw[Array.all_eq_true']at hi4
       have:=hi4 e (by simpa using he)
       simpa[hb]using this
      ·simp at hq
     have hin:i∈left ops.size listed:=(hmem i).2 ⟨hil,hi3⟩
     -- what is before it has been executed
     have hbef: ∀(k:Nat),k<ops.size->(∀(o:Oper),ops[k]? =some o-> ∀q∈preds o,listed.getD q false=true)-> ∀m,((befs ops).getD k 0).testBit m=true->listed.getD m false=true:=by
      intro k
      induction k using Nat.strongRecOn with
      | _ k ihk=>
        intro hk hp m hm
        have hko:ops.toList[k]? =some ops[k]:=by simp[hk]
        obtain⟨q,hq,hmq⟩:=befGo_spec ops.toList [] k ops[k] hko (fun q hq=>by simpa using hback k _ (Array.getElem?_eq_getElem hk) q hq) m (by simpa[befs]using hm)
        have hql:=hp _ (Array.getElem?_eq_getElem hk) q hq
        have hqk:=hback k _ (Array.getElem?_eq_getElem hk) q hq
        rcases hmq with rfl | hmq
        ·exact hql
        ·refine ihk q hqk (by omega) (fun o ho r hr=> ?_) m hmq
         refine hcl q o ho ?_ r hr
         have hq2:q<listed.size:=by omega
         rw[Array.getD_eq_getD_getElem?,Array.getElem?_eq_getElem hq2]at hql⊢
         exact hql
     obtain⟨l1,l2,hsplit⟩:=List.append_of_mem hin
     have hnd:(left ops.size listed).Nodup:=hsorted.imp (fun h=>Nat.ne_of_lt h)
     have hlt1: ∀j∈l1,j<i:=by
      intro j hj
      rw[hsplit]at hsorted
      exact(List.pairwise_append.1 hsorted).2.2 j hj i (by simp)
     have hind: ∀j∈l1,∀x y,l[j]? =some x->l[i]? =some y->Indep x y\/IndepR x y\/IndepX x y\/(IndepD x y/\ ∀s,T j x s->T i y s->sep N.G s x y=true)\/IndepR y x:=by
      intro j hj x y hx hy
      have hji:=hlt1 j hj
      have h1:=(hdr i (by omega)).2 j hji
      rcases h1 with h1 | h1
      ·have hlm:=hbef i hil (fun o ho q hq=>by rw[hioo]at ho;cases ho;exact hipre q hq) j h1
       have hjn:j∈left ops.size listed:=by rw[hsplit];simp[hj]
       obtain⟨hj1,hj2⟩:=(hmem j).1 hjn
       have hj3:j<listed.size:=by omega
       rw[Array.getD_eq_getD_getElem?,Array.getElem?_eq_getElem hj3]at hlm hj2
       simp only[Option.getD_some]at hlm hj2
       rw[hlm]at hj2;simp at hj2
      ·rw[hx,hy]at h1
       simp only[Bool.or_eq_true]at h1
       rcases h1 with(((h1 | h1) | h1) | h1) | h1
       ·exact .inl (indep_spec h1)
       ·exact .inr (.inl (indepR_spec h1))
       ·exact .inr (.inr (.inl (indepX_spec h1)))
       ·simp only[Bool.and_eq_true,List.contains_eq_mem,decide_eq_true_eq]at h1
        exact .inr (.inr (.inr (.inl ⟨indepD_spec h1.2,hck j i h1.1 x y hx hy⟩)))
       ·exact .inr (.inr (.inr (.inr (indepR_spec h1))))
     rw[hsplit]at hrun hfr hnd
     have hmv:=run_move hI hT hl l1 s ⟨c,A,μ,lam,a,w,R⟩ hnd hfr hind hrun
     cases hmv with
     | cons hri h1 _ h2=>
       rename_i s1 ri _
       obtain⟨o,ho,hrel⟩:=hl.2 i ri hri
       obtain⟨f1,f2⟩:=hfr i (by simp)
       have hs:=step_sound (ro:=ro) hI h1 hrel R f1 f2 Q
       obtain⟨g1,g2,g3⟩:=h1.free
       have hrem:left ops.size (listed.setIfInBounds i true)=l1++l2:=by
        have e1:left ops.size (listed.setIfInBounds i true)=(left ops.size listed).filter (fun q=>q != i):=by
         simp only[left,List.filter_filter]
         congr 1
         funext q
         rw[getD_set listed i q true (by omega)]
         by_cases h:q=i
         ·subst h;simp
         ·simp[h]
        rw[e1,hsplit,List.filter_append,List.filter_cons]
        simp only[bne_self_eq_false,Bool.false_eq_true,if_false]
        have hn1:i∉ l1:=fun h=>by have:=hlt1 i h;omega
        have hn2:i∉ l2:=by
         intro h
         have:=(List.nodup_append.1 hnd).2.1
         exact(List.nodup_cons.1 this).1 h
        rw[List.filter_eq_self.2 (fun q hq=>by simp;rintro rfl;exact hn1 hq),List.filter_eq_self.2 (fun q hq=>by simp;rintro rfl;exact hn2 hq)]
       have hlen':(l1++l2).length<=fuel:=by rw[hsplit]at hlen;simp at hlen⊢;omega
       have hcl': ∀(k:Nat) (o:Oper),ops[k]? =some o->(listed.setIfInBounds i true).getD k true=true-> ∀q∈preds o,(listed.setIfInBounds i true).getD q false=true:=by
        intro k o' ho' hk q hq
        rw[getD_set listed i k true (by omega)]at hk
        rw[getD_set listed i q false (by omega)]
        by_cases hki:k=i
        ·subst hki
         rw[hioo]at ho';cases ho'
         rw[hipre q hq];simp
        ·rw[if_neg hki]at hk
         rw[hcl k o' ho' hk q hq];simp
       have hfr': ∀q∈l1++l2,s1.heap (s1.bas+q)=none/\s1.bas+q<s1.nxt:=by
        intro q hq
        have hq':q∈l1++i::l2:=by simp at hq⊢;rcases hq with h | h<;>simp[h]
        obtain⟨e1,e2⟩:=hfr q hq'
        rw[g1]
        refine⟨g3 _ e2 (fun e=> ?_) e1,by omega⟩
        have hqi:q=i:=by omega
        subst hqi
        have hm1:q∉ l1:=fun h=>by have:=hlt1 q h;omega
        have hm2:q∉ l2:=by
         intro h
         have:=(List.nodup_append.1 hnd).2.1
         exact(List.nodup_cons.1 this).1 h
        simp[hm1,hm2]at hq
       rw[Array.getElem?_toList]at ho
       simp only[wpOpsIn,ho]
       have next : ∀a' w' A' μ' lam',Rel N c ns A' μ' lam' s1 a' w'->wpOpsIn (FW ro) 0 P ops Q (fut ops fuel (t/ (ready ops listed).length) (listed.setIfInBounds i true)) a' w':=by
        intro a' w' A' μ' lam' R'
        refine ih _ _ s1 A' μ' lam' a' w' (by simpa using hsz) (by rw[hrem];exact hlen') hcl' (by rw[hrem];exact h2) (by rw[hrem];exact hfr') R'
       split
       ·rename_i hw
        rw[if_pos hw]at hs
        refine upon_mono hs ?_
        rintro a' w' ⟨A',μ',lam',R'⟩
        exact next a' w' A' μ' lam' R'
       ·rename_i hw
        rw[if_neg hw]at hs
        obtain⟨A',μ',lam',R'⟩:=hs
        exact⟨fun _ _=>trivial,next _ _ A' μ' lam' R'⟩
theorem draw_sound {c:Ctx} {A:Nat->Prop} {μ lam:Nat->Nat} {s s':St} {a:Act} {w:World} (hI:I.Ok N) {T:Nat->ROp->St->Prop} (hT: ∀(i:Nat) (r:ROp) (s u:St),(∀y∈r.op.opds,evl N.G s y=evl N.G u y)->T i r s->T i r u)
 {ck:List (Nat×Nat)} (hck: ∀j i,(j,i)∈ck-> ∀x y,l[j]? =some x->l[i]? =some y-> ∀s,T j x s->T i y s->sep N.G s x y=true) (hl:ops.toList.length=l.length/\ ∀(i:Nat) (r:ROp),l[i]? =some r-> ∃o,ops.toList[i]? =some o/\OpRel P I ns ops o r) (hdr:drawOkD ck ops l=true) (Q:Exit->Act->World->Prop)
 (hrun:RunT P N l T (List.range l.length) s s') (hfresh: ∀i,i<l.length->s.heap (s.bas+i)=none/\s.bas+i<s.nxt) (R:Rel N c ns A μ lam s a w)
 (hQ: ∀a' w' A' μ' lam',Rel N c ns A' μ' lam' s' a' w'->Q .normal a' w') (t:Nat):wpOpsIn (FW ro) 0 P ops Q (Region.linearise .any ops t) a w:=by
 have hn:ops.size=l.length:=by simpa using hl.1
 have hg: ∀q d,q<ops.size->(Array.replicate ops.size false).getD q d=false:=by
  intro q d hq
  rw[Array.getD_eq_getD_getElem?,Array.getElem?_replicate,if_pos hq];rfl
 have hleft:left ops.size (Array.replicate ops.size false)=List.range l.length:=by
  simp only[left]
  rw[<- hn]
  refine List.filter_eq_self.2 fun q hq=> ?_
  rw[hg q true (List.mem_range.1 hq)];rfl
 simp only[Region.linearise,go_fut,List.reverse_nil,List.nil_append]
 refine fut_sound hI hT hck hl hdr Q hQ ops.size t _ s A μ lam a w (by simp) (by rw[hleft];simp[hn]) ?_ (by rw[hleft];exact hrun) (by rw[hleft];exact fun q hq=>hfresh q (List.mem_range.1 hq)) R
 intro i o ho hi
 have:i<ops.size:=(Array.getElem?_eq_some_iff.1 ho).1
 rw[hg i true this]at hi;simp at hi
end
end Rg
end
