/- Part of the proof of laws of relyguardlaw04. No condition. -/
import Derived.Test.YtmgalfhaeddfbaaDoorOartAF
set_option linter.unusedVariables false
set_option linter.unusedSimpArgs false
section
namespace Rg
open Go
def AOp.writes:AOp->Bool
 | .store _ _ _ | .append _ _ _ _=>true
 | _=>false
theorem zcW {op:AOp} (h:op.writes=true):op.wrL=false/\op.rdL=false/\op.isRaw=false/\isCall op=false:=by
 cases op<;>simp_all [AOp.writes,AOp.wrL,AOp.rdL,AOp.isRaw,isCall]
theorem zkH {op:AOp} (h:op.looks=true):isCall op=false:=by
 cases op<;>simp_all [AOp.looks,isCall]
theorem zoE {op:AOp}: ∀y∈op.wopd,y∈op.opds:=by
 cases op<;>simp[AOp.wopd,AOp.opds]
section
variable {P:Program} {N:Nam} {s u:St}
theorem zoo {G:Nat->List T} {x:Opd} (h: ∀t∈x.slots,s.env t=u.env t):evl G s x=evl G u x:=by
 cases x with
 | s t=>simp only[evl,h t (by simp[Opd.slots])]
 | m mt t=>simp only[evl,h t (by simp[Opd.slots])]
 | c v=>rfl
 | g q=>rfl
theorem wkey {op:AOp} {p:Nat} {G:Nat->List T} {e:Eff} (hl:op.writes=true) (he:zaj G p s op=some e):
 ∀x∈e.hp,x.1=s.bas+p\/ ∃y∈op.wopd,∃v,evl G s y=some v/\x.1∈v.top:=by
 intro x hx;cases op<;>simp only[AOp.writes,zG]at hl
 ·simp only[zaj,zC,zB]at he;obtain⟨u,hu,he⟩:=he;split at he
  ·split at he
   ·simp only[zB]at he;obtain⟨row,_,v,_,new,_,he⟩:=he;split at he
    ·simp only[zB,zA]at he;obtain⟨row',_,rfl⟩:=he;simp only[List.mem_singleton]at hx;subst hx;exact .inr ⟨_,by simp[AOp.wopd],_,hu,by simp[V.top]⟩
    ·cases he
   ·cases he
  ·cases he
 ·simp only[zaj,zC,zB]at he;obtain⟨u,hu,v,hv,a,ha,b,hb,he⟩:=he;split at he
  ·split at he
   ·cases he;cases hx
   ·split at he
    ·cases he;simp only[List.mem_cons,List.not_mem_nil,or_false]at hx;subst hx;exact .inl rfl
    ·simp only[zB,zA]at he;obtain⟨ts,_,rfl⟩:=he;cases hx
    ·split at he
     ·split at he
      ·cases he;simp only[List.mem_cons,List.not_mem_nil,or_false]at hx;rcases hx with rfl | rfl
       ·exact .inr ⟨_,by simp[AOp.wopd],_,hu,by simp[V.top]⟩
       ·exact .inl rfl
      ·cases he
     ·cases he
    ·cases he
  ·cases he
theorem DStep.transferE {p:Nat} {x:ROp} {d:Option Nat} {e' e:Eff} (Dm:isCall x.op=false) (Bb:x.op.rdL=false) (CO: ∀t∈x.reads,d≠some t)
 (Ar: ∀y∈x.op.opds,∀v,evl N.G s y=some v-> ∀k∈v.top,s.heap k=(s.apply d e').heap k):
 DStep P N p x s e<->DStep P N p x (s.apply d e') e:=by
 have Cm: ∀t,d≠some t->(s.apply d e').env t=s.env t:=by
  intro t ht
  cases d with
  | none=>rfl
  | some d'=>simp only[St.apply];exact zad _ _ (fun h=>ht (by rw[h]))
 have It: ∀t,d≠some t->(s.apply d e').adr t=s.adr t:=by
  intro t ht
  cases d with
  | none=>rfl
  | some d'=>simp only[St.apply];exact zad _ _ (fun h=>ht (by rw[h]))
 have Ao: ∀y∈x.op.opds,∀t∈y.slots,d≠some t:=by
  intro y hy t ht;exact CO t (List.mem_append_left _ (List.mem_flatMap.2 ⟨y,hy,ht⟩))
 have Ak: ∀y∈x.op.opds,evl N.G s y=evl N.G (s.apply d e') y:=fun y hy=>zoo fun t ht=>(Cm t (Ao y hy t ht)).symm
 have BB: ∀y∈x.op.opds,zd8 s y=zd8 (s.apply d e') y:=by
  intro y hy
  cases y with
  | s t=>simp only[zd8,Cm t (Ao _ hy t (by simp[Opd.slots])),It t (Ao _ hy t (by simp[Opd.slots]))]
  | m mt t=>rfl
  | c v=>rfl
  | g q=>rfl
 have B6:zcs s x.guard=zcs (s.apply d e') x.guard:=by
  cases hg:x.guard with
  | none=>rfl
  | some gw=>
    obtain⟨g,wnt⟩:=gw;simp only[zcs,Cm g (CO g (by simp[ROp.reads,hg]))]
 have Hj:zaj N.G p s x.op=zaj N.G p (s.apply d e') x.op:=zfg Ak BB (fun h=>by rw[Bb]at h;cases h) (fun _=>Ar) rfl;constructor
 ·intro h
  cases h with
  | skip hw=>exact .skip (B6▸hw)
  | eff hw he=>exact .eff (B6▸hw) (Hj▸he)
  | pure hw ho=>rw[ho]at Dm;cases Dm
  | fresh hw ho=>rw[ho]at Dm;cases Dm
 ·intro h
  cases h with
  | skip hw=>exact .skip (B6▸hw)
  | eff hw he=>exact .eff (B6▸hw) (Hj▸he)
  | pure hw ho=>rw[ho]at Dm;cases Dm
  | fresh hw ho=>rw[ho]at Dm;cases Dm
def zsx (a b:ROp):Bool:=
 (match a.dst with | some d=> !b.reads.contains d&&b.dst != some d | none=>true)&&
 (match b.dst with | some d=> !a.reads.contains d | none=>true)&&((a.op.looks&&b.op.writes)||(a.op.writes&&b.op.looks))&&a.op.opds.all Opd.plain&&b.op.opds.all Opd.plain
structure IndepD (a b:ROp):Prop where
 d1: ∀t∈b.reads,a.dst≠some t
 d12: ∀x,a.dst=some x->b.dst≠some x
 d2: ∀t∈a.reads,b.dst≠some t
 lw:(a.op.looks=true/\b.op.writes=true)\/(a.op.writes=true/\b.op.looks=true)
 p1: ∀y∈a.op.opds,y.plain=true
 p2: ∀y∈b.op.opds,y.plain=true
theorem zoc {a b:ROp} (h:zsx a b=true):IndepD a b:=by
 simp only[zsx,zF,Bool.or_eq_true,List.all_eq_true]at h;obtain⟨⟨⟨⟨a1,a2⟩,a3⟩,a5⟩,a6⟩:=h;refine⟨?_,?_,?_,a3,a5,a6⟩
 ·intro t ht hd;rw[hd]at a1;simp at a1;exact a1.1 ht
 ·intro x hx hd;rw[hx]at a1;simp[hd]at a1
 ·intro t ht hd;rw[hd]at a2;simp at a2;exact a2 ht
theorem zi3 {G:Nat->List T} {l:List Opd} {y:Opd} {v:V} {k:Nat} (hy:y∈l) (hv:evl G s y=some v) (hk:k∈v.top):k∈zid G s l:=
 List.mem_flatMap.2 ⟨y,hy,by rw[hv];exact hk⟩
theorem DStep.wkey {p:Nat} {x:ROp} {e:Eff} (h:DStep P N p x s e) (hw:x.op.writes=true): ∀z∈e.hp,z.1=s.bas+p\/z.1∈zid N.G s x.op.wopd:=by
 have Dm:=(zcW hw).2.2.2
 cases h with
 | skip hw=>simp
 | eff _ he=>
   intro z hz;rcases Rg.wkey hw he z hz with h | ⟨y,hy,v,hv,hk⟩
   ·exact .inl h
   ·exact .inr (zi3 hy hv hk)
 | pure hw ho=>rw[ho]at Dm;cases Dm
 | fresh hw ho=>rw[ho]at Dm;cases Dm
theorem zL3 {op:AOp}: ∀y∈op.kargs,y∈op.opds:=by
 cases op<;>simp +contextual [AOp.kargs,AOp.opds]
theorem zLV {op:AOp}: ∀y∈op.lwopd,y∈op.opds:=by
 cases op<;>simp[AOp.lwopd,AOp.opds]
theorem zIm {l:List Opd} (h: ∀y∈l,zd8 s y=zd8 u y):zIa s l=zIa u l:=by
 unfold zIa
 induction l with
 | nil=>rfl
 | cons y l ih=>rw[List.filterMap_cons,List.filterMap_cons,h y (by simp),ih fun z hz=>h z (by simp[hz])]
theorem zrB {G:Nat->List T} {a b:ROp} (ha: ∀y∈a.op.opds,evl G s y=evl G u y/\zd8 s y=zd8 u y) (hb: ∀y∈b.op.opds,evl G s y=evl G u y/\zd8 s y=zd8 u y):sep G s a b=sep G u a b:=by
 simp only[sep,zeW (fun y hy=>(ha y hy).1),zeW (fun y hy=>(hb y hy).1),zeW (fun y hy=>(ha y (zoE y hy)).1),zeW (fun y hy=>(hb y (zoE y hy)).1),
  zeW (fun y hy=>(hb y (zL3 y hy)).1),zIm (fun y hy=>(ha y hy).2),zIm (fun y hy=>(hb y (zLV y hy)).2)]
theorem zBj {ns:Nat} (hz:Rz N ns s) {pj pi:Nat} {j i:ROp} {ej ei:Eff} (Av:IndepD j i) (hs:sep N.G s j i=true) (Kl:pj≠pi) (fj:s.heap (s.bas+pj)=none) (fi:s.heap (s.bas+pi)=none)
 (hj:DStep P N pj j s ej) (Dg:s.free j.dst ej) (hi:DStep P N pi i (s.apply j.dst ej) ei) (BJ:(s.apply j.dst ej).free i.dst ei):
 DStep P N pi i s ei/\s.free i.dst ei/\DStep P N pj j (s.apply i.dst ei) ej/\(s.apply i.dst ei).free j.dst ej/\(s.apply j.dst ej).apply i.dst ei=(s.apply i.dst ei).apply j.dst ej:=by
 have cj:isCall j.op=false/\j.op.rdL=false/\j.op.wrL=false:=by
  rcases Av.lw with⟨h,_⟩ | ⟨h,_⟩
  ·exact⟨zkH h,(zdD h).2.2.2,(zdD h).2.1⟩
  ·exact⟨(zcW h).2.2.2,(zcW h).2.1,(zcW h).1⟩
 have ci:isCall i.op=false/\i.op.rdL=false/\i.op.wrL=false:=by
  rcases Av.lw with⟨_,h⟩ | ⟨_,h⟩
  ·exact⟨(zcW h).2.2.2,(zcW h).2.1,(zcW h).1⟩
  ·exact⟨zkH h,(zdD h).2.2.2,(zdD h).2.1⟩
 obtain⟨sj1,sj2,sj3,sj4,sj5⟩:=hj.shape;have Kp:ej.wloc=none:=sj1 cj.2.2
 have AK:DStep P N pi i s ei:=by
  refine(DStep.transferE ci.1 ci.2.1 Av.d1 (fun y hy v hv k hk=> ?_)).2 hi;obtain⟨o,ho⟩:=hz.top (Av.p2 y hy) hv k hk;show s.heap k=zbf s.heap ej.hp k;rw[zbv];rintro z IN rfl;rcases Av.lw with⟨hl,hw⟩ | ⟨hw,hl⟩
  ·have:=sj2 (zdD hl).1 z IN;rw[this,fj]at ho;cases ho
  ·rcases hj.wkey hw z IN with h | h
   ·rw[h,fj]at ho;cases ho
   ·have Hx:j.op.looks=false/\j.op.looksL=false/\i.op.isSt=false:=by
     refine⟨?_,?_,?_⟩
     ·revert hw;cases j.op<;>simp[AOp.writes,AOp.looks]
     ·revert hw;cases j.op<;>simp[AOp.writes,AOp.looksL]
     ·revert hl;cases i.op<;>simp[AOp.isSt,AOp.looks]
    simp only[sep,Hx.1,Hx.2.1,Hx.2.2,zG,Bool.and_false,Bool.false_and,if_false,List.all_eq_true]at hs;have:=hs _ (zi3 hy hv hk);simp[h]at this
 have Ek:s.free i.dst ei:=by
  intro d hd;obtain⟨h1,h2⟩:=BJ d hd;refine⟨?_,h2⟩
  cases hu:s.used d with
  | false=>rfl
  | true=>have:=zeE (d:=j.dst) (e:=ej) hu;rw[h1]at this;simp at this
 obtain⟨si1,si2,si3,si4,si5⟩:=AK.shape
 have Dp:DStep P N pj j (s.apply i.dst ei) ej:=by
  refine(DStep.transferE cj.1 cj.2.1 Av.d2 (fun y hy v hv k hk=> ?_)).1 hj;obtain⟨o,ho⟩:=hz.top (Av.p1 y hy) hv k hk;show s.heap k=zbf s.heap ei.hp k;rw[zbv];rintro z IN rfl;rcases Av.lw with⟨hl,hw⟩ | ⟨hw,hl⟩
  ·rcases AK.wkey hw z IN with h | h
   ·rw[h,fi]at ho;cases ho
   ·have Hx:j.op.looksL=false/\i.op.keeps=false/\j.op.isSt=false:=by
     refine⟨?_,?_,?_⟩
     ·revert hl;cases j.op<;>simp[AOp.looksL,AOp.looks]
     ·revert hw;cases i.op<;>simp[AOp.writes,AOp.keeps]
     ·revert hl;cases j.op<;>simp[AOp.isSt,AOp.looks]
    simp only[sep,Hx.1,Hx.2.1,Hx.2.2,hl,zG,Bool.and_false,Bool.false_and,if_false,if_true,List.all_eq_true]at hs;have:=hs _ (zi3 hy hv hk);simp[h]at this
  ·have:=si2 (zdD hl).1 z IN;rw[this,fi]at ho;cases ho
 have BA: ∀{x:ROp} {y:Opd},y∈x.op.opds-> ∀t∈y.slots,t∈x.reads:=fun hy t ht=>List.mem_append_left _ (List.mem_flatMap.2 ⟨_,hy,ht⟩)
 have GT:(s.apply i.dst ei).free j.dst ej:=by
  intro d hd;obtain⟨h1,h2⟩:=Dg d hd;refine⟨?_,h2⟩;simp only[St.apply]
  cases ha:ei.adr with
  | none=>exact h1
  | some bo=>
    obtain⟨b,o⟩:=bo;obtain⟨y,hy,o',hr⟩:=si5 b o ha;have hb:b≠d:=zhG hz hr (fun Aj=>Av.d1 d (BA hy d Aj) hd) h1;simp only[zad _ _ (Ne.symm hb)];exact h1
 refine⟨AK,Ek,Dp,GT,zeT Av.d12 (.inl Kp) (fun b cs hb=>by rw[Kp]at hb;cases hb) (fun b cs hb=>by rw[si1 ci.2.2]at hb;cases hb) ?_⟩;intro x hx y hy e;have Az:s.bas+pj≠s.bas+pi:=by omega
 rcases Av.lw with⟨hl,hw⟩ | ⟨hw,hl⟩
 ·have e1:=sj2 (zdD hl).1 x hx;rcases si3 y hy with h1 | h1
  ·exact Az (by rw[<- e1,<- h1,e])
  ·rw[<- e,e1,fj]at h1;simp at h1
 ·have e2:=si2 (zdD hl).1 y hy;rcases sj3 x hx with h1 | h1
  ·exact Az (by rw[<- h1,<- e2,e])
  ·rw[e,e2,fi]at h1;simp at h1
theorem StepG.env {d:Bool} {p:Nat} {o:ROp} {s':St} (h:StepG P N d p o s s') {q:Nat} (hq:o.dst≠some q):s'.env q=s.env q:=by
 have key: ∀(t:St) (e:Eff),t.env=s.env->(t.apply o.dst e).env q=s.env q:=by
  intro t e ht
  cases hd:o.dst with
  | none=>simp only[St.apply,ht]
  | some x=>simp only[St.apply,ht];exact zad _ _ (fun h=>hq (by rw[hd,h]))
 cases h<;>exact key _ _ rfl
theorem StepG.evl {d:Bool} {p:Nat} {o x:ROp} {s':St} (h:StepG P N d p o s s') (hd: ∀t∈x.reads,o.dst≠some t): ∀y∈x.op.opds,evl N.G s y=evl N.G s' y:=
 fun y hy=>zoo fun t ht=>(h.env (hd t (List.mem_append_left _ (List.mem_flatMap.2 ⟨y,hy,ht⟩)))).symm
theorem zxQ {ns:Nat} (hz:Rz N ns s) {pj pi:Nat} {j i:ROp} {s1 s2:St} (Av:IndepR i j) (h1:StepG P N true pj j s s1) (h2:StepG P N true pi i s1 s2):
 ∃t,StepG P N true pi i s t/\StepG P N true pj j t s2:=by
 obtain⟨sr,swH,swL,snr⟩:=zld Av.st;obtain⟨ei,H7,BJ,rfl⟩:=h2.toD snr
 have Kw:ei.hp=[]/\ei.wloc=none:=by
  cases H7 with
  | skip hw=>exact⟨rfl,rfl⟩
  | eff hw he=>exact zml Av.st he
  | pure hw ho=>exact⟨rfl,rfl⟩
  | fresh hw ho=>have:=Av.st;rw[ho]at this;cases this
 obtain⟨ehp,ewl⟩:=Kw;have BA: ∀{x:ROp} {y:Opd},y∈x.op.opds-> ∀t∈y.slots,t∈x.reads:=fun hy t ht=>List.mem_append_left _ (List.mem_flatMap.2 ⟨_,hy,ht⟩)
 -- the operation that looks at slots alone,ahead of the call
 have first : ∀(H':Nat->Option O) (n':Nat) (r:V),s.free j.dst {}->DStep P N pi i (({ s with heap:=H',nxt:=n' }:St).apply j.dst { val:=r }) ei->DStep P N pi i s ei:=by
  intro H' n' r Dg hd;refine(DStep.transfer (d:=j.dst) (e':= { val:=r }) hz Av.p1 Av.d2 (fun d' hd=>(Dg d' hd).1) (fun _=>rfl) (fun hr=>by rw[sr]at hr;cases hr)).2 ?_
  cases hd with
  | skip hw=>exact .skip hw
  | eff hw he=>exact .eff hw (by rw[<- zkg (H:=H') (n:=n') Av.st];exact he)
  | pure hw ho=>have:=Av.st;rw[ho]at this;cases this
  | fresh hw ho=>have:=Av.st;rw[ho]at this;cases this
 have fin: ∀(H':Nat->Option O) (n':Nat) (r:V),s.free j.dst {}->DStep P N pi i s ei->s.free i.dst ei->
  (∀(q:Opd),q∈j.op.opds->evl N.G s q=evl N.G (s.apply i.dst ei) q)/\zcs s j.guard=zcs (s.apply i.dst ei) j.guard/\(s.apply i.dst ei).heap=s.heap/\(s.apply i.dst ei).free j.dst {}/\
  (({ s with heap:=H',nxt:=n' }:St).apply j.dst { val:=r }).apply i.dst ei=({ s.apply i.dst ei with heap:=H',nxt:=n' }:St).apply j.dst { val:=r }:=by
  intro H' n' r Dg hd hf;have hg:=hd.toG hf;refine⟨hg.evl Av.d1,?_,by simp only[St.apply,ehp,zbf],?_,?_⟩
  ·cases FD:j.guard with
   | none=>rfl
   | some gw=>
     obtain⟨g,wnt⟩:=gw;have:=hg.env (q:=g) (Av.d1 g (by simp[ROp.reads,FD]));simp only[zcs,this]
  ·intro d JS;obtain⟨k1,_⟩:=Dg d JS;refine⟨?_,fun b o hb=>by cases hb⟩;simp only[St.apply]
   cases ha:ei.adr with
   | none=>exact k1
   | some bo=>
     obtain⟨b,o⟩:=bo;obtain⟨y,hy,o',hr⟩:=hd.shape.2.2.2.2 b o ha;have hb:b≠d:=zhG hz hr (fun Aj=>Av.d2 d (BA hy d Aj) JS) k1;simp only[zad _ _ (Ne.symm hb)];exact k1
  ·have e1:({ s.apply i.dst ei with heap:=H',nxt:=n' }:St)=({ s with heap:=H',nxt:=n' }:St).apply i.dst ei:=by
    simp only[St.apply,ehp,zbf]
   rw[e1,zeT (s:={ s with heap:=H',nxt:=n' }) (fun x hx hy=>Av.d12 x hy hx) (.inl rfl) (fun b cs hb=>by cases hb) (fun b cs hb=>by rw[ewl]at hb;cases hb) (by simp)]
 cases h1 with
 | skip hw hf=>
   have hd:=first s.heap s.nxt .undef hf H7;obtain⟨g1,g2,g3,g4,g5⟩:=fin s.heap s.nxt .undef hf hd BJ;refine⟨_,hd.toG BJ,?_⟩;have:=StepG.skip (P:=P) (N:=N) (d:=true) (p:=pj) (o:=j) (s:=s.apply i.dst ei) (by rw[<- g2];exact hw) g4;rw[show(s.apply j.dst {}).apply i.dst ei=(s.apply i.dst ei).apply j.dst {}from ?_]
   ·exact this
   ·have e2:({ s.apply i.dst ei with heap:=s.heap,nxt:=s.nxt }:St)=s.apply i.dst ei:=by simp only[St.apply,ehp,zbf]
    rw[e2]at g5;exact g5
 | eff hw hf he=>have:=Av.rw;revert he;cases Jo:j.op<;>rw[Jo]at this<;>simp[AOp.isRaw]at this<;>simp[zaj]
 | pure hw hf ho=>have:=Av.rw;rw[ho]at this;simp[AOp.isRaw]at this
 | fresh hw hf ho=>have:=Av.rw;rw[ho]at this;simp[AOp.isRaw]at this
 | raw hw hf ho As Ax Bu An Au hc hn AG A8=>
   rename_i f args fv g a a0 b vs r rf H' n';have hd:=first H' n' r hf H7;obtain⟨g1,g2,g3,g4,g5⟩:=fin H' n' r hf hd BJ;have Ak: ∀y,y∈f::args->evl N.G s y=evl N.G (s.apply i.dst ei) y:=fun y hy=>g1 y (by rw[ho];exact hy)
   rw[Ak f (by simp)]at As;rw[zbZ (fun x hx=>Ak x (by simp[hx]))]at Au;refine⟨_,hd.toG BJ,?_⟩;rw[g5]
   exact .raw (by rw[<- g2];exact hw) g4 ho As Ax (by rw[g3];exact Bu) An Au (by rw[g3];exact hc) hn (by rw[g3];exact AG) (fun hk k hm=>by
    have ht:zid N.G s args=zid N.G (s.apply i.dst ei) args:=zeW (fun y hy=>Ak y (List.mem_cons_of_mem _ hy))
    rw[g3];exact A8 hk k (by rw[ht];exact hm))
 | yld hw hf ho As hk Au Ac Bi AT CL AF AG=>
   rename_i f args k vs env env1 env' ps ps1 ps' ca cb bd1 bd' e t1 t2;have hd:=first _ _ _ hf H7;obtain⟨g1,g2,g3,g4,g5⟩:=fin _ _ _ hf hd BJ;have Ak: ∀y,y∈f::args->evl N.G s y=evl N.G (s.apply i.dst ei) y:=fun y hy=>g1 y (by rw[ho];exact hy)
   rw[Ak f (by simp)]at As;rw[zbZ (fun x hx=>Ak x (by simp[hx]))]at Au;refine⟨_,hd.toG BJ,?_⟩;rw[g5];exact .yld (by rw[<- g2];exact hw) g4 ho As (by rw[g3];exact hk) Au Ac (by rw[g3];exact Bi) AT CL AF (by rw[g3];exact AG)
theorem StepG.adr {d:Bool} {p:Nat} {o:ROp} {s':St} (h:StepG P N d p o s s') {q:Nat} (hq:o.dst≠some q):s'.adr q=s.adr q:=by
 have key: ∀(t:St) (e:Eff),t.adr=s.adr->e.adr=none\/True->(t.apply o.dst e).adr q=s.adr q:=by
  intro t e ht _
  cases hd:o.dst with
  | none=>simp only[St.apply,ht]
  | some x=>simp only[St.apply,ht];exact zad _ _ (fun h=>hq (by rw[hd,h]))
 cases h<;>exact key _ _ rfl (.inr trivial)
theorem zId {x:Opd} (h: ∀t∈x.slots,s.env t=u.env t/\s.adr t=u.adr t):zd8 s x=zd8 u x:=by
 cases x with
 | s t=>simp only[zd8,(h t (by simp[Opd.slots])).1,(h t (by simp[Opd.slots])).2]
 | m mt t=>rfl
 | c v=>rfl
 | g q=>rfl
theorem StepG.both {d:Bool} {p:Nat} {o x:ROp} {s':St} (h:StepG P N d p o s s') (hd: ∀t∈x.reads,o.dst≠some t): ∀y∈x.op.opds,Rg.evl N.G s y=Rg.evl N.G s' y/\zd8 s y=zd8 s' y:=
 fun y hy=>⟨h.evl hd y hy,zId fun t ht=>⟨(h.env (hd t (List.mem_append_left _ (List.mem_flatMap.2 ⟨y,hy,ht⟩)))).symm,(h.adr (hd t (List.mem_append_left _ (List.mem_flatMap.2 ⟨y,hy,ht⟩)))).symm⟩⟩
def zL6 (a b:ROp):Bool:=
 (match a.dst with | some d=> !b.reads.contains d&&b.dst != some d | none=>true)&&
 (match b.dst with | some d=> !a.reads.contains d | none=>true)&&
 ((a.op.looks&&b.op.keeps)||(a.op.looksL&&b.op.isStL&&b.dst==none)||(a.op.isSt&&b.op.isSt&&a.dst==none&&b.dst==none))&&a.op.opds.all Opd.plain&&(b.op.keeps||b.op.opds.all Opd.plain)
structure IndepE (a b:ROp):Prop where
 d1: ∀t∈b.reads,a.dst≠some t
 d12: ∀x,a.dst=some x->b.dst≠some x
 d2: ∀t∈a.reads,b.dst≠some t
 kd:(a.op.looks=true/\b.op.keeps=true)\/(a.op.looksL=true/\b.op.isStL=true/\b.dst=none/\ ∀y∈b.op.opds,y.plain=true)\/
  (a.op.isSt=true/\b.op.isSt=true/\a.dst=none/\b.dst=none/\ ∀y∈b.op.opds,y.plain=true)
 p1: ∀y∈a.op.opds,y.plain=true
theorem zKm {a b:ROp} (h:zL6 a b=true):IndepE a b:=by
 simp only[zL6,zF,Bool.or_eq_true,List.all_eq_true,beq_iff_eq]at h;obtain⟨⟨⟨⟨a1,a2⟩,a3⟩,a5⟩,a6⟩:=h;refine⟨?_,?_,?_,?_,a5⟩
 ·intro t ht hd;rw[hd]at a1;simp at a1;exact a1.1 ht
 ·intro x hx hd;rw[hx]at a1;simp[hd]at a1
 ·intro t ht hd;rw[hd]at a2;simp at a2;exact a2 ht
 ·have nk:b.op.isStL=true\/b.op.isSt=true-> ¬b.op.keeps=true:=by
   cases b.op<;>simp[AOp.isStL,AOp.isSt,AOp.keeps]
  rcases a3 with(a3 | a3) | a3
  ·exact .inl a3
  ·exact .inr (.inl ⟨a3.1.1,a3.1.2,a3.2,a6.resolve_left (nk (.inl a3.1.2))⟩)
  ·exact .inr (.inr ⟨a3.1.1.1,a3.1.1.2,a3.1.2,a3.2,a6.resolve_left (nk (.inr a3.1.1.2))⟩)
theorem zLW {op:AOp} {e:Eff} {p:Nat} {G:Nat->List T} (h:op.looks=true) (he:zaj G p s op=some e):e.hp=[]/\e.wloc=none:=by
 cases op<;>simp only[AOp.looks,zG]at h
 all_goals simp only[zaj,zC,zB,zA]at he
 all_goals(try(repeat(first | (obtain⟨_,_,he⟩:=he) | split at he | (simp only[zB,zA]at he))))
 all_goals(try(repeat(first | (obtain⟨_,_,he⟩:=he) | split at he | (simp only[zB,zA]at he))))
 all_goals(try(repeat(first | (obtain⟨_,_,he⟩:=he) | split at he | (simp only[zB]at he))))
 all_goals(try(repeat(first | (obtain⟨_,_,he⟩:=he) | split at he | (simp only[zB,zA]at he))))
 all_goals(try(simp at he;done))
 all_goals(try cases he)
 all_goals(try exact⟨rfl,rfl⟩)
theorem zLc {op:AOp} {e:Eff} {p:Nat} {G:Nat->List T} (h:op.looksL=true) (he:zaj G p s op=some e):e.hp=[]/\e.wloc=none:=by
 cases op<;>simp only[AOp.looksL,zG]at h
 all_goals simp only[zaj,zC,zB,zA,Prod.exists]at he
 ·obtain⟨_,_,_,_,_,_,_,_,_,rfl⟩:=he;exact⟨rfl,rfl⟩
 ·obtain⟨_,_,_,_,_,rfl⟩:=he;exact⟨rfl,rfl⟩
theorem zKk {op:AOp} (h:op.looks=true):isCall op=false/\op.isRaw=false:=by
 cases op<;>simp_all [AOp.looks,isCall,AOp.isRaw]
theorem zHA {op:AOp} (h:op.looksL=true):isCall op=false/\op.isRaw=false/\op.wrH=false/\op.wrL=false/\op.rdH=false:=by
 cases op<;>simp_all [AOp.looksL,isCall,AOp.isRaw,AOp.wrH,AOp.wrL,AOp.rdH]
theorem zMr {op:AOp} (h:op.isStL=true):isCall op=false/\op.isRaw=false/\op.wrH=false/\op.rdH=false:=by
 cases op<;>simp_all [AOp.isStL,isCall,AOp.isRaw,AOp.wrH,AOp.rdH]
theorem zIi {op:AOp} (h:op.isSt=true):isCall op=false/\op.isRaw=false/\op.wrL=false/\op.rdL=false/\op.writes=true:=by
 cases op<;>simp_all [AOp.isSt,isCall,AOp.isRaw,AOp.wrL,AOp.rdL,AOp.writes]
theorem DStep.effE {p:Nat} {x:ROp} {e:Eff} (Dm:isCall x.op=false) (h:DStep P N p x s e):(zcs s x.guard=some false/\e= {})\/(zcs s x.guard=some true/\zaj N.G p s x.op=some e):=by
 cases h with
 | skip hw=>exact .inl ⟨hw,rfl⟩
 | eff hw he=>exact .inr ⟨hw,he⟩
 | pure hw ho=>rw[ho]at Dm;cases Dm
 | fresh hw ho=>rw[ho]at Dm;cases Dm
theorem zHf {g:Option (Nat×Bool)} (h: ∀q,(∃b,g=some (q,b))->s.env q=u.env q):zcs s g=zcs u g:=by
 cases g with
 | none=>rfl
 | some gw=>obtain⟨g,w⟩:=gw;simp only[zcs,h g ⟨w,rfl⟩]
theorem zM0 {op:AOp} {p:Nat} {G:Nat->List T} {e:Eff} (hw:op.isStL=true) (he:zaj G p s op=some e):e.adr=none/\e.hp=[]/\ ∀b cs,e.wloc=some (b,cs)->b∈zIa s op.lwopd:=by
 cases op<;>simp only[AOp.isStL,zG]at hw
 simp only[zaj,zC,zB,Prod.exists]at he;obtain⟨b',o,hr,_,_,_,_,_,_,he⟩:=he;split at he
 ·simp only[zB,zA]at he;obtain⟨_,_,rfl⟩:=he;refine⟨rfl,rfl,fun b cs hb=> ?_⟩;simp only[zA,Prod.mk.injEq]at hb;obtain⟨rfl,_⟩:=hb;simp[AOp.lwopd,zIa,hr]
 ·cases he
theorem zNy {op:AOp} {p:Nat} {G:Nat->List T} {e:Eff} (hw:op.isSt=true) (he:zaj G p s op=some e):(∀z∈e.hp,z.1∈zid G s op.wopd)/\e.wloc=none/\e.adr=none:=by
 cases op<;>simp only[AOp.isSt,zG]at hw
 simp only[zaj,zC,zB]at he;obtain⟨z,hz,he⟩:=he;split at he
 ·split at he
  ·simp only[zB]at he;obtain⟨row,_,v,_,new,_,he⟩:=he;split at he
   ·simp only[zB,zA]at he;obtain⟨row',_,rfl⟩:=he;refine⟨?_,rfl,rfl⟩;intro z Mk;simp only[List.mem_singleton]at Mk;subst Mk;exact zi3 (by simp[AOp.wopd]) hz (by simp[V.top])
   ·cases he
  ·cases he
 ·cases he
theorem zMZ {op:AOp} {p:Nat} {G:Nat->List T} (hw:op.isSt=true) (Ak: ∀y∈op.opds,evl G s y=evl G u y) (hh: ∀y∈op.wopd,∀z,evl G s y=some z-> ∀k∈z.top,s.heap k=u.heap k):zaj G p s op=zaj G p u op:=by
 cases op<;>simp only[AOp.isSt,zG]at hw
 rename_i n a w;simp only[zaj,<- Ak a (by simp[AOp.opds]),<- Ak w (by simp[AOp.opds])]
 cases ha:evl G s a with
 | none=>rfl
 | some z=>
   simp only[zC,zD]
   cases z with
   | mp k i off=>simp only[hh a (by simp[AOp.wopd]) _ ha k (by simp[V.top])]
   | _=>rfl
theorem zOy {ns:Nat} (hz:Rz N ns s) {pj pi:Nat} {j i:ROp} {s1 s2:St} (Av:IndepE j i) (hs:sep N.G s j i=true)
 (h1:StepG P N true pj j s s1) (h2:StepG P N true pi i s1 s2): ∃t,StepG P N true pi i s t/\StepG P N true pj j t s2:=by
 have cj:isCall j.op=false/\j.op.isRaw=false:=by
  rcases Av.kd with⟨h,_⟩ | ⟨h,_⟩ | ⟨h,_⟩
  ·exact zKk h
  ·exact⟨(zHA h).1,(zHA h).2.1⟩
  ·exact⟨(zIi h).1,(zIi h).2.1⟩
 have FD: ∀{x:ROp} {q:Nat},(∃b,x.guard=some (q,b))->q∈x.reads:=by
  rintro x q ⟨b,hb⟩;simp[ROp.reads,hb]
 have BA: ∀{x:ROp} {y:Opd},y∈x.op.opds-> ∀t∈y.slots,t∈x.reads:=fun hy t ht=>List.mem_append_left _ (List.mem_flatMap.2 ⟨_,hy,ht⟩)
 obtain⟨ej,Gb,Dg,rfl⟩:=h1.toD cj.2;rcases Av.kd with⟨hl,hk⟩ | ⟨hl,hw,DQ,BL⟩ | ⟨hl,hw,Tg,DQ,BL⟩
 ·-- a call that keeps what is looked at
  have Ic:ej.hp=[]/\ej.wloc=none:=by
   rcases Gb.effE cj.1 with⟨_,rfl⟩ | ⟨_,he⟩
   ·exact⟨rfl,rfl⟩
   ·exact zLW hl he
  obtain⟨ehp,ewl⟩:=Ic;have Ar:(s.apply j.dst ej).heap=s.heap:=by simp only[St.apply,ehp,zbf]
  have Cm: ∀t∈i.reads,(s.apply j.dst ej).env t=s.env t:=fun t ht=>h1.env (Av.d1 t ht)
  have Ao: ∀y∈i.op.opds,evl N.G (s.apply j.dst ej) y=evl N.G s y:=fun y hy=>zoo fun t ht=>Cm t (BA hy t ht)
  have E4:zcs (s.apply j.dst ej) i.guard=zcs s i.guard:=zHf fun q hq=>Cm q (FD hq)
  have Bd: ∀{e:Eff},(s.apply j.dst ej).free i.dst e->s.free i.dst e:=by
   intro e hf d hd;obtain⟨h1,h2⟩:=hf d hd;refine⟨?_,h2⟩
   cases hu:s.used d with
   | false=>rfl
   | true=>have:=zeE (d:=j.dst) (e:=ej) hu;rw[h1]at this;simp at this
  have fin: ∀(H':Nat->Option O) (n':Nat) (r:V),s.free i.dst {}->(∀y∈j.op.opds,∀v,evl N.G s y=some v-> ∀k∈v.top,H' k=s.heap k)->
   StepG P N true pj j ({ s with heap:=H',nxt:=n' }.apply i.dst { val:=r }) (({ s.apply j.dst ej with heap:=H',nxt:=n' }:St).apply i.dst { val:=r }):=by
   intro H' n' r BJ Aq
   have env2: ∀t∈j.reads,(({ s with heap:=H',nxt:=n' }:St).apply i.dst { val:=r }).env t=s.env t:=by
    intro t ht;have hd:=Av.d2 t ht
    cases NO:i.dst with
    | none=>rfl
    | some d'=>rw[NO]at hd;simp only[St.apply];exact zad _ _ (fun h=>hd (by rw[h]))
   have adr2: ∀t∈j.reads,(({ s with heap:=H',nxt:=n' }:St).apply i.dst { val:=r }).adr t=s.adr t:=by
    intro t ht;have hd:=Av.d2 t ht
    cases NO:i.dst with
    | none=>rfl
    | some d'=>rw[NO]at hd;simp only[St.apply];exact zad _ _ (fun h=>hd (by rw[h]))
   have IS:DStep P N pj j ({ s with heap:=H',nxt:=n' }.apply i.dst { val:=r }) ej:=by
    have BO:zcs (({ s with heap:=H',nxt:=n' }:St).apply i.dst { val:=r }) j.guard=zcs s j.guard:=zHf fun q hq=>env2 q (FD hq)
    rcases Gb.effE cj.1 with⟨hw,rfl⟩ | ⟨hw,he⟩
    ·exact .skip (by rw[BO];exact hw)
    ·refine .eff (by rw[BO];exact hw) ?_;rw[<- he]
     refine(zfg (fun y hy=>(zoo fun t ht=>(env2 t (BA hy t ht)).symm)) (fun y hy=>zId fun t ht=>⟨(env2 t (BA hy t ht)).symm,(adr2 t (BA hy t ht)).symm⟩)
      (fun hr=>by rw[(zdD hl).2.2.2]at hr;cases hr) (fun _ y hy v hv k hk=> ?_) rfl).symm
     exact(Aq y hy v hv k hk).symm
   have NW:(({ s with heap:=H',nxt:=n' }:St).apply i.dst { val:=r }).free j.dst ej:=Dg;have:=IS.toG NW
   have e1:({ s.apply j.dst ej with heap:=H',nxt:=n' }:St)=({ s with heap:=H',nxt:=n' }:St).apply j.dst ej:=by
    simp only[St.apply,ehp,zbf]
   rw[e1,zeT (s:={ s with heap:=H',nxt:=n' }) Av.d12 (.inl ewl) (fun b cs hb=>by rw[ewl]at hb;cases hb) (fun b cs hb=>by cases hb) (by rw[ehp];simp)];exact this
  cases h2 with
  | skip hw hf=>
    refine⟨_,.skip (by rw[<- E4];exact hw) (Bd hf),?_⟩;have:=fin s.heap s.nxt .undef (Bd hf) (fun _ _ _ _ _ _=>rfl)
    have e1:({ s.apply j.dst ej with heap:=s.heap,nxt:=s.nxt }:St)=s.apply j.dst ej:=by
     simp only[St.apply,ehp,zbf]
    rw[e1]at this
    exact this
  | eff hw hf he=>revert he;cases Jo:i.op<;>rw[Jo]at hk<;>simp[AOp.keeps]at hk<;>simp[zaj]
  | pure hw hf ho=>rw[ho]at hk;simp[AOp.keeps]at hk
  | fresh hw hf ho=>rw[ho]at hk;simp[AOp.keeps]at hk
  | raw hw hf ho As Ax Bu An Au hc hn AG A8=>
    rename_i f args fv g a a0 b vs r rf H' n';have Ak: ∀y,y∈f::args->evl N.G (s.apply j.dst ej) y=evl N.G s y:=fun y hy=>Ao y (by rw[ho];exact hy)
    rw[Ak f (by simp)]at As;rw[zbZ (fun x hx=>Ak x (by simp[hx]))]at Au;rw[Ar]at hc AG Bu;have Q0:zHX f=true:=by rw[ho]at hk;exact hk
    have NF: ∀k∈zid N.G s args,H' k=s.heap k:=fun k hm=>by
     have ht:zid N.G (s.apply j.dst ej) args=zid N.G s args:=zeW (fun y hy=>Ak y (List.mem_cons_of_mem _ hy));rw[<- Ar];exact A8 Q0 k (by rw[ht];exact hm)
    refine⟨_,.raw (by rw[<- E4];exact hw) (Bd hf) ho As Ax Bu An Au hc hn AG (fun _=>NF),fin H' n' r (Bd hf) (fun y hy v hv k AB=>NF k ?_)⟩;have Hx:j.op.looksL=false:=by revert hl;cases j.op<;>simp[AOp.looksL,AOp.looks]
    simp only[sep,Hx,hl,hk,zG,Bool.and_self,if_false,if_true,List.all_eq_true]at hs;have:=hs _ (zi3 hy hv AB);rw[ho]at this
    simpa[AOp.kargs]using this
  | yld hw hf ho As AF Au Ac Bi AT CL B4 AG=>
    rename_i f args k vs env env1 env' ps ps1 ps' ca cb bd1 bd' e t1 t2;have Q0:zHX f=true:=by rw[ho]at hk;exact hk
    cases f with
    | c v=>cases v<;>simp[zHX]at Q0;simp[evl]at As
    | _=>simp[zHX]at Q0
 ·-- a store to another local box
  have ci:=zMr hw;obtain⟨ei,H7,BJ,rfl⟩:=h2.toD ci.2.1
  have Ic:ej.hp=[]/\ej.wloc=none:=by
   rcases Gb.effE cj.1 with⟨_,rfl⟩ | ⟨_,he⟩
   ·exact⟨rfl,rfl⟩
   ·exact zLc hl he
  obtain⟨ehp,ewl⟩:=Ic;have AK:DStep P N pi i s ei:=(DStep.transfer hz BL Av.d1 (fun d' hd=>(Dg d' hd).1) (fun _=>ewl) (fun hr=>by rw[ci.2.2.2]at hr;cases hr)).2 H7;have Ek:s.free i.dst ei:=fun d hd=>by rw[DQ]at hd;cases hd
  obtain⟨si1,si2,si3,si4,si5⟩:=AK.shape
  have AE:ei.adr=none/\ei.hp=[]/\ ∀b cs,ei.wloc=some (b,cs)->b∈zIa s i.op.lwopd:=by
   rcases AK.effE ci.1 with⟨_,rfl⟩ | ⟨_,he⟩
   ·exact⟨rfl,rfl,fun b cs hb=>by cases hb⟩
   ·exact zM0 hw he
  have Dp:DStep P N pj j (s.apply i.dst ei) ej:=by
   have BO:zcs (s.apply i.dst ei) j.guard=zcs s j.guard:=by rw[DQ];rfl
   rcases Gb.effE cj.1 with⟨hw,rfl⟩ | ⟨hw,he⟩
   ·exact .skip (by rw[BO];exact hw)
   ·refine .eff (by rw[BO];exact hw) ?_;rw[<- he,DQ];refine(zfg (s:=s) (u:=s.apply none ei) (fun y _=>zoo fun _ _=>rfl) (fun y _=>zId fun _ _=>⟨rfl,rfl⟩) (fun _ y hy b o hr=> ?_) (fun hr=>by rw[(zHA hl).2.2.2.2]at hr;cases hr) rfl).symm;simp only[St.apply]
    cases Er:ei.wloc with
    | none=>rfl
    | some bc=>
      obtain⟨b2,cs⟩:=bc;refine(zad _ _ fun Om=> ?_).symm;subst Om;simp only[sep,hl,if_true,List.all_eq_true]at hs;have h3:=hs b (by simp only[zIa,List.mem_filterMap];exact⟨y,hy,by rw[hr];rfl⟩);have h4:=AE.2.2 b cs Er;simp[h4]at h3
  have GT:(s.apply i.dst ei).free j.dst ej:=by
   intro d hd;obtain⟨k1,k2⟩:=Dg d hd;refine⟨?_,k2⟩;simp only[St.apply,AE.1];exact k1
  refine⟨_,AK.toG Ek,?_⟩
  have hc:=zeT (s:=s) (e1:=ej) (e2:=ei) Av.d12 (.inl ewl) (fun b cs hb=>by rw[ewl]at hb;cases hb) (fun b cs hb hd=>by
   obtain⟨y,hy,o',hr⟩:=si4 b cs hb
   exact zhG hz hr (fun Aj=>Av.d1 b (BA hy b Aj) hd) (Dg b hd).1 rfl) (by rw[ehp];simp)
  rw[hc];exact Dp.toG GT
 ·-- stores to different objects
  have ci:=zIi hw;obtain⟨ei,H7,BJ,rfl⟩:=h2.toD ci.2.1
  have Hx:j.op.looksL=false/\j.op.looks=false:=by
   constructor<;>(revert hl;cases j.op<;>simp[AOp.looksL,AOp.looks,AOp.isSt])
  simp only[sep,Hx.1,Hx.2,hl,hw,zG,Bool.false_and,Bool.and_self,if_false,if_true,List.all_eq_true]at hs
  have one: ∀{x:ROp} {p:Nat} {u v:St} {e:Eff},x.op.isSt=true->(∀y∈x.op.opds,evl N.G u y=evl N.G v y)->zcs u x.guard=zcs v x.guard->
   (∀y∈x.op.wopd,∀z,evl N.G u y=some z-> ∀k∈z.top,u.heap k=v.heap k)->DStep P N p x u e->DStep P N p x v e:=by
   intro x p u v e hx Ak Ht M0 hd;rcases hd.effE (zIi hx).1 with⟨hw,rfl⟩ | ⟨hw,he⟩
   ·exact .skip (by rw[<- Ht];exact hw)
   ·exact .eff (by rw[<- Ht];exact hw) (by rw[<- he];exact(zMZ hx Ak M0).symm)
  have wsub: ∀{x:ROp} {p:Nat} {u:St} {e:Eff},x.op.isSt=true->DStep P N p x u e->(∀z∈e.hp,z.1∈zid N.G u x.op.wopd)/\e.wloc=none/\e.adr=none:=by
   intro x p u e hx hd;rcases hd.effE (zIi hx).1 with⟨hw,rfl⟩ | ⟨hw,he⟩
   ·exact⟨by simp,rfl,rfl⟩
   ·exact zNy hx he
  obtain⟨wj1,wj2,wj3⟩:=wsub hl Gb;have T9: ∀y∈i.op.opds,evl N.G (s.apply j.dst ej) y=evl N.G s y:=fun y _=>zoo fun _ _=>by rw[Tg];rfl
  have AK:DStep P N pi i s ei:=by
   refine one hw T9 (zHf fun _ _=>by rw[Tg];rfl) (fun y hy z hz k hk=> ?_) H7;show zbf s.heap ej.hp k=s.heap k;rw[zbv];rintro q hq rfl;have h3:=hs q.1 (zi3 hy (by rw[<- T9 y (zoE y hy)];exact hz) hk);simp[wj1 q hq]at h3
  obtain⟨wi1,wi2,wi3⟩:=wsub hw AK
  have Dp:DStep P N pj j (s.apply i.dst ei) ej:=by
   refine one hl (fun y _=>zoo fun _ _=>by rw[DQ];rfl) (zHf fun _ _=>by rw[DQ];rfl) (fun y hy z hz k hk=> ?_) Gb;show s.heap k=zbf s.heap ei.hp k;rw[zbv];rintro q hq rfl;have h3:=hs q.1 (wi1 q hq);simp[zi3 hy hz hk]at h3
  refine⟨_,AK.toG (fun d hd=>by rw[DQ]at hd;cases hd),?_⟩
  rw[zeT (s:=s) (e1:=ej) (e2:=ei) Av.d12 (.inl wj2) (fun b cs hb=>by rw[wj2]at hb;cases hb) (fun b cs hb=>by rw[wi2]at hb;cases hb) (fun x hx y hy e=>by
   have h3:=hs y.1 (wi1 y hy)
   simp[<- e,wj1 x hx]at h3)]
  exact Dp.toG (fun d hd=>by rw[Tg]at hd;cases hd)
inductive RunT (P:Program) (N:Nam) (l:List ROp) (T:Nat->ROp->St->Prop):List Nat->St->St->Prop where
 | nil {s:St}:RunT P N l T [] s s
 | cons {i:Nat} {is:List Nat} {s s1 s2:St} {r:ROp} (hr:l[i]? =some r) (h1:StepG P N true i r s s1) (ht:T i r s) (h2:RunT P N l T is s1 s2):RunT P N l T (i::is) s s2
theorem Run.toT {l:List ROp} {is:List Nat} {s':St} (h:Run P N true l is s s'):RunT P N l (fun _ _ _=>True) is s s':=by
 induction h with
 | nil=>exact .nil
 | cons hr h1 h2 ih=>exact .cons hr h1 trivial ih
theorem Run.env {d:Bool} {l:List ROp} {is:List Nat} {s':St} (h:Run P N d l is s s') {t:Nat} (ht: ∀q∈is,∀z,l[q]? =some z->z.dst≠some t):s'.env t=s.env t:=by
 induction h with
 | nil=>rfl
 | cons hr h1 h2 ih=>rw[ih fun q hq=>ht q (by simp[hq]),h1.env (ht _ (by simp) _ hr)]
def zi5 (ck:List (Nat×Nat)) (i:Nat):Bool:=ck.any fun x=>x.1==i||x.2==i
def zho (ck:List (Nat×Nat)) (l:List ROp):Bool:=
 (List.range l.length).all fun i=> !zi5 ck i||(List.range l.length).all fun q=>decide (q<i)||(match l[i]?,l[q]? with
   | some r,some z=>(match z.dst with | some t=> !r.reads.contains t | none=>true)
   | _,_=>true)
theorem zmm {ck:List (Nat×Nat)} {l:List ROp} (h:zho ck l=true) {i q:Nat} {r z:ROp} (hi:l[i]? =some r) (hq:l[q]? =some z) (hm:zi5 ck i=true) (A5:i<=q): ∀t∈r.reads,z.dst≠some t:=by
 intro t ht hd;simp only[zho,List.all_eq_true,List.mem_range,Bool.or_eq_true,decide_eq_true_eq]at h;have h1:=h i (zH.1 hi).1;rw[hm]at h1;rcases h1 with h1 | h1
 ·cases h1
 ·rcases h1 q (zH.1 hq).1 with h1 | h1
  ·omega
  ·rw[hi,hq]at h1;simp[hd,ht]at h1
def zvz (N:Nam) (ck:List (Nat×Nat)) (e:St) (i:Nat) (r:ROp) (s:St):Prop:=zi5 ck i=true-> ∀y∈r.op.opds,evl N.G s y=evl N.G e y/\zd8 s y=zd8 e y
theorem Run.adr {d:Bool} {l:List ROp} {is:List Nat} {s':St} (h:Run P N d l is s s') {t:Nat} (ht: ∀q∈is,∀z,l[q]? =some z->z.dst≠some t):s'.adr t=s.adr t:=by
 induction h with
 | nil=>rfl
 | cons hr h1 h2 ih=>rw[ih fun q hq=>ht q (by simp[hq]),h1.adr (ht _ (by simp) _ hr)]
theorem Run.annot {ck:List (Nat×Nat)} {l:List ROp} {is:List Nat} {s':St} (AE:zho ck l=true) (h:Run P N true l is s s') (hs:is.Pairwise (· < ·)):RunT P N l (zvz N ck s') is s s':=by
 induction h with
 | nil=>exact .nil
 | cons hr h1 h2 ih=>
   rename_i i0 is0 s0 s10 s20 r0;obtain⟨Ad,F4⟩:=List.pairwise_cons.1 hs;refine .cons hr h1 (fun hm y hy=> ?_) (ih F4);have A3:Run P N true l (_::_) _ _:=.cons hr h1 h2
   have key: ∀t∈y.slots,∀q∈i0::is0,∀(z:ROp),l[q]? =some z->z.dst≠some t:=fun t ht q hq z hz=>by
    refine zmm AE hr hz hm ?_ t (List.mem_append_left _ (List.mem_flatMap.2 ⟨y,hy,ht⟩));rcases List.mem_cons.1 hq with rfl | hq
    ·exact Nat.le_refl _
    ·exact Nat.le_of_lt (Ad q hq)
   exact⟨zoo fun t ht=>(A3.env (key t ht)).symm,zId fun t ht=>⟨(A3.env (key t ht)).symm,(A3.adr (key t ht)).symm⟩⟩
theorem znJ {ck:List (Nat×Nat)} {l:List ROp} {e:St} (h:zgO N.G e l ck=true) {j i:Nat} (hm:(j,i)∈ck) {x y:ROp} (hx:l[j]? =some x) (hy:l[i]? =some y)
 {s:St} (h1:zvz N ck e j x s) (h2:zvz N ck e i y s):sep N.G s x y=true:=by
 simp only[zgO,List.all_eq_true]at h;have h0:=h _ hm;simp only[hx,hy]at h0;have m1:zi5 ck j=true:=List.any_eq_true.2 ⟨_,hm,by simp⟩;have m2:zi5 ck i=true:=List.any_eq_true.2 ⟨_,hm,by simp⟩;rw[zrB (h1 m1) (h2 m2)];exact h0
end
end Rg
end
section
namespace Rg
open Go
def zeO (o:Oper):List Nat:=o.after.toList.filterMap fun e=>if Region.binds .any e then some e.on else none
def zlU:List Nat->List Oper->List Nat
 | acc,[]=>acc
 | acc,o::os=>zlU (acc++[(zeO o).foldl (fun s q=>s ||| 2^q ||| acc.getD q 0) 0]) os
def zAQ (ops:Array Oper):List Nat:=zlU [] ops.toList
def zgF (ck:List (Nat×Nat)) (ops:Array Oper) (l:List ROp):Bool:=
 let b:=zAQ ops
 (List.range l.length).all fun i=>
   ((ops[i]?).elim true fun o=>(zeO o).all (· <i))&&
   (List.range i).all fun j=>(b.getD i 0).testBit j||(match l[j]?,l[i]? with | some x,some y=>zuR x y||zkO x y||zpq x y||(ck.contains (j,i)&&(zsx x y||zL6 x y))||zkO y x | _,_=>false)
def zs1 (ops:Array Oper) (l:List ROp):Bool:=zgF [] ops l
def zr1 (ops:Array Oper) (l:List ROp):List (Nat×Nat):=
 let b:=zAQ ops
 (List.range l.length).flatMap fun i=>(List.range i).filterMap fun j=>if(b.getD i 0).testBit j then none else match l[j]?,l[i]? with
   | some x,some y=>if zuR x y||zkO x y||zpq x y||zkO y x then none else some (j,i)
   | _,_=>none
theorem zpu (acc:List Nat) (m:Nat): ∀(l:List Nat) (s:Nat),(l.foldl (fun s q=>s ||| 2^q ||| acc.getD q 0) s).testBit m=true->s.testBit m=true\/ ∃q∈l,m=q\/(acc.getD q 0).testBit m=true
 | [],s,h=> .inl h
 | q::l,s,h=>by
   rcases zpu acc m l _ h with h | ⟨q',Eu,h⟩
   ·simp only[Nat.testBit_or,Bool.or_eq_true]at h;rcases h with(h | h) | h
    ·exact .inl h
    ·right;refine⟨q,List.mem_cons_self,.inl ?_⟩;rw[Nat.testBit_two_pow]at h;exact(by simpa using h:q=m).symm
    ·exact .inr ⟨q,List.mem_cons_self,.inr h⟩
   ·exact .inr ⟨q',List.mem_cons_of_mem _ Eu,h⟩
theorem znm: ∀(os:List Oper) (acc:List Nat),∃r,zlU acc os=acc++r
 | [],acc=>⟨[],by simp[zlU]⟩
 | o::os,acc=>by
   obtain⟨r,hr⟩:=znm os (acc++[(zeO o).foldl (fun s q=>s ||| 2^q ||| acc.getD q 0) 0]);exact⟨(zeO o).foldl (fun s q=>s ||| 2^q ||| acc.getD q 0) 0::r,by simp only[zlU];rw[hr,zQ];rfl⟩
theorem zkZ: ∀(os:List Oper) (acc:List Nat) (k:Nat) (o:Oper),os[k]? =some o->(∀q∈zeO o,q<acc.length+k)-> ∀m,((zlU acc os).getD (acc.length+k) 0).testBit m=true->
 ∃q∈zeO o,m=q\/((zlU acc os).getD q 0).testBit m=true
 | [],acc,k,o,h,_,_,_=>by simp at h
 | o'::os,acc,k,o,h,Ad,m,hm=>by
   cases k with
   | zero=>
     simp at h;subst h;simp only[zlU]at hm⊢;obtain⟨r,hr⟩:=znm os (acc++[(zeO o').foldl (fun s q=>s ||| 2^q ||| acc.getD q 0) 0]);rw[hr]at hm⊢
     have e1:(acc++[(zeO o').foldl (fun s q=>s ||| 2^q ||| acc.getD q 0) 0]++r).getD (acc.length+0) 0=(zeO o').foldl (fun s q=>s ||| 2^q ||| acc.getD q 0) 0:=by
      simp[zK]
     rw[e1]at hm;rcases zpu acc m _ _ hm with h | ⟨q,hq,h⟩
     ·simp at h
     ·refine⟨q,hq,h.imp id fun h=> ?_⟩;have Ed:q<acc.length:=by have:=Ad q hq;omega
      have e2:(acc++[(zeO o').foldl (fun s q=>s ||| 2^q ||| acc.getD q 0) 0]++r).getD q 0=acc.getD q 0:=by
       simp only[zK];rw[zQ,List.getElem?_append_left Ed]
      rw[e2];exact h
   | succ k=>
     simp at h;simp only[zlU]at hm⊢;have hl:(acc++[(zeO o').foldl (fun s q=>s ||| 2^q ||| acc.getD q 0) 0]).length=acc.length+1:=by simp
     have e:acc.length+(k+1)=(acc++[(zeO o').foldl (fun s q=>s ||| 2^q ||| acc.getD q 0) 0]).length+k:=by rw[hl];omega
     rw[e]at hm;exact zkZ os _ k o h (fun q hq=>by have:=Ad q hq;omega) m hm
section
variable {P:Program} {N:Nam} {I:Inv} {ns:Nat} {ops:Array Oper} {l:List ROp} {ro:Option Nat}
theorem zny {o:Oper} {a:Act} {w:World} {K:Act->World->Prop} (h:o.wpIn (FW none) 0 P a w K (fun _ _ _=>False)): ∃a' w',K a' w':=by
 replace h:=h.2
 generalize(o.semAt (FW none).round a.eval).run P w=r at h
 unfold Oper.uponIn at h;split at h
 ·exact⟨_,_,h⟩
 ·exact⟨_,_,h⟩
 ·exact⟨_,_,h⟩
 ·obtain⟨e,w',fr,h1,_⟩:=h.2.2 [] zjQ
  cases e with
  | returned v=>exact⟨_,_,h1⟩
  | panicked ch=>exact h1.elim
  | outgrown=>obtain⟨_,_,h1⟩:=h1;exact h1.elim
 ·obtain⟨v,w',h1,_⟩:=h.2 default [] zjQ;exact⟨_,_,h1⟩
 ·obtain⟨e,w',h1,_⟩:=h.2.2 default [] zjQ
  cases e with
  | returned v=>exact⟨_,_,h1⟩
  | panicked ch=>exact h1.elim
  | outgrown=>obtain⟨_,_,h1⟩:=h1;exact h1.elim
 ·exact h.elim
 ·exact h.elim
theorem Rz.step (hI:I.Ok N) {s s1:St} {p:Nat} {r:ROp} {o:Oper} {d:Bool} (hz:Rz N ns s) (AE:StepG P N d p r s s1) (hr:OpRel P I ns ops o r) (hk:s.heap (s.bas+p)=none) (hn:s.bas+p<s.nxt):Rz N ns s1:=by
 obtain⟨c,A,μ,lam,a,w,R⟩:=hz;have h:=zhn (ro:=none) hI AE hr R hk hn (fun _ _ _=>False);split at h
 ·obtain⟨a',w',A',μ',lam',R'⟩:=zny h;exact⟨c,A',μ',lam',a',w',R'⟩
 ·obtain⟨A',μ',lam',R'⟩:=h;exact⟨c,A',μ',lam',_,w,R'⟩
theorem zub (hI:I.Ok N) {T:Nat->ROp->St->Prop} (hT: ∀(i:Nat) (r:ROp) (s u:St),(∀y∈r.op.opds,evl N.G s y=evl N.G u y/\zd8 s y=zd8 u y)->T i r s->T i r u) (hl:ops.toList.length=l.length/\ ∀(i:Nat) (r:ROp),l[i]? =some r-> ∃o,ops.toList[i]? =some o/\OpRel P I ns ops o r) {i:Nat} {l2:List Nat} {s':St}:
 ∀(l1:List Nat) (s:St),Rz N ns s->(l1++i::l2).Nodup->(∀q∈l1++i::l2,s.heap (s.bas+q)=none/\s.bas+q<s.nxt)->
  (∀j∈l1,∀x y,l[j]? =some x->l[i]? =some y->Indep x y\/IndepR x y\/IndepX x y\/(IndepD x y/\ ∀s,T j x s->T i y s->sep N.G s x y=true)\/(IndepE x y/\ ∀s,T j x s->T i y s->sep N.G s x y=true)\/IndepR y x)->
  RunT P N l T (l1++i::l2) s s'->RunT P N l T (i::(l1++l2)) s s':=by
 intro l1
 induction l1 with
 | nil=>intro s _ _ _ _ h;exact h
 | cons j l1 ih=>
   intro s hz Bt AG Ia h
   cases h with
   | cons hr h1 OT h2=>
     rename_i s1 rj;obtain⟨oj,Pa,KK⟩:=hl.2 j rj hr;have EE:=List.nodup_cons.1 (by simpa using Bt:(j::(l1++i::l2)).Nodup);obtain⟨fj1,fj2⟩:=AG j (by simp);obtain⟨fi1,fi2⟩:=AG i (by simp);have FM:Rz N ns s1:=hz.step hI h1 KK fj1 fj2;obtain⟨g1,g2,g3⟩:=h1.free
     have JN: ∀q∈l1++i::l2,s1.heap (s1.bas+q)=none/\s1.bas+q<s1.nxt:=by
      intro q hq;obtain⟨e1,e2⟩:=AG q (by simp at hq⊢;exact .inr hq);rw[g1];refine⟨g3 _ e2 (fun e=>EE.1 ?_) e1,by omega⟩;have:q=j:=by omega
      exact this▸hq
     have h3:=ih s1 FM EE.2 JN (fun q hq x y hx hy=>Ia q (List.mem_cons_of_mem _ hq) x y hx hy) h2
     cases h3 with
     | cons Et h4 PP h5=>
       rename_i t1 ri;have Av:=Ia j List.mem_cons_self rj ri hr Et;have Az:j≠i:=by rintro rfl;exact EE.1 (by simp)
       have hd:(∀t∈ri.reads,rj.dst≠some t)/\ ∀t∈rj.reads,ri.dst≠some t:=by
        rcases Av with Av | Av | Av | Av | Av | Av
        ·exact⟨Av.d1,Av.d2⟩
        ·exact⟨Av.d1,Av.d2⟩
        ·exact⟨Av.d1,Av.d2⟩
        ·exact⟨Av.1.d1,Av.1.d2⟩
        ·exact⟨Av.1.d1,Av.1.d2⟩
        ·exact⟨Av.d2,Av.d1⟩
       have Q1:T i ri s:=hT i ri _ _ (fun y hy=>⟨(h1.both hd.1 y hy).1.symm,(h1.both hd.1 y hy).2.symm⟩) PP;have Gq: ∀{t:St},StepG P N true i ri s t->T j rj t:=fun AE=>hT j rj _ _ (AE.both hd.2) OT
       rcases Av with Av | Av | Av | ⟨Av,Ni⟩ | ⟨Av,Ni⟩ | Av
       ·obtain⟨ej,Gb,Dg,rfl⟩:=h1.toD Av.r1;obtain⟨ei,H7,BJ,rfl⟩:=h4.toD Av.r2;obtain⟨k1,k2,k3,k4,k5⟩:=swap hz Av Az fj1 fi1 Gb Dg H7 BJ;refine .cons Et (k1.toG k2) Q1 (.cons hr (k3.toG k4) (Gq (k1.toG k2)) ?_);rw[<- k5];exact h5
       ·obtain⟨t,k1,k3⟩:=zBi hz Av h1 h4;exact .cons Et k1 Q1 (.cons hr k3 (Gq k1) h5)
       ·obtain⟨ej,Gb,Dg,rfl⟩:=h1.toD (zv6 Av.ap).2.2;obtain⟨ei,H7,BJ,rfl⟩:=h4.toD (zdD Av.lk).2.2.1;obtain⟨k1,k2,k3,k4,k5⟩:=zBh hz Av Az fj1 fi1 Gb Dg H7 BJ;refine .cons Et (k1.toG k2) Q1 (.cons hr (k3.toG k4) (Gq (k1.toG k2)) ?_);rw[<- k5];exact h5
       ·have r1:rj.op.isRaw=false:=by
         rcases Av.lw with⟨h,_⟩ | ⟨h,_⟩
         ·exact(zdD h).2.2.1
         ·exact(zcW h).2.2.1
        have r2:ri.op.isRaw=false:=by
         rcases Av.lw with⟨_,h⟩ | ⟨_,h⟩
         ·exact(zcW h).2.2.1
         ·exact(zdD h).2.2.1
        obtain⟨ej,Gb,Dg,rfl⟩:=h1.toD r1;obtain⟨ei,H7,BJ,rfl⟩:=h4.toD r2;obtain⟨k1,k2,k3,k4,k5⟩:=zBj hz Av (Ni s OT Q1) Az fj1 fi1 Gb Dg H7 BJ;refine .cons Et (k1.toG k2) Q1 (.cons hr (k3.toG k4) (Gq (k1.toG k2)) ?_);rw[<- k5];exact h5
       ·obtain⟨t,k1,k3⟩:=zOy hz Av (Ni s OT Q1) h1 h4;exact .cons Et k1 Q1 (.cons hr k3 (Gq k1) h5)
       ·obtain⟨t,k1,k3⟩:=zxQ hz Av h1 h4;exact .cons Et k1 Q1 (.cons hr k3 (Gq k1) h5)
def left (n:Nat) (listed:Array Bool):List Nat:=(List.range n).filter fun i=> !listed.getD i true
def ready (ops:Array Oper) (listed:Array Bool):List Nat:=
 (List.range ops.size).filter fun i=> !listed.getD i true&&((ops[i]?).map (·.after.all fun e=> !Region.binds .any e||listed.getD e.on false)).getD false
def fut (ops:Array Oper):Nat->Nat->Array Bool->List Nat
 | 0,_,_=>[]
 | fuel+1,t,listed=>match(ready ops listed)[t % (ready ops listed).length]? with
   | some i=>i::fut ops fuel (t/ (ready ops listed).length) (listed.setIfInBounds i true)
   | none=>[]
theorem zvV (ops:Array Oper): ∀(fuel t:Nat) (listed:Array Bool) (acc:List Nat),Region.linearise.go .any ops fuel t listed acc=acc.reverse++fut ops fuel t listed
 | 0,t,listed,acc=>by simp[Region.linearise.go,fut]
 | fuel+1,t,listed,acc=>by
   simp only[Region.linearise.go,fut]
   show(match(ready ops listed)[t % (ready ops listed).length]? with
    | some i=>Region.linearise.go .any ops fuel (t/ (ready ops listed).length) (listed.setIfInBounds i true) (i::acc)
    | none=>acc.reverse)=_
   split
   ·rename_i i hi;rw[zvV ops fuel];simp
   ·simp
theorem zlz (listed:Array Bool) (i q:Nat) (d:Bool) (hi:i<listed.size):(listed.setIfInBounds i true).getD q d=if q=i then true else listed.getD q d:=by
 by_cases h:q=i
 ·subst h;simp[hi]
 ·simp[h,Array.getD_eq_getD_getElem?,Ne.symm h]
theorem zsD (hI:I.Ok N) {T:Nat->ROp->St->Prop} (hT: ∀(i:Nat) (r:ROp) (s u:St),(∀y∈r.op.opds,evl N.G s y=evl N.G u y/\zd8 s y=zd8 u y)->T i r s->T i r u)
 {ck:List (Nat×Nat)} (FG: ∀j i,(j,i)∈ck-> ∀x y,l[j]? =some x->l[i]? =some y-> ∀s,T j x s->T i y s->sep N.G s x y=true) {c:Ctx} (hl:ops.toList.length=l.length/\ ∀(i:Nat) (r:ROp),l[i]? =some r-> ∃o,ops.toList[i]? =some o/\OpRel P I ns ops o r) (GW:zgF ck ops l=true) (Q:Exit->Act->World->Prop) {s':St}
 (hQ: ∀a' w' A' μ' lam',Rel N c ns A' μ' lam' s' a' w'->Q .normal a' w'):
 ∀(fuel t:Nat) (listed:Array Bool) (s:St) (A:Nat->Prop) (μ lam:Nat->Nat) (a:Act) (w:World),listed.size=ops.size->(left ops.size listed).length<=fuel->
  (∀(i:Nat) (o:Oper),ops[i]? =some o->listed.getD i true=true-> ∀q∈zeO o,listed.getD q false=true)->
  RunT P N l T (left ops.size listed) s s'->(∀q∈left ops.size listed,s.heap (s.bas+q)=none/\s.bas+q<s.nxt)->Rel N c ns A μ lam s a w->wpOpsIn (FW ro) 0 P ops Q (fut ops fuel t listed) a w:=by
 have hn:ops.size=l.length:=by simpa using hl.1
 simp only[zgF,List.all_eq_true,List.mem_range,zF,Bool.or_eq_true]at GW
 have AA: ∀(i:Nat) (o:Oper),ops[i]? =some o-> ∀q∈zeO o,q<i:=by
  intro i o ho q hq;have hi:i<ops.size:=(Array.getElem?_eq_some_iff.1 ho).1;have:=(GW i (by omega)).1;rw[ho]at this;simp only[Option.elim,List.all_eq_true,decide_eq_true_eq]at this;exact this q hq
 intro fuel
 induction fuel with
 | zero=>
   intro t listed s A μ lam a w _ Ac _ A3 _ R;have:left ops.size listed=[]:=List.length_eq_zero_iff.1 (by omega);rw[this]at A3;cases A3
   exact hQ a w A μ lam R
 | succ fuel ih=>
   intro t listed s A μ lam a w AS Ac By A3 AG R
   have Ce: ∀q,q∈left ops.size listed<->q<ops.size/\listed.getD q true=false:=by
    intro q;simp[left,List.mem_filter]
   cases hL:left ops.size listed with
   | nil=>
     have Ec:ready ops listed=[]:=by
      refine List.filter_eq_nil_iff.2 fun i hi=> ?_
      have:i∉ left ops.size listed:=by rw[hL];simp
      rw[Ce]at this;simp only[List.mem_range]at hi;simp[hi]at this;simp[this]
     rw[hL]at A3;cases A3;simp only[fut,Ec];simp only[List.getElem?_nil]
     exact hQ a w A μ lam R
   | cons h0 L0=>
     have NR:h0∈left ops.size listed:=by rw[hL];simp
     have Cr:(left ops.size listed).Pairwise (· < ·):=List.Pairwise.filter _ List.pairwise_lt_range
     have G0: ∀(i:Nat) (o:Oper),ops[i]? =some o->(∀q∈zeO o,listed.getD q false=true)->(o.after.all fun e=> !Region.binds .any e||listed.getD e.on false)=true:=by
      intro i o ho hp;rw[Array.all_eq_true'];intro e he
      cases hb:Region.binds .any e with
      | false=>simp
      | true=>
        simp only[Bool.not_true,Bool.false_or];exact hp e.on (by simp only[zeO,List.mem_filterMap];exact⟨e,by simpa using he,by simp[hb]⟩)
     have HK:h0∈ready ops listed:=by
      obtain⟨Ad,Hx⟩:=(Ce h0).1 NR;refine List.mem_filter.2 ⟨List.mem_range.2 Ad,?_⟩;rw[Hx,Array.getElem?_eq_getElem Ad];simp only[Bool.not_false,Bool.true_and,Option.map_some,Option.getD_some];refine G0 h0 _ (Array.getElem?_eq_getElem Ad) (fun q hq=> ?_);have Qa:=AA h0 _ (Array.getElem?_eq_getElem Ad) q hq
      have GC:q∉ left ops.size listed:=by
       intro Aj;rw[hL]at Aj Cr;rcases List.mem_cons.1 Aj with rfl | Aj
       ·omega
       ·have:=(List.pairwise_cons.1 Cr).1 q Aj;omega
      rw[Ce]at GC;have HN:q<listed.size:=by omega
      have:listed.getD q true=true:=by
       cases hb:listed.getD q true with
       | true=>rfl
       | false=>exact absurd ⟨by omega,hb⟩ GC
      rw[Array.getD_eq_getD_getElem?,Array.getElem?_eq_getElem HN]at this⊢;exact this
     have CB:0<(ready ops listed).length:=List.length_pos_of_mem HK;have Ad:t % (ready ops listed).length<(ready ops listed).length:=Nat.mod_lt _ CB;simp only[fut,zI Ad]
     generalize L5:(ready ops listed)[t % (ready ops listed).length]=i
     have I6:i∈ready ops listed:=by rw[<- L5];exact List.getElem_mem Ad
     obtain⟨B8,Cq⟩:=List.mem_filter.1 I6;have AV:i<ops.size:=List.mem_range.1 B8;simp only[zF,Bool.not_eq_true']at Cq;obtain⟨C8,Mz⟩:=Cq;have JF:ops[i]? =some ops[i]:=Array.getElem?_eq_getElem AV;rw[JF]at Mz;simp only[Option.map_some,Option.getD_some]at Mz
     have I7: ∀q∈zeO ops[i],listed.getD q false=true:=by
      intro q hq;simp only[zeO,List.mem_filterMap]at hq;obtain⟨e,he,hq⟩:=hq;split at hq
      ·rename_i hb;simp only[zA]at hq;subst hq;rw[Array.all_eq_true']at Mz;have:=Mz e (by simpa using he);simpa[hb]using this
      ·simp at hq
     have Aj:i∈left ops.size listed:=(Ce i).2 ⟨AV,C8⟩
     -- what is before it Dt been executed
     have Ol: ∀(k:Nat),k<ops.size->(∀(o:Oper),ops[k]? =some o-> ∀q∈zeO o,listed.getD q false=true)-> ∀m,((zAQ ops).getD k 0).testBit m=true->listed.getD m false=true:=by
      intro k
      induction k using Nat.strongRecOn with
      | _ k ihk=>
        intro hk hp m hm;have Qz:ops.toList[k]? =some ops[k]:=by simp[hk]
        obtain⟨q,hq,Uc⟩:=zkZ ops.toList [] k ops[k] Qz (fun q hq=>by simpa using AA k _ (Array.getElem?_eq_getElem hk) q hq) m (by simpa[zAQ]using hm);have Ed:=hp _ (Array.getElem?_eq_getElem hk) q hq;have Nn:=AA k _ (Array.getElem?_eq_getElem hk) q hq;rcases Uc with rfl | Uc
        ·exact Ed
        ·refine ihk q Nn (by omega) (fun o ho r hr=> ?_) m Uc;refine By q o ho ?_ r hr;have HN:q<listed.size:=by omega
         rw[Array.getD_eq_getD_getElem?,Array.getElem?_eq_getElem HN]at Ed⊢;exact Ed
     obtain⟨l1,l2,Al⟩:=List.append_of_mem Aj;have Bt:(left ops.size listed).Nodup:=Cr.imp (fun h=>Nat.ne_of_lt h)
     have Af: ∀j∈l1,j<i:=by
      intro j hj;rw[Al]at Cr;exact(List.pairwise_append.1 Cr).2.2 j hj i (by simp)
     have Ia: ∀j∈l1,∀x y,l[j]? =some x->l[i]? =some y->Indep x y\/IndepR x y\/IndepX x y\/(IndepD x y/\ ∀s,T j x s->T i y s->sep N.G s x y=true)\/(IndepE x y/\ ∀s,T j x s->T i y s->sep N.G s x y=true)\/IndepR y x:=by
      intro j hj x y hx hy;have DP:=Af j hj;have h1:=(GW i (by omega)).2 j DP;rcases h1 with h1 | h1
      ·have Hy:=Ol i AV (fun o ho q hq=>by rw[JF]at ho;cases ho;exact I7 q hq) j h1;have Kq:j∈left ops.size listed:=by rw[Al];simp[hj]
       obtain⟨RJ,IS⟩:=(Ce j).1 Kq;have Pi:j<listed.size:=by omega
       rw[Array.getD_eq_getD_getElem?,Array.getElem?_eq_getElem Pi]at Hy IS;simp only[Option.getD_some]at Hy IS;rw[Hy]at IS;simp at IS
      ·rw[hx,hy]at h1;simp only[Bool.or_eq_true]at h1;rcases h1 with(((h1 | h1) | h1) | h1) | h1
       ·exact .inl (zqy h1)
       ·exact .inr (.inl (zjj h1))
       ·exact .inr (.inr (.inl (zob h1)))
       ·simp only[zF,Bool.or_eq_true,List.contains_eq_mem,decide_eq_true_eq]at h1;rcases h1.2 with h2 | h2
        ·exact .inr (.inr (.inr (.inl ⟨zoc h2,FG j i h1.1 x y hx hy⟩)))
        ·exact .inr (.inr (.inr (.inr (.inl ⟨zKm h2,FG j i h1.1 x y hx hy⟩))))
       ·exact .inr (.inr (.inr (.inr (.inr (zjj h1)))))
     rw[Al]at A3 AG Bt;have FU:=zub hI hT hl l1 s ⟨c,A,μ,lam,a,w,R⟩ Bt AG Ia A3
     cases FU with
     | cons Et h1 _ h2=>
       rename_i s1 ri _;obtain⟨o,ho,Jd⟩:=hl.2 i ri Et;obtain⟨f1,f2⟩:=AG i (by simp);have hs:=zhn (ro:=ro) hI h1 Jd R f1 f2 Q;obtain⟨g1,g2,g3⟩:=h1.free
       have Jc:left ops.size (listed.setIfInBounds i true)=l1++l2:=by
        have e1:left ops.size (listed.setIfInBounds i true)=(left ops.size listed).filter (fun q=>q != i):=by
         simp only[left,List.filter_filter]
         congr 1
         funext q
         rw[zlz listed i q true (by omega)]
         by_cases h:q=i
         ·subst h;simp
         ·simp[h]
        rw[e1,Al,List.filter_append,List.filter_cons];simp only[bne_self_eq_false,zG,if_false];have Fj:i∉ l1:=fun h=>by have:=Af i h;omega
        have Fh:i∉ l2:=by
         intro h;have:=(List.nodup_append.1 Bt).2.1;exact(List.nodup_cons.1 this).1 h
        rw[List.filter_eq_self.2 (fun q hq=>by simp;rintro rfl;exact Fj hq),List.filter_eq_self.2 (fun q hq=>by simp;rintro rfl;exact Fh hq)]
       have BS:(l1++l2).length<=fuel:=by rw[Al]at Ac;simp at Ac⊢;omega
       have Oe: ∀(k:Nat) (o:Oper),ops[k]? =some o->(listed.setIfInBounds i true).getD k true=true-> ∀q∈zeO o,(listed.setIfInBounds i true).getD q false=true:=by
        intro k o' AR hk q hq;rw[zlz listed i k true (by omega)]at hk;rw[zlz listed i q false (by omega)]
        by_cases Pg:k=i
        ·subst Pg;rw[JF]at AR;cases AR;rw[I7 q hq];simp
        ·rw[if_neg Pg]at hk;rw[By k o' AR hk q hq];simp
       have DD: ∀q∈l1++l2,s1.heap (s1.bas+q)=none/\s1.bas+q<s1.nxt:=by
        intro q hq;have Eu:q∈l1++i::l2:=by simp at hq⊢;rcases hq with h | h<;>simp[h]
        obtain⟨e1,e2⟩:=AG q Eu;rw[g1];refine⟨g3 _ e2 (fun e=> ?_) e1,by omega⟩;have Qb:q=i:=by omega
        subst Qb;have EG:q∉ l1:=fun h=>by have:=Af q h;omega
        have Mu:q∉ l2:=by
         intro h;have:=(List.nodup_append.1 Bt).2.1;exact(List.nodup_cons.1 this).1 h
        simp[EG,Mu]at hq
       rw[Array.getElem?_toList]at ho;simp only[wpOpsIn,ho]
       have next : ∀a' w' A' μ' lam',Rel N c ns A' μ' lam' s1 a' w'->wpOpsIn (FW ro) 0 P ops Q (fut ops fuel (t/ (ready ops listed).length) (listed.setIfInBounds i true)) a' w':=by
        intro a' w' A' μ' lam' R';refine ih _ _ s1 A' μ' lam' a' w' (by simpa using AS) (by rw[Jc];exact BS) Oe (by rw[Jc];exact h2) (by rw[Jc];exact DD) R'
       split
       ·rename_i hw;rw[if_pos hw]at hs;refine zmc hs ?_;rintro a' w' ⟨A',μ',lam',R'⟩;exact next a' w' A' μ' lam' R'
       ·rename_i hw;rw[if_neg hw]at hs;obtain⟨A',μ',lam',R'⟩:=hs;exact⟨fun _ _=>trivial,next _ _ A' μ' lam' R'⟩
theorem zkW {c:Ctx} {A:Nat->Prop} {μ lam:Nat->Nat} {s s':St} {a:Act} {w:World} (hI:I.Ok N) {T:Nat->ROp->St->Prop} (hT: ∀(i:Nat) (r:ROp) (s u:St),(∀y∈r.op.opds,evl N.G s y=evl N.G u y/\zd8 s y=zd8 u y)->T i r s->T i r u)
 {ck:List (Nat×Nat)} (FG: ∀j i,(j,i)∈ck-> ∀x y,l[j]? =some x->l[i]? =some y-> ∀s,T j x s->T i y s->sep N.G s x y=true) (hl:ops.toList.length=l.length/\ ∀(i:Nat) (r:ROp),l[i]? =some r-> ∃o,ops.toList[i]? =some o/\OpRel P I ns ops o r) (GW:zgF ck ops l=true) (Q:Exit->Act->World->Prop)
 (A3:RunT P N l T (List.range l.length) s s') (BD: ∀i,i<l.length->s.heap (s.bas+i)=none/\s.bas+i<s.nxt) (R:Rel N c ns A μ lam s a w)
 (hQ: ∀a' w' A' μ' lam',Rel N c ns A' μ' lam' s' a' w'->Q .normal a' w') (t:Nat):wpOpsIn (FW ro) 0 P ops Q (Region.linearise .any ops t) a w:=by
 have hn:ops.size=l.length:=by simpa using hl.1
 have hg: ∀q d,q<ops.size->(Array.replicate ops.size false).getD q d=false:=by
  intro q d hq;rw[Array.getD_eq_getD_getElem?,Array.getElem?_replicate,if_pos hq];rfl
 have GI:left ops.size (Array.replicate ops.size false)=List.range l.length:=by
  simp only[left];rw[<- hn];refine List.filter_eq_self.2 fun q hq=> ?_
  rw[hg q true (List.mem_range.1 hq)];rfl
 simp only[Region.linearise,zvV,List.reverse_nil,List.nil_append];refine zsD hI hT FG hl GW Q hQ ops.size t _ s A μ lam a w (by simp) (by rw[GI];simp[hn]) ?_ (by rw[GI];exact A3) (by rw[GI];exact fun q hq=>BD q (List.mem_range.1 hq)) R;intro i o ho hi;have:i<ops.size:=(Array.getElem?_eq_some_iff.1 ho).1;rw[hg i true this]at hi;simp at hi
end
end Rg
end
