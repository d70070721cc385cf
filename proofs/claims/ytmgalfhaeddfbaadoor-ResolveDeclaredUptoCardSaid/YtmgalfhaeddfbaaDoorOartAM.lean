/- Part of the proof of laws of relyguardlaw04. No condition. -/
import Derived.Test.YtmgalfhaeddfbaaDoorOartAL
set_option linter.unusedSimpArgs false
set_option linter.unusedVariables false
section
namespace Rg
open Go
def zGp (ct:Ct) (m:Int) (n:Nd):AddS:=(zGo n 58).foldl (zGn m) ⟨ct,[],[]⟩
def zGr (ct:Ct) (m:Int) (n:Nd):AddS:=((zGj n 34).flat.filter fun a=>decide (a.kind=35)).foldl (zGn m) { zGp ct m n with vs:=[] }
def Ct.proc (ct:Ct) (m:Int) (n:Nd):Ct:=
 { (zGr ct m n).ct with procs:=(zGr ct m n).ct.procs++[⟨n.name,m,(zGp ct m n).vs,(zGr ct m n).vs,n.other,zGj n 34,[],n.pos⟩] }
structure PK where
 c:Nat
 m:Nat
 p:Nat
 kc:Nat
 f:Nat
 km:Nat
def PK.keys (k:PK):List Nat:=[k.c,k.m,k.p,k.kc,k.f,k.km]
def zIN (m:Int) (n:Nd) (vP vL:V):List V:=[.t (.str n.name),.t (ti m),vP,vL,.t (.str n.other),.t (ti (zGj n 34).kind),.t (.str (zGj n 34).name),.t (.str (zGj n 34).other),.t (ti (zGj n 34).n),.t (ti (zGj n 34).len),.t (ti (zGj n 34).init),.t (tb (zGj n 34).ghost),.t (.sl ((zGj n 34).kids.map Nd.enc)),.t (ti (zGj n 34).pos),.t .nils,.t (ti n.pos)]
structure PI (ck:CK) (h:Nat->Option O) (x:Nat) (N:Nat->Prop) (cv:CV) (d:V) (k:PK) (m:Int) (n:Nd) (ct:Ct) (known:List ByteArray) (vsP vsL:List Va) (vP vL:V) (h':Nat->Option O) (x':Nat):Prop where
 ex:CS ck h' x' N { cv with d:=d } ct/\(x<=x'/\ ∀j,j<x->Tp ck { cv with d:=d } j->Tp ck cv j)/\(∀j∈k.keys,¬Tp ck { cv with d:=d } j)/\(∀j,¬zbg vP j-> ¬Tp ck { cv with d:=d } j)/\ ∀j,¬zbg vL j-> ¬Tp ck { cv with d:=d } j
 h3:h' k.c=some (.rows 1 [[.mp ck.c 0 0]] false)
 h4:h' k.m=some (.rows 1 [[vi m]] false)
 h7:h' k.kc=some (.rows 1 [[.mm k.km]] false)
 h8:h' k.f=some (.rows 1 [[.fn 636 [] [.mp k.kc 0 0,.mp k.c 0 0,.mp k.m 0 0]]] false)
 hm:h' k.km=some (.map (zHu T.str known))
 h6:h' k.p=some (.rows 16 [zIN m n vP vL] false)
 oP:zaF h' x' vP 7 (zGk (vsP.map Va.enc))
 oL:zaF h' x' vL 7 (zGk (vsL.map Va.enc))
 fP: ∀j,j<x->zbg vP j
 fL: ∀j,j<x->zbg vL j
 PL: ∀j,¬zbg vP j->zbg vL j
 lt: ∀j∈k.keys,x<=j/\j<x'
 nd:k.p≠k.c/\k.p≠k.m/\k.p≠k.kc/\k.p≠k.f/\k.p≠k.km
theorem PI.le {ck:CK} {h:Nat->Option O} {x:Nat} {N:Nat->Prop} {cv:CV} {d:V} {k:PK} {m:Int} {n:Nd} {ct:Ct} {known:List ByteArray} {vsP vsL:List Va} {vP vL:V} {h':Nat->Option O} {x' y:Nat} (I:PI ck h x N cv d k m n ct known vsP vsL vP vL h' x') (hy:x'<=y):PI ck h x N cv d k m n ct known vsP vsL vP vL h' y:=by
 obtain⟨s,f,t1,t2,t3⟩:=I.ex;exact⟨⟨s.le hy,⟨by omega,f.2⟩,t1,t2,t3⟩,I.h3,I.h4,I.h7,I.h8,I.hm,I.h6,I.oP.le hy,I.oL.le hy,I.fP,I.fL,I.PL,fun j hj=>⟨(I.lt j hj).1,by have:=(I.lt j hj).2;omega⟩,I.nd⟩
theorem PI.addP {ck:CK} {h:Nat->Option O} {x:Nat} {N:Nat->Prop} {cv:CV} {d:V} {k:PK} {m:Int} {n:Nd} {ct:Ct} {known:List ByteArray} {vsP vsL:List Va} {vP vL:V} {h':Nat->Option O} {x':Nat} (I:PI ck h x N cv d k m n ct known vsP vsL vP vL h' x') (hs:CS ck h x N cv ct\/ ∀j,N j->j<x) (hl:vsP.length<2^30) (a:Nd):
 ∃r h2 x2,DenR Γ G 636 [vP,.t (.ip a.enc),.mp k.kc 0 0,.mp k.c 0 0,.mp k.m 0 0] h' x'=some (r,h2,x2)/\(valOf r=some r/\V.cells r=some [r]/\h2 k.p=h' k.p/\x'<=x2/\(∀j,j<x-> ¬Tp ck cv j->h2 j=h' j)/\(∀j,j<x'->j∉ k.keys-> ¬Tp ck { cv with d:=d } j->zbg vP j->h2 j=h' j)/\ ∃d2,(∀j,j<x'->Tp ck { cv with d:=d2 } j->Tp ck { cv with d:=d } j)/\(∀j,j<x'->zbg vP j->zbg r j)/\PI ck h x N cv d2 k m n (zGn m ⟨ct,known,vsP⟩ a).ct (zGn m ⟨ct,known,vsP⟩ a).known (zGn m ⟨ct,known,vsP⟩ a).vs vsL r vL (updC h2 k.p (some (.rows 16 [zIN m n r vL] false))) x2):=by
 obtain⟨s,f,t1,t2,t3⟩:=I.ex;have mk: ∀{j},j∈k.keys->x<=j/\j<x':=fun hj=>I.lt _ hj
 have nl: ∀j,N j->j<x:=fun j hj=>by
  rcases hs with hs | hs
  ·exact hs.nl j hj
  ·exact hs j hj
 have m3:k.c∈k.keys:=by simp[PK.keys]
 have m4:k.m∈k.keys:=by simp[PK.keys]
 have m6:k.p∈k.keys:=by simp[PK.keys]
 have m7:k.kc∈k.keys:=by simp[PK.keys]
 have m8:k.f∈k.keys:=by simp[PK.keys]
 have mm:k.km∈k.keys:=by simp[PK.keys]
 have q3:=zGA I.oP I.h3 (by decide);have q4:=zGA I.oP I.h4 (by decide);have q6:=zGA I.oP I.h6 (by decide);have q7:=zGA I.oP I.h7 (by decide);have q8:=zGA I.oP I.h8 (by decide);obtain⟨r,h2,x2,CF,hO,Bn,K0,A8,ML,d2,s2,tp2,nt2⟩:=zMm (st:=⟨ct,known,vsP⟩) (m:=m) s a I.oP I.h7 I.h3 I.h4 I.hm (mk mm).2 (t1 _ mm) t2 (fun hn=>by have:=nl _ hn;have:=(mk mm).1;omega) (fun j hj hn=>hj (I.fP j (nl j hn))) (t1 _ m7) (mk m7).2 q7 hl;have k3:=A8 _ (mk m3).2 (by rintro e;have:=I.h3;rw[e,I.hm]at this;cases this) (t1 _ m3) q3;have k4:=A8 _ (mk m4).2 (by rintro e;have:=I.h4;rw[e,I.hm]at this;cases this) (t1 _ m4) q4;have k6:=A8 _ (mk m6).2 (by rintro e;have:=I.h6;rw[e,I.hm]at this;cases this) (t1 _ m6) q6;have k7:=A8 _ (mk m7).2 (by rintro e;have:=I.h7;rw[e,I.hm]at this;cases this) (t1 _ m7) q7;have k8:=A8 _ (mk m8).2 (by rintro e;have:=I.h8;rw[e,I.hm]at this;cases this) (t1 _ m8) q8;have TS:zbg r k.p:=Bn _ (mk m6).2 q6;have fr2: ∀j,j<x-> ¬Tp ck cv j->h2 j=h' j:=fun j hj ht=>A8 j (by have:=(mk mm).1;have:=(mk mm).2;omega) (by have:=(mk mm).1;omega) (fun h=>ht (f.2 j hj h)) (I.fP j hj)
 have kO: ∀j,¬zbg vL j->h2 j=h' j:=fun j hj=>by
  obtain⟨z1,z2⟩:=zGi I.oL hj;exact A8 j z2 (by rintro e;rw[e,I.hm]at z1;cases z1) (t3 j hj) (zGt fun e=>hj (I.PL j e))
 have n6o:zbg vL k.p:=zGA I.oL I.h6 (by decide);have n6t: ¬Tp ck { cv with d:=d2 } k.p:=fun h=>t1 _ m6 (tp2 _ (mk m6).2 h)
 refine⟨r,h2,x2,CF,hO.valOf,zGv hO,k6,ML,fr2,fun j j1 j2 j3 j4=>A8 j j1 (fun e=>j2 (e▸mm)) j3 j4,d2,tp2,Bn,⟨⟨s2.loc (Nat.le_refl _) fun j hj ht=> ?_,⟨Nat.le_trans f.1 ML,fun j hj h=>f.2 j hj (tp2 j (by have:=f.1;omega) h)⟩,fun j hj h=>t1 j hj (tp2 j (mk hj).2 h),nt2,fun j hj h=>t3 j hj (tp2 j (zGi I.oL hj).2 h)⟩,
  by rw[zaa,if_neg I.nd.1.symm,k3];exact I.h3,by rw[zaa,if_neg I.nd.2.1.symm,k4];exact I.h4,by rw[zaa,if_neg I.nd.2.2.1.symm,k7];exact I.h7,by rw[zaa,if_neg I.nd.2.2.2.1.symm,k8];exact I.h8,by rw[zaa,if_neg I.nd.2.2.2.2.symm];exact K0,by rw[zaa,if_pos rfl],?_,?_,
  fun j hj=>Bn j (by have:=f.1;omega) (I.fP j hj),I.fL,fun j hj=> ?_,fun j hj=>⟨(mk hj).1,by have:=(mk hj).2;omega⟩,I.nd⟩⟩
 ·have:j≠k.p:=by
   rintro rfl;rcases ht with ht | ht
   ·exact n6t ht
   ·have:=nl _ ht;have:=(mk m6).1;omega
  rw[zaa,if_neg this]
 ·refine hO.keep (Nat.le_refl _) fun q z1 z2=> ?_
  have:q≠k.p:=by rintro rfl;exact z2 TS
  rw[zaa,if_neg this]
 ·refine I.oL.keep ML fun q z1 z2=> ?_
  have:q≠k.p:=by rintro rfl;exact z2 n6o
  rw[zaa,if_neg this];exact kO q z2
 ·by_cases IS:zbg vL j
  ·exact IS
  ·have z:=zGi I.oL IS;exact absurd (Bn j z.2 (zGt fun e=>IS (I.PL j e))) hj
theorem PI.addL {ck:CK} {h:Nat->Option O} {x:Nat} {N:Nat->Prop} {cv:CV} {d:V} {k:PK} {m:Int} {n:Nd} {ct:Ct} {known:List ByteArray} {vsP vsL:List Va} {vP vL:V} {h':Nat->Option O} {x':Nat} (I:PI ck h x N cv d k m n ct known vsP vsL vP vL h' x') (hs:CS ck h x N cv ct\/ ∀j,N j->j<x) (hl:vsL.length<2^30) (a:Nd):
 ∃r h2 x2,DenR Γ G 636 [vL,.t (.ip a.enc),.mp k.kc 0 0,.mp k.c 0 0,.mp k.m 0 0] h' x'=some (r,h2,x2)/\(valOf r=some r/\V.cells r=some [r]/\h2 k.p=h' k.p/\x'<=x2/\(∀j,j<x-> ¬Tp ck cv j->h2 j=h' j)/\(∀j,j<x'->j∉ k.keys-> ¬Tp ck { cv with d:=d } j->zbg vL j->h2 j=h' j)/\ ∃d2,(∀j,j<x'->Tp ck { cv with d:=d2 } j->Tp ck { cv with d:=d } j)/\(∀j,j<x'->zbg vL j->zbg r j)/\PI ck h x N cv d2 k m n (zGn m ⟨ct,known,vsL⟩ a).ct (zGn m ⟨ct,known,vsL⟩ a).known vsP (zGn m ⟨ct,known,vsL⟩ a).vs vP r (updC h2 k.p (some (.rows 16 [zIN m n vP r] false))) x2):=by
 obtain⟨s,f,t1,t2,t3⟩:=I.ex;have mk: ∀{j},j∈k.keys->x<=j/\j<x':=fun hj=>I.lt _ hj
 have nl: ∀j,N j->j<x:=fun j hj=>by
  rcases hs with hs | hs
  ·exact hs.nl j hj
  ·exact hs j hj
 have m3:k.c∈k.keys:=by simp[PK.keys]
 have m4:k.m∈k.keys:=by simp[PK.keys]
 have m6:k.p∈k.keys:=by simp[PK.keys]
 have m7:k.kc∈k.keys:=by simp[PK.keys]
 have m8:k.f∈k.keys:=by simp[PK.keys]
 have mm:k.km∈k.keys:=by simp[PK.keys]
 have q3:=zGA I.oL I.h3 (by decide);have q4:=zGA I.oL I.h4 (by decide);have q6:=zGA I.oL I.h6 (by decide);have q7:=zGA I.oL I.h7 (by decide);have q8:=zGA I.oL I.h8 (by decide);obtain⟨r,h2,x2,CF,hO,Bn,K0,A8,ML,d2,s2,tp2,nt2⟩:=zMm (st:=⟨ct,known,vsL⟩) (m:=m) s a I.oL I.h7 I.h3 I.h4 I.hm (mk mm).2 (t1 _ mm) t3 (fun hn=>by have:=nl _ hn;have:=(mk mm).1;omega) (fun j hj hn=>hj (I.fL j (nl j hn))) (t1 _ m7) (mk m7).2 q7 hl;have k3:=A8 _ (mk m3).2 (by rintro e;have:=I.h3;rw[e,I.hm]at this;cases this) (t1 _ m3) q3;have k4:=A8 _ (mk m4).2 (by rintro e;have:=I.h4;rw[e,I.hm]at this;cases this) (t1 _ m4) q4;have k6:=A8 _ (mk m6).2 (by rintro e;have:=I.h6;rw[e,I.hm]at this;cases this) (t1 _ m6) q6;have k7:=A8 _ (mk m7).2 (by rintro e;have:=I.h7;rw[e,I.hm]at this;cases this) (t1 _ m7) q7;have k8:=A8 _ (mk m8).2 (by rintro e;have:=I.h8;rw[e,I.hm]at this;cases this) (t1 _ m8) q8;have TS:zbg r k.p:=Bn _ (mk m6).2 q6;have fr2: ∀j,j<x-> ¬Tp ck cv j->h2 j=h' j:=fun j hj ht=>A8 j (by have:=(mk mm).1;have:=(mk mm).2;omega) (by have:=(mk mm).1;omega) (fun h=>ht (f.2 j hj h)) (I.fL j hj)
 have kO: ∀j,¬zbg vP j->h2 j=h' j:=fun j hj=>by
  obtain⟨z1,z2⟩:=zGi I.oP hj;exact A8 j z2 (by rintro e;rw[e,I.hm]at z1;cases z1) (t2 j hj) (I.PL j hj)
 have n6o:zbg vP k.p:=zGA I.oP I.h6 (by decide);have n6t: ¬Tp ck { cv with d:=d2 } k.p:=fun h=>t1 _ m6 (tp2 _ (mk m6).2 h)
 refine⟨r,h2,x2,CF,hO.valOf,zGv hO,k6,ML,fr2,fun j j1 j2 j3 j4=>A8 j j1 (fun e=>j2 (e▸mm)) j3 j4,d2,tp2,Bn,⟨⟨s2.loc (Nat.le_refl _) fun j hj ht=> ?_,⟨Nat.le_trans f.1 ML,fun j hj h=>f.2 j hj (tp2 j (by have:=f.1;omega) h)⟩,fun j hj h=>t1 j hj (tp2 j (mk hj).2 h),fun j hj h=>t2 j hj (tp2 j (zGi I.oP hj).2 h),nt2⟩,
  by rw[zaa,if_neg I.nd.1.symm,k3];exact I.h3,by rw[zaa,if_neg I.nd.2.1.symm,k4];exact I.h4,by rw[zaa,if_neg I.nd.2.2.1.symm,k7];exact I.h7,by rw[zaa,if_neg I.nd.2.2.2.1.symm,k8];exact I.h8,by rw[zaa,if_neg I.nd.2.2.2.2.symm];exact K0,by rw[zaa,if_pos rfl],?_,?_,
  I.fP,fun j hj=>Bn j (by have:=f.1;omega) (I.fL j hj),fun j hj=> ?_,fun j hj=>⟨(mk hj).1,by have:=(mk hj).2;omega⟩,I.nd⟩⟩
 ·have:j≠k.p:=by
   rintro rfl;rcases ht with ht | ht
   ·exact n6t ht
   ·have:=nl _ ht;have:=(mk m6).1;omega
  rw[zaa,if_neg this]
 ·refine I.oP.keep ML fun q z1 z2=> ?_
  have:q≠k.p:=by rintro rfl;exact z2 n6o
  rw[zaa,if_neg this];exact kO q z2
 ·refine hO.keep (Nat.le_refl _) fun q z1 z2=> ?_
  have:q≠k.p:=by rintro rfl;exact z2 TS
  rw[zaa,if_neg this]
 ·by_cases IS:zbg vP j
  ·exact absurd IS hj
  ·have z:=zGi I.oP IS;exact Bn j z.2 (I.PL j IS)
def PF (ck:CK) (N:Nat->Prop) (cv:CV) (d:V) (k:PK) (vP vL:V) (j:Nat):Prop:=j∈k.keys\/Tp ck { cv with d:=d } j\/ ¬zbg vP j\/ ¬zbg vL j\/N j
theorem PI.keep {ck:CK} {h:Nat->Option O} {x:Nat} {N:Nat->Prop} {cv:CV} {d:V} {k:PK} {m:Int} {n:Nd} {ct:Ct} {known:List ByteArray} {vsP vsL:List Va} {vP vL:V} {h' h'':Nat->Option O} {x' x'':Nat} (I:PI ck h x N cv d k m n ct known vsP vsL vP vL h' x') (hx:x'<=x'')
 (hh: ∀j,PF ck N cv d k vP vL j->h'' j=h' j):PI ck h x N cv d k m n ct known vsP vsL vP vL h'' x'':=by
 obtain⟨s,f,t1,t2,t3⟩:=I.ex;have kk: ∀j∈k.keys,h'' j=h' j:=fun j hj=>hh j (.inl hj)
 refine⟨⟨s.loc hx fun j hj ht=>hh j ?_,⟨Nat.le_trans f.1 hx,f.2⟩,t1,t2,t3⟩,by rw[kk _ (by simp[PK.keys])];exact I.h3,by rw[kk _ (by simp[PK.keys])];exact I.h4,by rw[kk _ (by simp[PK.keys])];exact I.h7,by rw[kk _ (by simp[PK.keys])];exact I.h8,by rw[kk _ (by simp[PK.keys])];exact I.hm,by rw[kk _ (by simp[PK.keys])];exact I.h6,
  I.oP.keep hx fun q _ z=>hh q (.inr (.inr (.inl z))),I.oL.keep hx fun q _ z=>hh q (.inr (.inr (.inr (.inl z)))),I.fP,I.fL,I.PL,fun j hj=>⟨(I.lt j hj).1,by have:=(I.lt j hj).2;omega⟩,I.nd⟩
 rcases ht with ht | ht
 ·exact .inr (.inl ht)
 ·exact .inr (.inr (.inr (.inr ht)))
theorem PI.below {ck:CK} {h:Nat->Option O} {x:Nat} {N:Nat->Prop} {cv:CV} {d:V} {k:PK} {m:Int} {n:Nd} {ct:Ct} {known:List ByteArray} {vsP vsL:List Va} {vP vL:V} {h':Nat->Option O} {x':Nat} (I:PI ck h x N cv d k m n ct known vsP vsL vP vL h' x') {j:Nat} (hj:PF ck N cv d k vP vL j):j<x':=by
 obtain⟨s,f,t1,t2,t3⟩:=I.ex;rcases hj with hj | hj | hj | hj | hj
 ·exact(I.lt j hj).2
 ·exact(s.at hj).2
 ·exact(zGi I.oP hj).2
 ·exact(zGi I.oL hj).2
 ·exact s.nl j hj
theorem zLY {ck:CK} {h:Nat->Option O} {x:Nat} {N:Nat->Prop} {cv:CV} {d:V} {k:PK} {m:Int} {n:Nd} {ct:Ct} {known:List ByteArray} {vsP vsL:List Va} {vP vL:V} {h':Nat->Option O} {x' ky:Nat} {env:Nat->V} (I:PI ck h x N cv d k m n ct known vsP vsL vP vL h' x') (nl: ∀j,N j->j<x) (hl:vsL.length<2^30)
 (DA:h' ky=some (.loop env [50] zHz .ready)) (hy:ky<x') (hF: ¬PF ck N cv d k vP vL ky) (e6:env 6= .mp k.p 0 0) (e8:env 8= .mp k.f 0 0) (a:Nd):
 ∃r h2 x2,DenY Γ G ky [.t (.ip a.enc)] h' x'=some (r,h2,x2)/\(r=vb true/\h2 ky=some (.loop env [50] zHz .ready)/\x'<=x2/\ ∃d2 v2,PI ck h x N cv d2 k m n (if a.kind=35 then(zGn m ⟨ct,known,vsL⟩ a).ct else ct) (if a.kind=35 then(zGn m ⟨ct,known,vsL⟩ a).known else known) vsP (if a.kind=35 then(zGn m ⟨ct,known,vsL⟩ a).vs else vsL) vP v2 h2 x2/\
  (∀j,j<x'-> ¬PF ck N cv d k vP vL j->j≠ky->h2 j=h' j)/\(∀j,j<x'->PF ck N cv d2 k vP v2 j->PF ck N cv d k vP vL j)/\ ∀j,N j->h2 j=h' j):=by
 by_cases hk:a.kind=35
 ·simp only[hk,if_true];have AT:(a.kind=35)=True:=eq_true hk;have m6:k.p∈k.keys:=by simp[PK.keys]
  have m8:k.f∈k.keys:=by simp[PK.keys]
  have n6:(k.p=ky)=False:=eq_false fun e=>hF (e▸ .inl m6)
  have n8:(k.f=ky)=False:=eq_false fun e=>hF (e▸ .inl m8)
  have h6:=I.h6;unfold zIN at h6;have h8:=I.h8;have vv:=I.oL.valOf;have hb: ∀j,PF ck N cv d k vP vL j->j≠ky:=fun j hj=>by rintro rfl;exact hF hj
  have:=zjy (Γ:=Γ) (G:=G) (vs:=[.t (.ip a.enc)]) (n:=x') (P:=fun ex h2 n'=>ex= .normal/\h2 ky=some (.loop env [50] zHz .busy)/\x'<=n'/\ ∃d2 v2,PI ck h x N cv d2 k m n (zGn m ⟨ct,known,vsL⟩ a).ct (zGn m ⟨ct,known,vsL⟩ a).known vsP (zGn m ⟨ct,known,vsL⟩ a).vs vP v2 h2 n'/\
   (∀j,j<x'-> ¬PF ck N cv d k vP vL j->j≠ky->h2 j=h' j)/\(∀j,j<x'->PF ck N cv d2 k vP v2 j->PF ck N cv d k vP vL j)/\ ∀j,N j->h2 j=h' j) DA rfl (fun ex h2 n' hP=>⟨_,_,_,hP.2.1⟩) (by
   simp -dsimp -implicitDefEqProofs only[go_sem,seval,Nd.enc_eq,AT,e6,e8,n6,n8,h6,h8,vv]
   have hu: ∀j,PF ck N cv d k vP vL j->updC (updC h' ky (some (.loop env [50] zHz .enter))) ky (some (.loop env [50] zHz .busy)) j=h' j:=fun j hj=>by
    rw[zaa,if_neg (hb j hj),zaa,if_neg (hb j hj)]
   have Hk:=(I.keep (x'':=x'+1+5+7) (by omega) hu).addL (.inr nl) hl a;rw[Nd.enc_eq]at Hk;refine zas Hk ?_;rintro r h2 x2 ⟨z1,z2,z3,ML,_,QD,d2,HI,KY,S5⟩;have z6:h2 k.p=h' k.p:=by rw[z3];exact hu _ (.inl m6)
   rw[h6]at z6;unfold V.cells at z2;simp -dsimp -implicitDefEqProofs only[go_sem,seval,z1,z2,z6,e6];have Uw:ky∉ k.keys:=fun h=>hF (.inl h)
   have Gj: ¬Tp ck { cv with d:=d } ky:=fun h=>hF (.inr (.inl h))
   have P8:zbg vL ky:=zGt fun h=>hF (.inr (.inr (.inr (.inl h))))
   refine⟨rfl,?_,by(try simp -dsimp -implicitDefEqProofs only[go_sem,seval]);(try omega),d2,r,?_,fun j j1 j2 j3=> ?_,fun j j1 j2=> ?_,fun j hj=> ?_⟩
   ·simp only[zaC,zaA];rw[zaa,if_neg (fun e=>Uw (by rw[e];exact m6)),QD ky (by omega) Uw Gj P8,zaa,if_pos rfl]
   ·simp only[zaC,zaA];refine PI.le ?_ (x':=x2) (by(try simp -dsimp -implicitDefEqProofs only[go_sem,seval]);(try omega));exact S5
   ·simp only[zaC,zaA];have jk:j∉ k.keys:=fun h=>j2 (.inl h)
    rw[zaa,if_neg (fun e=>jk (by rw[e];exact m6)),QD j (by omega) jk (fun h=>j2 (.inr (.inl h))) (zGt fun h=>j2 (.inr (.inr (.inr (.inl h))))),zaa,if_neg j3,zaa,if_neg j3]
   ·rcases j2 with h | h | h | h | h
    ·exact .inl h
    ·exact .inr (.inl (HI j (by omega) h))
    ·exact .inr (.inr (.inl h))
    ·exact .inr (.inr (.inr (.inl fun hv=>h (KY j (by omega) hv))))
    ·exact .inr (.inr (.inr (.inr h)))
   ·have Vh:=nl j hj;have Kq:j∉ k.keys:=fun h=>by have:=(I.lt j h).1;omega
    simp only[zaC,zaA];rw[zaa,if_neg (fun e=>Kq (by rw[e];exact m6)),QD j (by have:=I.ex.2.1.1;omega) Kq (I.ex.1.nt j hj) (I.fL j Vh)]
    exact hu j (.inr (.inr (.inr (.inr hj)))))
  obtain⟨ex,h2,n2,⟨rfl,q1,q2,d2,v2,q3,q4,q5,q6⟩,env',ps',bd',q7,q8⟩:=this;rw[q1]at q7;simp only[zA,O.loop.injEq]at q7;obtain⟨rfl,rfl,rfl,_⟩:=q7;refine⟨_,_,n2,q8,rfl,by rw[zaa,if_pos rfl];rfl,q2,d2,v2,q3.keep (Nat.le_refl _) fun j hj=> ?_,fun j j1 j2 j3=>by rw[zaa,if_neg j3];exact q4 j j1 j2 j3,q5,fun j hj=>by rw[zaa,if_neg (fun e=>hF (.inr (.inr (.inr (.inr (by rw[<- e];exact hj))))))];exact q6 j hj⟩;have:j≠ky:=by rintro rfl;exact hF (q5 _ hy hj)
  rw[zaa,if_neg this]
 ·have AT:(a.kind=35)=False:=eq_false hk;simp only[hk,if_false]
  have:=zjy (Γ:=Γ) (G:=G) (vs:=[.t (.ip a.enc)]) (n:=x') (P:=fun ex h2 n'=>ex= .normal/\h2 ky=some (.loop env [50] zHz .busy)/\x'<=n'/\ ∀j,j≠ky->h2 j=h' j) DA rfl (fun ex h2 n' hP=>⟨_,_,_,hP.2.1⟩) (by
   simp -dsimp -implicitDefEqProofs only[go_sem,seval,Nd.enc_eq,AT];refine⟨rfl,?_,by(try simp -dsimp -implicitDefEqProofs only[go_sem,seval]);(try omega),fun j hj=> ?_⟩
   ·(try simp only[zaC,zaA])
    rw[zaa,if_pos rfl];rfl
   ·(try simp only[zaC,zaA])
    rw[zaa,if_neg hj,zaa,if_neg hj])
  obtain⟨ex,h2,n2,⟨rfl,q1,q2,q3⟩,env',ps',bd',q7,q8⟩:=this;rw[q1]at q7;simp only[zA,O.loop.injEq]at q7;obtain⟨rfl,rfl,rfl,_⟩:=q7;refine⟨_,_,n2,q8,rfl,by rw[zaa,if_pos rfl];rfl,q2,d,vL,I.keep q2 fun j hj=> ?_,fun j _ _ hj=> ?_,fun _ _ h=>h,fun j hj=> ?_⟩
  ·have:j≠ky:=by rintro rfl;exact hF hj
   rw[zaa,if_neg this];exact q3 j this
  ·rw[zaa,if_neg hj];exact q3 j hj
  ·have:j≠ky:=by rintro rfl;exact hF (.inr (.inr (.inr (.inr hj))))
   rw[zaa,if_neg this];exact q3 j this
abbrev ipK (t:Nd):List V:=t.kids.map fun q=> .t (.ip q.enc)
theorem zL5 {h:Nat->Option O} (t:Nd): ∀(i:Nat) (q:V),(ipK t)[i]? =some q->zlx h 9 i (.t (.sl (t.kids.map Nd.enc)))=some q/\zIL q:=by
 intro i q hq;rw[ipK,zJ]at hq
 cases ha:t.kids[i]? with
 | none=>rw[ha]at hq;cases hq
 | some a=>
   rw[ha]at hq;cases hq;refine⟨?_,.inr ⟨_,rfl⟩⟩;simp only[zlx];rw[if_pos (by omega)];simp[ha,zGz]
theorem zL2 {h:Nat->Option O} (t:Nd):zNo h (.t (.ip t.enc)) (ipK t):=by
 refine⟨.t (.ip t.enc),.t (.ip (t.enc.drop 7)),.t (.sl (t.kids.map Nd.enc)),rfl,rfl,?_,by simp[lenS],rfl,rfl,rfl,zL5 t⟩;rw[Nd.enc_eq];rfl
theorem zL1 {h:Nat->Option O} {k:Nat} {m:Int} {n:Nd} {vP vL:V} (hk:h k=some (.rows 16 [zIN m n vP vL] false)):zNo h (.mp k 0 5) (ipK (zGj n 34)):=by
 refine⟨.mp k 0 5,.mp k 0 12,.t (.sl ((zGj n 34).kids.map Nd.enc)),by simp only[zBw,hk],by simp only[zsM,hk],by simp[zuA,hk,zIN,rd,zb9],by simp[lenS],rfl,rfl,rfl,zL5 _⟩
theorem zKQ (n:Nd): ¬(zGj n 34).kind=35:=by
 unfold zGj
 cases hf:n.kids.find? fun x=>decide (x.kind=34)with
 | none=>simp[Nd.noneN,Nd.kind]
 | some b=>
   have:=List.find?_some hf;simp only[decide_eq_true_eq]at this;simp only[Option.getD_some,this];omega
theorem zK1 {ck:CK} {h:Nat->Option O} {x:Nat} {N:Nat->Prop} {cv:CV} {d:V} {k:PK} {m:Int} {n:Nd} {ct:Ct} {known:List ByteArray} {vsP vsL:List Va} {vP vL:V} {h':Nat->Option O} {x' ky:Nat} {env:Nat->V} (I:PI ck h x N cv d k m n ct known vsP vsL vP vL h' x')
 (DA:h' ky=some (.loop env [50] zHz .ready)) (hy:ky<x') (hF: ¬PF ck N cv d k vP vL ky):
 ∃r h2 x2,DenY Γ G ky [.mp k.p 0 5] h' x'=some (r,h2,x2)/\(r=vb true/\h2 ky=some (.loop env [50] zHz .ready)/\x'<=x2/\PI ck h x N cv d k m n ct known vsP vsL vP vL h2 x2/\ ∀j,j≠ky->h2 j=h' j):=by
 have AT:((zGj n 34).kind=35)=False:=eq_false (zKQ n);have m6:k.p∈k.keys:=by simp[PK.keys]
 have n6:(k.p=ky)=False:=eq_false fun e=>hF (e▸ .inl m6)
 have h6:=I.h6;unfold zIN at h6
 have:=zjy (Γ:=Γ) (G:=G) (vs:=[.mp k.p 0 5]) (n:=x') (P:=fun ex h2 n'=>ex= .normal/\h2 ky=some (.loop env [50] zHz .busy)/\x'<=n'/\ ∀j,j≠ky->h2 j=h' j) DA rfl (fun ex h2 n' hP=>⟨_,_,_,hP.2.1⟩) (by
  simp -dsimp -implicitDefEqProofs only[go_sem,seval,AT,n6,h6];refine⟨rfl,?_,by(try simp -dsimp -implicitDefEqProofs only[go_sem,seval]);(try omega),fun j hj=> ?_⟩
  ·(try simp only[zaC,zaA])
   rw[zaa,if_pos rfl];rfl
  ·(try simp only[zaC,zaA])
   rw[zaa,if_neg hj,zaa,if_neg hj])
 obtain⟨ex,h2,n2,⟨rfl,q1,q2,q3⟩,env',ps',bd',q7,q8⟩:=this;rw[q1]at q7;simp only[zA,O.loop.injEq]at q7;obtain⟨rfl,rfl,rfl,_⟩:=q7;refine⟨_,_,n2,q8,rfl,by rw[zaa,if_pos rfl];rfl,q2,I.keep q2 fun j hj=> ?_,fun j hj=> ?_⟩
 ·have:j≠ky:=by rintro rfl;exact hF hj
  rw[zaa,if_neg this];exact q3 j this
 ·rw[zaa,if_neg hj];exact q3 j hj
def LI (ck:CK) (h:Nat->Option O) (x:Nat) (N:Nat->Prop) (cv:CV) (k:PK) (m:Int) (n:Nd) (vsP:List Va) (vP:V) (st0:AddS) (Hn:Nat->Option O) (ky:Nat) (W:List (V×Nd)) (F:Nat->Prop) (h':Nat->Option O) (x':Nat):Prop:=
 ∃d vL L,PI ck h x N cv d k m n ((L.filter fun a=>decide (a.kind=35)).foldl (zGn m) st0).ct ((L.filter fun a=>decide (a.kind=35)).foldl (zGn m) st0).known vsP ((L.filter fun a=>decide (a.kind=35)).foldl (zGn m) st0).vs vP vL h' x'/\
  F=PF ck N cv d k vP vL/\ ¬F ky/\(∀j,N j->h' j=Hn j)/\L++W.reverse.flatMap (fun a=>a.2.flat)=(zGj n 34).flat/\(W=[(.mp k.p 0 5,zGj n 34)]\/ ∀a∈W,a.1= .t (.ip a.2.enc))
theorem zLs: ∀(a:List V) (b:List Nd),a.length=b.length->(a.zip b).map (·.2)=b
 | [],[],_=>rfl
 | x::a,y::b,h=>by rw[List.zip_cons_cons,List.map_cons,zLs a b (by simpa using h)]
 | [],_::_,h=>by simp at h
 | _::_,[],h=>by simp at h
theorem zMn {L:List Nd} {W:List (V×Nd)} {p:V} {t:Nd} {Z:List Nd} (h:L++(W++[(p,t)]).reverse.flatMap (fun a=>a.2.flat)=Z):(L++[t])++(W++((ipK t).zip t.kids).reverse).reverse.flatMap (fun a=>a.2.flat)=Z:=by
 rw[<- h]
 have hz:((ipK t).zip t.kids).flatMap (fun a=>a.2.flat)=t.kids.flatMap Nd.flat:=by
  have:=zLs (ipK t) t.kids (by simp)
  have h2: ∀Z:List (V×Nd),Z.flatMap (fun a=>a.2.flat)=(Z.map (·.2)).flatMap Nd.flat:=fun Z=>by
   induction Z with
   | nil=>rfl
   | cons a Z ih=>rw[List.flatMap_cons,ih,List.map_cons,List.flatMap_cons]
  rw[h2,this]
 rw[List.reverse_append,List.reverse_reverse,List.flatMap_append,hz,List.reverse_append];simp only[List.reverse_cons,List.reverse_nil,List.nil_append,List.singleton_append,List.flatMap_cons];rw[Nd.flat_eq t];simp
theorem zKU (t:Nd): ∀a∈(ipK t).zip t.kids,a.1= .t (.ip a.2.enc):=by
 intro a ha;obtain⟨n,Fj,Fh⟩:=List.mem_iff_getElem.1 ha;rw[List.getElem_zip]at Fh;rw[<- Fh];simp
end Rg
end
section
namespace Rg
open Go
def prK (x:Nat):PK:=⟨x+0,x+1,x+3+8,x+3+10+5+1,x+3+10+5+3+1,x+3+10+5+0⟩
theorem zGF (ct:Ct) (e p:Int):(ct.report e p).procs=ct.procs:=by unfold Ct.report;split<;>rfl
theorem zHZ (m:Int): ∀(l:List Nd) (st:AddS),(l.foldl (zGn m) st).ct.procs=st.ct.procs
 | [],st=>rfl
 | a::l,st=>by
   rw[List.foldl_cons,zHZ m l];unfold zGn;split
   ·exact zGF _ _ _
   ·split
    ·rfl
    ·exact zGF _ _ _
theorem zK3 (ct:Ct) (m:Int) (n:Nd):(zGr ct m n).ct.procs=ct.procs:=by
 unfold zGr;rw[zHZ];exact zHZ m _ _
theorem zHT {h:Nat->Option O} {x:Nat} {N:Nat->Prop} {v:V} {sz:Nat} {es:List (List T)} (o:zaF h x v sz (zGk es)) (hN: ∀j,¬zbg v j->N j):Nst h x N v sz es:=by
 rcases o with⟨rfl,he⟩ | ⟨k,rfl,hk,hh⟩
 ·exact .inl ⟨rfl,by simpa using he⟩
 ·exact .inr ⟨k,false,by simp,hk,hN k (fun h=>h _ _ rfl),hh⟩
theorem zMA {ck:CK} {h:Nat->Option O} {x:Nat} {N:Nat->Prop} {cv:CV} {ct:Ct} (s:CS ck h x N cv ct) (m:Int) (n:Nd) (hn:n.size<900) (BL:ct.procs.length<2^30):
 ∃r h' x',DenR Γ G 625 [.mp ck.c 0 0,vi m,(.agg [.t (ti (n).kind),.t (.str (n).name),.t (.str (n).other),.t (ti (n).n),.t (ti (n).len),.t (ti (n).init),.t (tb (n).ghost),.t (.sl ((n).kids.map Nd.enc)),.t (ti (n).pos)])] h x=some (r,h',x')/\ ∃N' cv',CS ck h' x' N' cv' (ct.proc m n)/\FrC ck h x N cv h' x' N' cv':=by
 have hk:n.kids.length<=(n.kids.map Nd.size).sum:=by
  generalize n.kids=l
  induction l with
  | nil=>simp
  | cons a l ih=>have:=a.size_pos;simp only[List.map_cons,List.sum_cons,List.length_cons];omega
 have Lb:=Nd.size_eq n
 have Co:(zGj n 34).size<900:=by
  unfold zGj
  cases hf:n.kids.find? fun x=>decide (x.kind=34)with
  | none=>simp[Nd.noneN,Nd.size_eq,Nd.kids]
  | some b=>
    have:=Nd.size_kid (List.mem_of_find?_eq_some hf);simp;omega
 have I9:=zKq n 34 (by omega);have By:=zIg (zGj n 34) Co
 have SC: ∀(l:List Nd) (st:AddS),(l.foldl (zGn m) st).vs.length<=st.vs.length+l.length:=fun l=>by
  induction l with
  | nil=>intro st;simp
  | cons a l ih=>
    intro st;have h1:=ih (zGn m st a)
    have h2:(zGn m st a).vs.length<=st.vs.length+1:=by
     unfold zGn;split
     ·simp
     ·split<;>simp
    simp only[List.foldl_cons,List.length_cons];omega
 (refine zay Γ625 rfl ?_;dsimp only[zOf])
 simp -dsimp -implicitDefEqProofs only[go_sem,seval,I9,By];refine zaq 281474708275712 n.kids.length (fun i f h' x'=>(f 28).v=vi i/\(∀j,j<x-> ¬Tp ck cv j->h' j=h j)/\ ∃d vP,PI ck h x N cv d (prK x) m n (((n.kids.take i).filter fun a=>decide (a.kind=58)).foldl (zGn m) ⟨ct,[],[]⟩).ct (((n.kids.take i).filter fun a=>decide (a.kind=58)).foldl (zGn m) ⟨ct,[],[]⟩).known (((n.kids.take i).filter fun a=>decide (a.kind=58)).foldl (zGn m) ⟨ct,[],[]⟩).vs [] vP (.t .nils) h' x') rfl ?_ ?_
 ·refine⟨by simp -dsimp -implicitDefEqProofs only[go_sem,seval],fun j hj _=> ?_,cv.d,.t .nils,?_⟩
  ·simp only[zaC,zaA]
   repeat rw[zaa,if_neg (by omega)]
  simp only[zaC,zaA];refine⟨⟨s.loc (by(try simp -dsimp -implicitDefEqProofs only[go_sem,seval]);(try omega)) fun j hj _=> ?_,⟨by(try simp -dsimp -implicitDefEqProofs only[go_sem,seval]);(try omega),fun _ _ h=>h⟩,fun j hj=>s.below ?_,fun j hj=>absurd (by intro i n e;cases e) hj,fun j hj=>absurd (by intro i n e;cases e) hj⟩,?_,?_,?_,?_,?_,?_,.inl ⟨rfl,rfl⟩,.inl ⟨rfl,rfl⟩,fun j _ i n e=>(by cases e),fun j _ i n e=>(by cases e),fun j _ i n e=>(by cases e),fun j hj=> ?_,?_⟩
  ·repeat rw[zaa,if_neg (by omega)]
  ·simp only[PK.keys,prK,List.mem_cons,List.not_mem_nil,or_false]at hj;omega
  ·simp only[prK]
   repeat(first | rw[zaa,if_pos rfl] | rw[zaa,if_neg (by omega)])
  ·simp only[prK]
   repeat(first | rw[zaa,if_pos rfl] | rw[zaa,if_neg (by omega)])
  ·simp only[prK]
   repeat(first | rw[zaa,if_pos rfl] | rw[zaa,if_neg (by omega)])
  ·simp only[prK]
   repeat(first | rw[zaa,if_pos rfl] | rw[zaa,if_neg (by omega)])
  ·simp only[prK]
   repeat(first | rw[zaa,if_pos rfl] | rw[zaa,if_neg (by omega)])
   rfl
  ·simp only[prK]
   repeat(first | rw[zaa,if_pos rfl] | rw[zaa,if_neg (by omega)])
   rfl
  ·simp only[PK.keys,prK,List.mem_cons,List.not_mem_nil,or_false]at hj;refine⟨by omega,?_⟩
   (try simp -dsimp -implicitDefEqProofs only[go_sem,seval]);(try omega)
  ·simp only[prK];omega
 rintro i f u H1 x1 bb hi ⟨g,AG,d,vP,I⟩
 by_cases AV:i<n.kids.length
 ·have h1:=eq_true AV;obtain⟨a,ha,Cp⟩:=zai AV;have hw:=zan i (by omega);have Bj:(n.kids.map Nd.enc)[i]? =some a.enc:=by rw[zJ,ha];rfl
  have CW:=zIy (fun a:Nd=>decide (a.kind=58)) ha;have h6:=I.h6;unfold zIN at h6;have h8:=I.h8;have vv:=I.oP.valOf;simp only[prK]at h6 h8
  by_cases hk:a.kind=58
  ·have AT:=eq_true hk;simp only[AT,decide_true,if_true]at CW;simp -dsimp -implicitDefEqProofs only[go_sem,seval,g,h1,Bj,Nd.enc_eq,AT,h6,h8,vv];have FZ:=SC ((n.kids.take i).filter fun a=>decide (a.kind=58)) ⟨ct,[],[]⟩;have Vb:((n.kids.take i).filter fun a=>decide (a.kind=58)).length<=i:=Nat.le_trans (List.length_filter_le _ _) (List.length_take_le _ _);simp only[List.length_nil]at FZ;have Hk:=(I.le (y:=x1+1+2+7+10) (by omega)).addP (.inr s.nl) (by omega) a;rw[Nd.enc_eq]at Hk;refine zas Hk ?_;rintro r h2 x2 ⟨z1,z2,z3,ML,LB,_,d2,_,_,S5⟩;have z6:h2 (x+3+8)=H1 (x+3+8):=z3;rw[h6]at z6;unfold V.cells at z2;simp -dsimp -implicitDefEqProofs only[go_sem,seval,z1,z2,z6,g,hw];refine⟨AV,by simp -dsimp -implicitDefEqProofs only[go_sem,seval],fun j hj ht=> ?_,d2,r,?_⟩
   ·simp -dsimp -implicitDefEqProofs only[go_sem,seval];rw[if_neg (by omega),LB j hj ht];exact AG j hj ht
   rw[CW,List.foldl_append];simp -dsimp -implicitDefEqProofs only[go_sem,seval];refine PI.le ?_ (x':=x2) (by(try simp -dsimp -implicitDefEqProofs only[go_sem,seval]);(try omega));exact S5
  ·have AT:=eq_false hk;simp only[AT,decide_false,zG,if_false,List.append_nil]at CW;simp -dsimp -implicitDefEqProofs only[go_sem,seval,g,h1,Bj,Nd.enc_eq,AT,hw];refine⟨AV,by simp -dsimp -implicitDefEqProofs only[go_sem,seval],AG,d,vP,?_⟩;rw[CW];simp -dsimp -implicitDefEqProofs only[go_sem,seval];refine I.le ?_
   (try simp -dsimp -implicitDefEqProofs only[go_sem,seval]);(try omega)
 have h1:=eq_false AV;have Tf:i=n.kids.length:=by omega
 subst Tf;rw[List.take_length]at I;have hI:PI ck h x N cv d (prK x) m n (zGp ct m n).ct (zGp ct m n).known (zGp ct m n).vs [] vP (.t .nils) H1 x1:=I;have h6:=I.h6;unfold zIN at h6;simp only[prK]at h6;simp -dsimp -implicitDefEqProofs only[go_sem,seval,g,h1,h6];refine zas (zHn (.inl ⟨x+3+8,0,5,rfl⟩)) ?_;rintro r h2 n2 ⟨rfl,rfl,Fh⟩;simp -dsimp -implicitDefEqProofs only[go_sem,seval];have UW:x1+1+2<n2:=by omega
 have UJ:=hI.ex.2.1.1;have RF:=(hI.lt (x+3+8) (by simp[PK.keys,prK])).2;have nl:=s.nl;have Mw:=SC ((n.kids).filter fun a=>decide (a.kind=58)) ⟨ct,[],[]⟩;have PFx: ∀{j},PF ck N cv d (prK x) vP (.t .nils) j->j<x1:=fun hj=>hI.below hj
 refine zIj (I:=LI ck h x N cv (prK x) m n (zGp ct m n).vs vP { zGp ct m n with vs:=[] } H1 n2) (p0:=.mp (x+3+8) 0 5) (t0:=zGj n 34) (F0:=PF ck N cv d (prK x) vP (.t .nils)) (by rw[zaa,if_pos rfl]) (by rw[zaa,if_neg (by omega),zaa,if_pos rfl]) (by omega) ?_ ?_ ?_ (by omega) (.inl ⟨_,_,_,rfl⟩) ?_ ?_
 ·rintro W F h3 x3 h4 x4 ⟨d3,vL,L,S5,rfl,B4,hN,hL,hW⟩ hx hh;exact⟨d3,vL,L,S5.keep hx hh,rfl,B4,fun j hj=>(hh j (.inr (.inr (.inr (.inr hj))))).trans (hN j hj),hL,hW⟩
 ·rintro W F h3 x3 ⟨d3,vL,L,S5,rfl,B4,hN,hL,hW⟩ j hj;exact⟨S5.below hj,by rintro rfl;exact B4 hj⟩
 ·rintro W p t F h3 x3 ⟨d3,vL,L,S5,rfl,B4,hN,hL,hW⟩ Rx SD;have CW:=List.filter_append (p:=fun a:Nd=>decide (a.kind=35)) (l₁:=L) (l₂:=[t]);have hZ:=zMn hL;rcases hW with hW | hW
  ·have Ur:W=[]/\(p,t)=(V.mp (prK x).p 0 5,zGj n 34):=by
    cases W with
    | nil=>simpa using hW
    | cons a W=>simp at hW
   obtain⟨rfl,Fg⟩:=Ur;cases Fg;obtain⟨r,h5,x5,CF,rfl,g1,g2,g3,g4⟩:=zK1 S5 SD Rx B4
   have T1:((L++[zGj n 34]).filter fun a=>decide (a.kind=35))=L.filter fun a=>decide (a.kind=35):=by
    rw[List.filter_append];simp[zKQ n]
   refine⟨_,h5,x5,CF,rfl,PF ck N cv d3 (prK x) vP vL,ipK (zGj n 34),⟨d3,vL,L++[zGj n 34],by rw[T1];exact g3,rfl,B4,fun j hj=>(g4 j (fun e=>B4 (.inr (.inr (.inr (.inr (by rw[<- e];exact hj))))))).trans (hN j hj),hZ,.inr fun a ha=> ?_⟩,by simp,fun h'' hh=>zL1 (m:=m) (vP:=vP) (vL:=vL) ?_,g2,g1,fun j _ _ hj=>g4 j hj,fun _ _ h=>h⟩
   ·exact zKU _ a (by simpa using ha)
   ·rw[hh _ (.inl (by simp[PK.keys,prK]))];exact g3.h6
  ·have hp:=hW (p,t) (by simp);simp only at hp;subst hp
   generalize HJ:({ zGp ct m n with vs:=[] }:AddS)=st0 at *
   have Pu:L.length<=(zGj n 34).size:=by
    rw[<- Nd.flat_len,<- hL,zM];omega
   have Au:=SC (L.filter fun a=>decide (a.kind=35)) st0;have UM:st0.vs.length=0:=by rw[<- HJ];rfl
   have MR:=List.length_filter_le (fun a:Nd=>decide (a.kind=35)) L;obtain⟨r,h5,x5,CF,rfl,g1,g2,d5,v5,g3,g4,g5,g6⟩:=zLY S5 nl (by omega) SD Rx B4 (by simp -dsimp -implicitDefEqProofs only[go_sem,seval];rfl) (by simp -dsimp -implicitDefEqProofs only[go_sem,seval];rfl) t;refine⟨_,h5,x5,CF,rfl,PF ck N cv d5 (prK x) vP v5,ipK t,⟨d5,v5,L++[t],?_,rfl,fun h=>B4 (g5 _ Rx h),fun j hj=>(g6 j hj).trans (hN j hj),hZ,.inr fun a ha=> ?_⟩,by simp,fun h'' hh=>zL2 t,g2,g1,g4,g5⟩
   ·rw[CW,List.foldl_append]
    by_cases hk:t.kind=35
    ·simpa[hk]using g3
    ·simpa[hk]using g3
   ·rcases List.mem_append.1 ha with ha | ha
    ·exact hW a (List.mem_append_left _ ha)
    ·exact zKU _ a (by simpa using ha)
 ·refine⟨d,.t .nils,[],hI.keep (by omega) fun j hj=> ?_,rfl,fun hj=> ?_,fun j hj=> ?_,by simp,.inl rfl⟩
  ·have:=PFx hj;rw[zaa,if_neg (by omega),zaa,if_neg (by omega)]
  ·have:=PFx hj;omega
  ·have:=nl j hj;rw[zaa,if_neg (by omega),zaa,if_neg (by omega)]
 ·rintro F h3 n3 ⟨d3,vL,L,S5,rfl,B4,hN,hL,hW⟩ Tt T7 Vt;have O7:L=(zGj n 34).flat:=by simpa using hL
  subst O7;have hP:PI ck h x N cv d3 (prK x) m n (zGr ct m n).ct (zGr ct m n).known (zGp ct m n).vs (zGr ct m n).vs vP vL h3 n3:=S5;have DA:n2≠x+0/\n2≠x+3+8:=by omega
  obtain⟨s3,f3,t1,t2,t3⟩:=hP.ex;have h6:=hP.h6;unfold zIN at h6;have BV:=hP.h3;simp only[prK]at h6 BV;have Oi:=s3.hc;obtain⟨rp,p1,p2⟩:=s3.pr;have y1:=p1.valOf;have y2:=hP.oP.valOf;have y3:=hP.oL.valOf;have y4:=zGv hP.oP;have y5:=zGv hP.oL;unfold V.cells at y4 y5;have n0:(x+0=n2)=False:=eq_false (by omega);have n6:(x+3+8=n2)=False:=eq_false (by omega);have nc:(ck.c=n2)=False:=eq_false (by have:=s.lt.1;omega);have Mp:zbg cv.pr n2:=zGt fun e=>B4 (.inr (.inl (by unfold Tp;simp[e])))
  have p1': ∀z,zaF (updC h3 n2 z) n3 cv.pr 16 rp:=fun z=>p1.keep (Nat.le_refl _) fun q q1 q2=>by
   have:q≠n2:=by rintro rfl;exact q2 Mp
   rw[zaa,if_neg this]
  have r1: ∀z (a:Nat) z',Rg.rowsS (updC (updC h3 n2 z) (n3+a) z') cv.pr=some rp:=fun z a z'=>((p1' z).upd (by omega) z').rowsS
  simp -dsimp -implicitDefEqProofs only[go_sem,seval,n0,n6,nc,h6,BV,Oi,y1,y2,y3,r1]
  have UR: ∀r∈rp,r.length=16:=fun r hr=>by
   obtain⟨i,hi⟩:=List.getElem?_of_mem hr;obtain⟨q,hq,_⟩:=zai (l:=(zGr ct m n).ct.procs) (i:=i) (by rw[<- p2.1];exact(zH.1 hi).1);obtain⟨_,_,_,e,_⟩:=p2.2 i r q hi hq;rw[e];simp[zGz]
  refine zav ((p1' _).upd (by omega) _) (by omega) ?_ (by decide) rfl (List.all_eq_true.2 fun r hr=>by simp[UR r hr]) ?_
  ·rw[p2.1,zK3];omega
  intro v hp G1 Bp Aq;have z1:=G1.valOf;have z2:=zGv G1;unfold V.cells at z2;have Ky:zbg cv.pr ck.c:=zGA p1 Oi (by decide);have lc:=s3.lt.1;have M5:=Aq ck.c (by omega) Ky;rw[zaa,if_neg (by omega),zaa,if_neg (by have:=s.lt.1;omega),Oi]at M5;simp -dsimp -implicitDefEqProofs only[go_sem,seval,z1,z2,M5];refine⟨?_,?_⟩
  ·simp only[zgO,List.all_cons,List.all_nil,List.getElem?_cons_succ,List.getElem?_cons_zero,sep,AOp.looksL,AOp.looks,AOp.isSt,AOp.keeps,AOp.opds,AOp.wopd,zid,za2,List.flatMap_cons,List.flatMap_nil];simp -dsimp -implicitDefEqProofs only[go_sem,seval,y1,V.top];have S1:zbg cv.pr (x+0):=zGA p1 BV (by decide);rcases p1 with⟨e,_⟩ | ⟨q,e,_,_⟩
   ·rw[e];rfl
   ·rw[e]at S1⊢;have : ¬(x+0=q):=fun e=>S1 _ _ (by rw[e])
    simpa using this
  have S6: ∀j,N j->j≠n2:=fun j hj e=>B4 (.inr (.inr (.inr (.inr (by rw[<- e];exact hj)))))
  have M4: ∀j,j≠n2->updC h3 n2 (some .dead) j=h3 j:=fun j hj=>by rw[zaa,if_neg hj]
  have QR: ∀j,Tp ck { cv with d:=d3 } j->j≠n2:=fun j hj e=>B4 (.inr (.inl (by rw[<- e];exact hj)))
  have s4:CS ck (updC h3 n2 (some .dead)) n3 (fun j=>N j\/ ¬zbg vP j\/ ¬zbg vL j) { cv with d:=d3 } (zGr ct m n).ct:=s3.keep (Nat.le_refl _) (fun j _ hj=>M4 j (hj.elim (QR j) (S6 j))) (fun _ _ h=> .inl h)
   (fun j hj=>by
     rcases hj with hj | hj | hj
     ·exact s3.nt j hj
     ·exact t2 j hj
     ·exact t3 j hj) (fun j hj=>by
     rcases hj with hj | hj | hj
     ·have:=nl j hj;have:=f3.1;omega
     ·exact(zGi hP.oP hj).2
     ·exact(zGi hP.oL hj).2)
  have UN: ∀j,¬zbg vP j->j≠n2:=fun j hj e=>B4 (.inr (.inr (.inl (by rw[<- e];exact hj))))
  have UO: ∀j,¬zbg vL j->j≠n2:=fun j hj e=>B4 (.inr (.inr (.inr (.inl (by rw[<- e];exact hj)))))
  have U5: ∀j,¬Tp ck { cv with d:=d3 } j->j≠ck.c/\zbg cv.pr j:=fun j hj=>⟨fun e=>hj (.inl e),zGt fun e=>hj (by unfold Tp;simp[e])⟩
  have Cf:=fun(j:Nat) (j1:j<n3) (j2:zbg cv.pr j)=>(Aq j (by omega) j2).trans (by rw[zaa,if_neg (by omega)])
  have KA:=f3.1
  have Z: ∀(hF:Nat->Option O) (xF:Nat),n3<=xF->hF ck.c=some (.rows 9 [[cv.mo,cv.va,cv.lo,v,cv.th,cv.bo,.fn 607 [] [.mp ck.d 0 0],.mm ck.n,.mm ck.r]] false)->
   (∃rows,zaF hF xF v 16 rows/\Pw (PrR hF xF (fun j=>N j\/ ¬zbg vP j\/ ¬zbg vL j)) rows ((zGr ct m n).ct.procs++[⟨n.name,m,(zGp ct m n).vs,(zGr ct m n).vs,n.other,zGj n 34,[],n.pos⟩]))->
   (∀j,j<n3->j≠ck.c->zbg cv.pr j->hF j=updC h3 n2 (some .dead) j)->CS ck hF xF (fun j=>N j\/ ¬zbg vP j\/ ¬zbg vL j) { cv with d:=d3,pr:=v } (ct.proc m n):=fun hF xF a1 a2 a3 a4=>
   (s4.setpr a1 a2 a3 (fun j hj=>Bp j (by omega)) a4 (fun _ h=>h) (fun _ _ h=>h) (fun j hj=>⟨by have:=s4.nl j hj;omega,Bp j (by have:=s4.nl j hj;omega)⟩)).1
  have Aa: ∀j,j<n3->j≠n2-> ¬Tp ck { cv with d:=d3 } j->updC (VI (updC (updC h3 n2 (some .dead)) (n3+7) (some (.rows 16 [[.t (.str n.name),.t (ti m),vP,vL,.t (.str n.other),.t (ti (zGj n 34).kind),.t (.str (zGj n 34).name),.t (.str (zGj n 34).other),.t (ti (zGj n 34).n),.t (ti (zGj n 34).len),.t (ti (zGj n 34).init),.t (tb (zGj n 34).ghost),.t (.sl ((zGj n 34).kids.map Nd.enc)),.t (ti (zGj n 34).pos),.t .nils,.t (ti n.pos)]] false))) hp) ck.c (some (.rows 9 [[cv.mo,cv.va,cv.lo,v,cv.th,cv.bo,.fn 607 [] [.mp ck.d 0 0],.mm ck.n,.mm ck.r]] false)) j=h3 j:=fun j j1 j2 j3=>by
   rw[zaa,if_neg (U5 j j3).1,Cf j j1 (U5 j j3).2];exact M4 j j2
  have Tb: ∀j,¬zbg vP j->j<n3:=fun j hj=>(zGi hP.oP hj).2
  have T2: ∀j,¬zbg vL j->j<n3:=fun j hj=>(zGi hP.oL hj).2
  refine⟨fun j=>N j\/ ¬zbg vP j\/ ¬zbg vL j,{ cv with d:=d3,pr:=v },Z _ _ ?_ ?_ ⟨rp++[[.t (.str n.name),.t (ti m),vP,vL,.t (.str n.other),.t (ti (zGj n 34).kind),.t (.str (zGj n 34).name),.t (.str (zGj n 34).other),.t (ti (zGj n 34).n),.t (ti (zGj n 34).len),.t (ti (zGj n 34).init),.t (tb (zGj n 34).ghost),.t (.sl ((zGj n 34).kids.map Nd.enc)),.t (ti (zGj n 34).pos),.t .nils,.t (ti n.pos)]],?_,?_⟩ ?_,⟨?_,fun j hj ht=> ?_,fun j hj ht=> ?_,fun j hj hn=> ?_,fun j hn=> .inl hn,rfl⟩⟩
  ·(try simp -dsimp -implicitDefEqProofs only[go_sem,seval]);(try omega)
  ·simp only[zaC,zaA];rw[zaa,if_pos rfl]
  ·simp only[zaC,zaA];refine zaF.keep G1 (by(try simp -dsimp -implicitDefEqProofs only[go_sem,seval]);(try omega)) fun q q1 q2=> ?_
   have:q≠ck.c:=by rintro rfl;exact q2 (Bp _ (by omega))
   rw[zaa,if_neg this]
  ·simp only[zaC,zaA];refine Pw.snoc (p2.imp fun row q o=>o.keep (by(try simp -dsimp -implicitDefEqProofs only[go_sem,seval]);(try omega)) fun j j1 j2=>⟨Aa j j1 (S6 j j2) (s3.nt j j2),.inl j2⟩) ⟨vP,vL,.t .nils,by simp[Nd.enc_eq],zHT (zaF.keep hP.oP (by(try simp -dsimp -implicitDefEqProofs only[go_sem,seval]);(try omega)) fun q q1 q2=>Aa q q1 (UN q q2) (t2 q q2)) (fun j hj=> .inr (.inl hj)),zHT (zaF.keep hP.oL (by(try simp -dsimp -implicitDefEqProofs only[go_sem,seval]);(try omega)) fun q q1 q2=>Aa q q1 (UO q q2) (t3 q q2)) (fun j hj=> .inr (.inr hj)),.inl ⟨rfl,rfl⟩,fun _=>rfl⟩
  ·intro j j1 j2 j3;simp only[zaC,zaA];rw[zaa,if_neg j2];exact Cf j j1 j3
  ·(try simp -dsimp -implicitDefEqProofs only[go_sem,seval]);(try omega)
  ·simp only[zaC,zaA];have UQ: ¬Tp ck { cv with d:=d3 } j:=fun h=>ht (f3.2 j hj h)
   refine(Aa j (by omega) (by omega) UQ).trans ?_
   by_cases UE:N j
   ·exact(hN j UE).trans (AG j hj ht)
   ·have Vu: ¬PF ck N cv d (prK x) vP (.t .nils) j:=by
     rintro(h | h | h | h | h)
     ·have:=(hI.lt j h).1;omega
     ·exact ht (hI.ex.2.1.2 j hj h)
     ·exact h (hI.fP j hj)
     ·exact h (hI.fL j hj)
     ·exact UE h
    rw[T7 j (by omega) Vu,zaa,if_neg (by omega),zaa,if_neg (by omega)];exact AG j hj ht
  ·have hv:=Bp j (by omega);refine f3.2 j hj ?_;unfold Tp at ht⊢;simp only[hv,not_true_eq_false,false_or]at ht;rcases ht with ht | ht | ht | ht | ht | ht | ht | ht | ht | ht<;>simp[ht]
  ·rcases hn with hn | hn | hn
   ·exact hn
   ·exact absurd (hP.fP j hj) hn
   ·exact absurd (hP.fL j hj) hn
def Ct.addName (ct:Ct) (k:Key):Ct:={ ct with names:=ct.names++[k] }
def zGl (m:Int) (ct:Ct) (n:Nd):Ct:=
 if n.kind=51\/n.kind=50\/n.kind=53\/n.kind=57 then
  if zG5 ct.names (m,n.name)=true then ct.report 41 n.pos
  else if n.kind=51 then({ (ct.fields n).1 with recs:=(ct.fields n).1.recs++[((m,n.name),(ct.fields n).2)] }:Ct).addName (m,n.name)
  else if n.kind=50 then if(ct.shared m n).2=true then(ct.shared m n).1.addName (m,n.name)else(ct.shared m n).1
  else if n.kind=53 then if(ct.lock m n).2=true then(ct.lock m n).1.addName (m,n.name)else(ct.lock m n).1
  else(ct.proc m n).addName (m,n.name)
 else ct
structure Ct.okD (ct:Ct) (D:Nat):Prop where
 ok:ct.ok
 rn: ∀r∈ct.recs,zG5 ct.names r.1=true
 vl:ct.vars.length<=D*2^21
 ll:ct.locks.length<=D
 pl:ct.procs.length<=D
theorem zPb {h:Nat->Option O} {x:Nat} {N:Nat->Prop} (k:Key) (v:V): ∀{es:List (T×V)} {recs:List (Key×List Nd)},Pw (RcR h x N) es recs->(∀r∈recs,r.1≠k)->zbF (zJM k) v es=some (es++[(zJM k,v)])
 | [],[],_,_=>rfl
 | (kt,w)::es,r::recs,hp,hk=>by
   obtain⟨h1,h2⟩:=hp.2 0 _ _ rfl rfl;simp only at h1;subst h1;have G6:Pw (RcR h x N) es recs:=⟨by simpa using hp.1,fun i a b ha hb=>hp.2 (i+1) a b ha hb⟩
   have ih:=zPb k v G6 fun r hr=>hk r (by simp[hr])
   have h3: ¬k=r.1:=fun e=>hk r (by simp) e.symm
   rw[zbF,zGR]
   simp[h3,ih]
 | [],_::_,hp,_=>by have:=hp.1;simp at this
 | _::_,[],hp,_=>by have:=hp.1;simp at this
theorem zGE (ct:Ct) (e p:Int):(ct.report e p).names=ct.names/\(ct.report e p).recs=ct.recs:=by unfold Ct.report;split<;>exact⟨rfl,rfl⟩
theorem zH5 (ct:Ct) (n:Nd):(ct.fields n).1.names=ct.names/\(ct.fields n).1.recs=ct.recs:=by
 have key: ∀(l:List Nd) (q:Ct×List Nd),(l.foldl zGm q).1.names=q.1.names/\(l.foldl zGm q).1.recs=q.1.recs:=fun l=>by
  induction l with
  | nil=>intro q;exact⟨rfl,rfl⟩
  | cons a l ih=>
    intro q;have h1:=ih (zGm q a)
    have h2:(zGm q a).1.names=q.1.names/\(zGm q a).1.recs=q.1.recs:=by
     unfold zGm;split
     ·exact zGE _ _ _
     ·split
      ·exact⟨rfl,rfl⟩
      ·exact zGE _ _ _
    exact⟨h1.1.trans h2.1,h1.2.trans h2.2⟩
 exact key _ _
theorem zLd (ct:Ct) (m:Int) (n:Nd):(ct.lock m n).1.names=ct.names/\(ct.lock m n).1.recs=ct.recs:=by
 unfold Ct.lock;split
 ·exact zGE _ _ _
 ·exact⟨rfl,rfl⟩
theorem zJC (ct:Ct) (m:Int) (n:Nd):(ct.shared m n).1.names=ct.names/\(ct.shared m n).1.recs=ct.recs:=by
 have fin: ∀vs,(ct.sharedFin n vs).1.names=ct.names/\(ct.sharedFin n vs).1.recs=ct.recs:=fun vs=>by
  unfold Ct.sharedFin;split
  ·exact⟨rfl,rfl⟩
  ·exact zGE _ _ _
 unfold Ct.shared;split
 ·exact zGE _ _ _
 ·split
  ·split
   ·exact fin _
   ·exact zGE _ _ _
  ·split
   ·exact zGE _ _ _
   ·exact fin _
theorem zIJ (m:Int): ∀(l:List Nd) (st:AddS),(l.foldl (zGn m) st).ct.names=st.ct.names/\(l.foldl (zGn m) st).ct.recs=st.ct.recs
 | [],st=>⟨rfl,rfl⟩
 | a::l,st=>by
   have h1:=zIJ m l (zGn m st a)
   have h2:(zGn m st a).ct.names=st.ct.names/\(zGn m st a).ct.recs=st.ct.recs:=by
    unfold zGn;split
    ·exact zGE _ _ _
    ·split
     ·exact⟨rfl,rfl⟩
     ·exact zGE _ _ _
   exact⟨h1.1.trans h2.1,h1.2.trans h2.2⟩
theorem zK4 (ct:Ct) (m:Int) (n:Nd):(ct.proc m n).names=ct.names/\(ct.proc m n).recs=ct.recs:=by
 have h1:=zIJ m ((zGj n 34).flat.filter fun a=>decide (a.kind=35)) { zGp ct m n with vs:=[] };have h2:=zIJ m (zGo n 58) ⟨ct,[],[]⟩;exact⟨h1.1.trans h2.1,h1.2.trans h2.2⟩
theorem zM6 {ck:CK} {h:Nat->Option O} {x y:Nat} {N:Nat->Prop} {cv:CV} {ct:Ct} (s:CS ck h x N cv ct) (hy:x<=y) (m:Int) (n:Nd) (hn:n.size<900) (BL:ct.procs.length<2^30):
 ∃r h' x',DenR Γ G 625 [.mp ck.c 0 0,vi m,(.agg [.t (ti (n).kind),.t (.str (n).name),.t (.str (n).other),.t (ti (n).n),.t (ti (n).len),.t (ti (n).init),.t (tb (n).ghost),.t (.sl ((n).kids.map Nd.enc)),.t (ti (n).pos)])] h y=some (r,h',x')/\ ∃N' cv',CS ck h' x' N' cv' (ct.proc m n)/\FrC ck h x N cv h' x' N' cv':=by
 obtain⟨r,h',x',a1,N',cv',a2,a3⟩:=zMA (s.le hy) m n hn BL;exact⟨r,h',x',a1,N',cv',a2,a3.lo hy⟩
theorem zNb {ck:CK} {h:Nat->Option O} {x y:Nat} {N:Nat->Prop} {cv:CV} {ct:Ct} (s:CS ck h x N cv ct) (hy:x<=y) (m:Int) (n:Nd) (hn:(zGC n).size<900) (hl:ct.locks.length<2^20):
 ∃r h' x',DenR Γ G 624 [.mp ck.c 0 0,vi m,(.agg [.t (ti (n).kind),.t (.str (n).name),.t (.str (n).other),.t (ti (n).n),.t (ti (n).len),.t (ti (n).init),.t (tb (n).ghost),.t (.sl ((n).kids.map Nd.enc)),.t (ti (n).pos)])] h y=some (r,h',x')/\(r=vb (ct.lock m n).2/\ ∃cv',CS ck h' x' N cv' (ct.lock m n).1/\FrC ck h x N cv h' x' N cv'):=by
 obtain⟨r,h',x',a1,a0,cv',a2,a3⟩:=zMD (s.le hy) m n hn hl;exact⟨r,h',x',a1,a0,cv',a2,a3.lo hy⟩
theorem zLy {ck:CK} {h:Nat->Option O} {x y:Nat} {N:Nat->Prop} {cv:CV} {ct:Ct} (s:CS ck h x N cv ct) (hy:x<=y) (Bm:ct.ok) (m:Int) (n:Nd) (hn:Nd.okN n) (E6:ct.vars.length<2^31):
 ∃r h' x',DenR Γ G 623 [.mp ck.c 0 0,vi m,(.agg [.t (ti (n).kind),.t (.str (n).name),.t (.str (n).other),.t (ti (n).n),.t (ti (n).len),.t (ti (n).init),.t (tb (n).ghost),.t (.sl ((n).kids.map Nd.enc)),.t (ti (n).pos)])] h y=some (r,h',x')/\(r=vb (ct.shared m n).2/\ ∃cv',CS ck h' x' N cv' (ct.shared m n).1/\FrC ck h x N cv h' x' N cv'):=by
 obtain⟨r,h',x',a1,a0,cv',a2,a3⟩:=zKY (s.le hy) Bm m n hn E6;exact⟨r,h',x',a1,a0,cv',a2,a3.lo hy⟩
theorem zMa {ck:CK} {h:Nat->Option O} {x y:Nat} {N:Nat->Prop} {cv:CV} {ct:Ct} (s:CS ck h x N cv ct) (hy:x<=y) (n:Nd) (hl:n.kids.length<2^20):
 ∃r h' x',DenR Γ G 622 [.mp ck.c 0 0,(.agg [.t (ti (n).kind),.t (.str (n).name),.t (.str (n).other),.t (ti (n).n),.t (ti (n).len),.t (ti (n).init),.t (tb (n).ghost),.t (.sl ((n).kids.map Nd.enc)),.t (ti (n).pos)])] h y=some (r,h',x')/\(zaF h' x' r 9 (zGk ((ct.fields n).2.map Nd.enc))/\(∀j,j<y->zbg r j)/\ ∃d,CS ck h' x' N { cv with d:=d } (ct.fields n).1/\FrC ck h x N cv h' x' N { cv with d:=d }/\(∀j,¬zbg r j-> ¬Tp ck { cv with d:=d } j)):=by
 obtain⟨r,h',x',a1,a2,a3,d,a4,a5,a6⟩:=zLi (s.le hy) n hl;exact⟨r,h',x',a1,a2,a3,d,a4,a5.lo hy,a6⟩
theorem zM5 {ck:CK} {h:Nat->Option O} {x:Nat} {N:Nat->Prop} {cv:CV} {ct:Ct} (s:CS ck h x N cv ct) {r:V} {es:List (T×V)} {k:Key} {l:List Nd} (hO:zaF h x r 9 (zGk (l.map Nd.enc))) (hT: ∀j,¬zbg r j-> ¬Tp ck cv j) (he:h ck.r=some (.map es)) (hp:Pw (RcR h x N) es ct.recs) {x':Nat} (hx:x<=x'):
 CS ck (updC h ck.r (some (.map (es++[(zJM k,r)])))) x' (fun j=>N j\/ ¬zbg r j) cv { ct with recs:=ct.recs++[(k,l)] }:=by
 have s2:CS ck h x (fun j=>N j\/ ¬zbg r j) cv ct:=s.keep (Nat.le_refl _) (fun _ _ _=>rfl) (fun _ _ h=> .inl h) (fun j hj=>hj.elim (s.nt j) (hT j)) (fun j hj=>hj.elim (s.nl j) fun h=>(zGi hO h).2);have Iw: ∀j,N j\/ ¬zbg r j->j≠ck.r:=fun j hj e=>s2.nt j hj (by rw[e];unfold Tp;simp)
 refine(s2.setr (x':=x') (l:=ct.recs++[(k,l)]) hx ⟨_,by rw[zaa,if_pos rfl],Pw.snoc (hp.imp fun e q o=>o.keep hx fun j j1 j2=>⟨by rw[zaa,if_neg (Iw j (.inl j2))],.inl j2⟩) ⟨rfl,zHT (zaF.keep hO hx fun q q1 q2=>by rw[zaa,if_neg (Iw q (.inr q2))]) fun j hj=> .inr hj⟩⟩ (fun j _ hj=>by rw[zaa,if_neg hj]) (fun _ h=>h) (fun _ _ h=>h) (fun j hj=>by have:=s2.nl j hj;omega)).1
theorem zIe {ck:CK} {h:Nat->Option O} {x:Nat} {N:Nat->Prop} {cv:CV} {ct:Ct} (s:CS ck h x N cv ct) (k:Key) {x':Nat} (hx:x<=x'):CS ck (updC h ck.n (some (.map (zHu zJM (ct.names++[k]))))) x' N cv (ct.addName k)/\FrC ck h x N cv (updC h ck.n (some (.map (zHu zJM (ct.names++[k]))))) x' N cv:=
 s.setn (l:=ct.names++[k]) hx (by rw[zaa,if_pos rfl]) (fun j _ hj=>by rw[zaa,if_neg hj]) (fun _ h=>h) (fun _ _ h=>h) (fun j hj=>by have:=s.nl j hj;omega)
theorem zMN {ck:CK} {h:Nat->Option O} {x:Nat} {N:Nat->Prop} {cv:CV} {ct:Ct} (s:CS ck h x N cv ct) (m:Int) (t:Nd) (D:Nat) (Bm:ct.okD D) (hD:D+t.kids.length<=900) (hs:t.sane) (hz:t.size<900)
 (Uk: ∀(ct:Ct) (D:Nat) (a:Nd),ct.okD D->a∈t.kids->(zGl m ct a).okD (D+1)):
 ∃r h' x',DenR Γ G 609 [.mp ck.c 0 0,vi m,(.agg [.t (ti (t).kind),.t (.str (t).name),.t (.str (t).other),.t (ti (t).n),.t (ti (t).len),.t (ti (t).init),.t (tb (t).ghost),.t (.sl ((t).kids.map Nd.enc)),.t (ti (t).pos)])] h x=some (r,h',x')/\ ∃N' cv',CS ck h' x' N' cv' (t.kids.foldl (zGl m) ct)/\FrC ck h x N cv h' x' N' cv':=by
 (refine zay Γ609 rfl ?_;dsimp only[zOq])
 simp -dsimp -implicitDefEqProofs only[go_sem,seval];refine zaq 151115727451828646830976 t.kids.length (fun i f h' x'=>(f 13).v=vi i/\((t.kids.take i).foldl (zGl m) ct).okD (D+i)/\ ∃N' cv',CS ck h' x' N' cv' ((t.kids.take i).foldl (zGl m) ct)/\FrC ck h x N cv h' x' N' cv') rfl ⟨by simp -dsimp -implicitDefEqProofs only[go_sem,seval],Bm,N,cv,s.le (by(try simp -dsimp -implicitDefEqProofs only[go_sem,seval]);(try omega)),FrC.refl.loc (by(try simp -dsimp -implicitDefEqProofs only[go_sem,seval]);(try omega)) fun _ _=>rfl⟩ ?_;rintro i f u H1 x1 bb hi ⟨g,S2,N1,cv1,s1,f1⟩
 by_cases AV:i<t.kids.length
 rotate_left
 ·have h1:=eq_false AV;have:i=t.kids.length:=by omega
  subst this;rw[List.take_length]at s1;simp -dsimp -implicitDefEqProofs only[go_sem,seval,g,h1];exact⟨N1,cv1,s1.le (by(try simp -dsimp -implicitDefEqProofs only[go_sem,seval]);(try omega)),f1.loc (by(try simp -dsimp -implicitDefEqProofs only[go_sem,seval]);(try omega)) fun _ _=>rfl⟩
 have h1:=eq_true AV;obtain⟨a,ha,Cp⟩:=zai AV;have hw:=zan i (by omega);have Bj:(t.kids.map Nd.enc)[i]? =some a.enc:=by rw[zJ,ha];rfl
 have AS:=Nd.size_kid Cp;have LC:(t.kids.take (i+1)).foldl (zGl m) ct=zGl m ((t.kids.take i).foldl (zGl m) ct) a:=by rw[zaf ha,List.foldl_append];rfl
 have IM:=Uk _ _ a S2 Cp;rw[LC]
 generalize Ez:(t.kids.take i).foldl (zGl m) ct=ct1 at *
 have TY:=(hs.kid Cp).self
 have RL:(zGC a).size<900:=by
  unfold zGC
  cases hq:a.kids with
  | nil=>simp[Nd.noneN,Nd.size_eq,Nd.kids]
  | cons b r=>have:=Nd.size_kid (e:=a) (k:=b) (by rw[hq];simp);simp;omega
 have hc:=s1.hc;have Fj:=s1.hn;have D2:=zIQ zGR (m,a.name) ct1.names
 -- how a round ends
 have fin: ∀{h2:Nat->Option O} {x2 y:Nat} {N2:Nat->Prop} {cv2:CV},CS ck h2 x2 N2 cv2 (zGl m ct1 a)->FrC ck H1 x1 N1 cv1 h2 x2 N2 cv2->x2<=y-> ∃N' cv',CS ck h2 y N' cv' (zGl m ct1 a)/\FrC ck h x N cv h2 y N' cv':=fun s2 f2 hy=>
  ⟨_,_,s2.le hy,(f1.trans f2).loc hy fun _ _=>rfl⟩
 by_cases k51:a.kind=51
 ·have k51':=eq_true k51
  by_cases c1:zG5 ct1.names (m,a.name)=true
  ·rw[c1]at D2;have Sr:zGl m ct1 a=ct1.report 41 a.pos:=by unfold zGl;rw[if_pos (by simp[k51]),if_pos c1]
   simp -dsimp -implicitDefEqProofs only[go_sem,seval,g,h1,Bj,Nd.enc_eq,k51',hc,Fj,D2,if_true,Option.getD_some];refine zas (zvH s1 (by omega) 41 a) ?_;rintro r h2 x2 ⟨v2,s2,f2⟩;simp -dsimp -implicitDefEqProofs only[go_sem,seval,g,hw];refine⟨AV,by simp -dsimp -implicitDefEqProofs only[go_sem,seval],by rw[show D+(i+1)=D+i+1 by omega];exact IM,?_⟩;simp -dsimp -implicitDefEqProofs only[go_sem,seval];exact fin (by rw[Sr];exact s2) f2 (by(try simp -dsimp -implicitDefEqProofs only[go_sem,seval]);(try omega))
  have c1':=Bool.eq_false_iff.2 c1;rw[c1']at D2;simp -dsimp -implicitDefEqProofs only[go_sem,seval,g,h1,Bj,Nd.enc_eq,k51',hc,Fj,D2,zG,if_false,Option.getD_none]
  have Mw:a.kids.length<=(a.kids.map Nd.size).sum:=by
   generalize a.kids=l
   induction l with
   | nil=>simp
   | cons b l ih=>have:=b.size_pos;simp only[List.map_cons,List.sum_cons,List.length_cons];omega
  have Uo:=Nd.size_eq a;refine zas (zMa s1 (by omega) a (by omega)) ?_;rintro r h2 x2 ⟨hO,HP,d,s2,f2,G3⟩;have CG:=s2.hc;refine⟨fun k hk=> ?_,?_⟩
  ·have:k=ck.c:=by simpa[V.top]using hk
   rw[this,CG,hc]
  obtain⟨es2,BC,D0⟩:=s2.hr
  have Gy:=zPb (m,a.name) r D0 (fun q hq e=>by
   rw[(zH5 ct1 a).2]at hq;have:=S2.rn q hq;rw[e]at this
   exact c1 this)
  have y1:=hO.valOf;have y2:=hO.one;unfold V.one at y2;have EA:(ck.n=ck.r)=False:=eq_false s.ne;simp -dsimp -implicitDefEqProofs only[go_sem,seval,BC,Gy,y1,y2,if_true];refine⟨?_,?_⟩
  ·simp only[zgO,List.all_cons,List.all_nil,List.getElem?_cons_succ,List.getElem?_cons_zero,sep,AOp.looksL,AOp.looks,AOp.isSt,AOp.keeps,AOp.opds,AOp.kargs,zHX,zid,za2,List.flatMap_cons,List.flatMap_nil];simp -dsimp -implicitDefEqProofs only[go_sem,seval,V.top];simp
  have Sr:zGl m ct1 a=({ (ct1.fields a).1 with recs:=(ct1.fields a).1.recs++[((m,a.name),(ct1.fields a).2)] }:Ct).addName (m,a.name):=by unfold zGl;rw[if_pos (by simp[k51]),if_neg c1,if_pos k51]
  have GE:(ct1.fields a).1.names=ct1.names:=(zH5 ct1 a).1;have Fh:=s2.hn;rw[GE]at Fh;have Ty:=zLr zGR (m,a.name) ct1.names c1';have ncr:(ck.c=ck.r)=False:=eq_false fun e=>by rw[e,BC]at CG;cases CG
  simp -dsimp -implicitDefEqProofs only[go_sem,seval,ncr,EA,CG,Fh,Ty,g,hw];refine⟨AV,by simp -dsimp -implicitDefEqProofs only[go_sem,seval],by rw[show D+(i+1)=D+i+1 by omega];exact IM,?_⟩;have s3:=zM5 s2 (k:=(m,a.name)) hO G3 BC D0 (Nat.le_refl _)
  have B2: ∀j,¬zbg r j->x1<=j:=fun j hj=>by
   rcases Nat.lt_or_ge j x1 with h | h
   ·exact absurd (HP j (by omega)) hj
   ·exact h
  have f3:FrC ck H1 x1 N1 cv1 (updC h2 ck.r (some (.map (es2++[(zJM (m,a.name),r)])))) x2 (fun j=>N1 j\/ ¬zbg r j) { cv1 with d:=d }:=
   ⟨f2.le,fun j hj ht=>by rw[zaa,if_neg (fun e=>ht (by rw[e];unfold Tp;simp))];exact f2.kp j hj ht,f2.tp,fun j hj hn=>hn.elim id fun h=>by have:=B2 j h;omega,fun j h=> .inl h,rfl⟩
  obtain⟨s4,f4⟩:=zIe s3 (m,a.name) (Nat.le_refl _);simp -dsimp -implicitDefEqProofs only[go_sem,seval];rw[<- GE];exact fin (by rw[Sr];exact s4) (f3.trans f4) (by(try simp -dsimp -implicitDefEqProofs only[go_sem,seval]);(try omega))
 have k51':=eq_false k51
 by_cases k50:a.kind=50
 ·have k50':=eq_true k50
  by_cases c1:zG5 ct1.names (m,a.name)=true
  ·rw[c1]at D2;have Sr:zGl m ct1 a=ct1.report 41 a.pos:=by unfold zGl;rw[if_pos (by simp[k50]),if_pos c1]
   simp -dsimp -implicitDefEqProofs only[go_sem,seval,g,h1,Bj,Nd.enc_eq,k51',k50',hc,Fj,D2,if_true,Option.getD_some];refine zas (zvH s1 (by omega) 41 a) ?_;rintro r h2 x2 ⟨v2,s2,f2⟩;simp -dsimp -implicitDefEqProofs only[go_sem,seval,g,hw];refine⟨AV,by simp -dsimp -implicitDefEqProofs only[go_sem,seval],by rw[show D+(i+1)=D+i+1 by omega];exact IM,?_⟩;simp -dsimp -implicitDefEqProofs only[go_sem,seval];exact fin (by rw[Sr];exact s2) f2 (by(try simp -dsimp -implicitDefEqProofs only[go_sem,seval]);(try omega))
  have c1':=Bool.eq_false_iff.2 c1;rw[c1']at D2;simp -dsimp -implicitDefEqProofs only[go_sem,seval,g,h1,Bj,Nd.enc_eq,k51',k50',hc,Fj,D2,zG,if_false,Option.getD_none];refine zas (zLy s1 (by omega) S2.ok m a TY (by have:=S2.vl;omega)) ?_;rintro r h2 x2 ⟨rfl,cv2,s2,f2⟩;have Sv:zGl m ct1 a=if(ct1.shared m a).2=true then(ct1.shared m a).1.addName (m,a.name)else(ct1.shared m a).1:=by unfold zGl;rw[if_pos (by simp[k50]),if_neg c1,if_neg k51,if_pos k50]
  by_cases b1:(ct1.shared m a).2=true
  ·have Sr:=Sv.trans (if_pos b1);have GE:=(zJC ct1 m a).1;have Gy:=zLr zGR (m,a.name) ct1.names c1';have CG:=s2.hc;have Fh:=s2.hn;rw[GE]at Fh;simp -dsimp -implicitDefEqProofs only[go_sem,seval,b1,CG,Fh,Gy,g,hw];refine⟨AV,by simp -dsimp -implicitDefEqProofs only[go_sem,seval],by rw[show D+(i+1)=D+i+1 by omega];exact IM,?_⟩;simp -dsimp -implicitDefEqProofs only[go_sem,seval];obtain⟨s3,f3⟩:=zIe s2 (m,a.name) (Nat.le_refl _);rw[GE]at s3 f3;exact fin (by rw[Sr];exact s3) (f2.trans f3) (by(try simp -dsimp -implicitDefEqProofs only[go_sem,seval]);(try omega))
  ·have Sr:=Sv.trans (if_neg b1);have b1':=Bool.eq_false_iff.2 b1;simp -dsimp -implicitDefEqProofs only[go_sem,seval,b1',g,hw];refine⟨AV,by simp -dsimp -implicitDefEqProofs only[go_sem,seval],by rw[show D+(i+1)=D+i+1 by omega];exact IM,?_⟩;simp -dsimp -implicitDefEqProofs only[go_sem,seval];exact fin (by rw[Sr];exact s2) f2 (by(try simp -dsimp -implicitDefEqProofs only[go_sem,seval]);(try omega))
 have k50':=eq_false k50
 by_cases k53:a.kind=53
 ·have k53':=eq_true k53
  by_cases c1:zG5 ct1.names (m,a.name)=true
  ·rw[c1]at D2;have Sr:zGl m ct1 a=ct1.report 41 a.pos:=by unfold zGl;rw[if_pos (by simp[k53]),if_pos c1]
   simp -dsimp -implicitDefEqProofs only[go_sem,seval,g,h1,Bj,Nd.enc_eq,k51',k50',k53',hc,Fj,D2,if_true,Option.getD_some];refine zas (zvH s1 (by omega) 41 a) ?_;rintro r h2 x2 ⟨v2,s2,f2⟩;simp -dsimp -implicitDefEqProofs only[go_sem,seval,g,hw];refine⟨AV,by simp -dsimp -implicitDefEqProofs only[go_sem,seval],by rw[show D+(i+1)=D+i+1 by omega];exact IM,?_⟩;simp -dsimp -implicitDefEqProofs only[go_sem,seval];exact fin (by rw[Sr];exact s2) f2 (by(try simp -dsimp -implicitDefEqProofs only[go_sem,seval]);(try omega))
  have c1':=Bool.eq_false_iff.2 c1;rw[c1']at D2;simp -dsimp -implicitDefEqProofs only[go_sem,seval,g,h1,Bj,Nd.enc_eq,k51',k50',k53',hc,Fj,D2,zG,if_false,Option.getD_none];refine zas (zNb s1 (by omega) m a RL (by have:=S2.ll;omega)) ?_;rintro r h2 x2 ⟨rfl,cv2,s2,f2⟩;have Sv:zGl m ct1 a=if(ct1.lock m a).2=true then(ct1.lock m a).1.addName (m,a.name)else(ct1.lock m a).1:=by unfold zGl;rw[if_pos (by simp[k53]),if_neg c1,if_neg k51,if_neg k50,if_pos k53]
  by_cases b1:(ct1.lock m a).2=true
  ·have Sr:=Sv.trans (if_pos b1);have GE:=(zLd ct1 m a).1;have Gy:=zLr zGR (m,a.name) ct1.names c1';have CG:=s2.hc;have Fh:=s2.hn;rw[GE]at Fh;simp -dsimp -implicitDefEqProofs only[go_sem,seval,b1,CG,Fh,Gy,g,hw];refine⟨AV,by simp -dsimp -implicitDefEqProofs only[go_sem,seval],by rw[show D+(i+1)=D+i+1 by omega];exact IM,?_⟩;simp -dsimp -implicitDefEqProofs only[go_sem,seval];obtain⟨s3,f3⟩:=zIe s2 (m,a.name) (Nat.le_refl _);rw[GE]at s3 f3;exact fin (by rw[Sr];exact s3) (f2.trans f3) (by(try simp -dsimp -implicitDefEqProofs only[go_sem,seval]);(try omega))
  ·have Sr:=Sv.trans (if_neg b1);have b1':=Bool.eq_false_iff.2 b1;simp -dsimp -implicitDefEqProofs only[go_sem,seval,b1',g,hw];refine⟨AV,by simp -dsimp -implicitDefEqProofs only[go_sem,seval],by rw[show D+(i+1)=D+i+1 by omega];exact IM,?_⟩;simp -dsimp -implicitDefEqProofs only[go_sem,seval];exact fin (by rw[Sr];exact s2) f2 (by(try simp -dsimp -implicitDefEqProofs only[go_sem,seval]);(try omega))
 have k53':=eq_false k53
 by_cases k57:a.kind=57
 ·have k57':=eq_true k57
  by_cases c1:zG5 ct1.names (m,a.name)=true
  ·rw[c1]at D2;have Sr:zGl m ct1 a=ct1.report 41 a.pos:=by unfold zGl;rw[if_pos (by simp[k57]),if_pos c1]
   simp -dsimp -implicitDefEqProofs only[go_sem,seval,g,h1,Bj,Nd.enc_eq,k51',k50',k53',k57',hc,Fj,D2,if_true,Option.getD_some];refine zas (zvH s1 (by omega) 41 a) ?_;rintro r h2 x2 ⟨v2,s2,f2⟩;simp -dsimp -implicitDefEqProofs only[go_sem,seval,g,hw];refine⟨AV,by simp -dsimp -implicitDefEqProofs only[go_sem,seval],by rw[show D+(i+1)=D+i+1 by omega];exact IM,?_⟩;simp -dsimp -implicitDefEqProofs only[go_sem,seval];exact fin (by rw[Sr];exact s2) f2 (by(try simp -dsimp -implicitDefEqProofs only[go_sem,seval]);(try omega))
  have c1':=Bool.eq_false_iff.2 c1;rw[c1']at D2;simp -dsimp -implicitDefEqProofs only[go_sem,seval,g,h1,Bj,Nd.enc_eq,k51',k50',k53',k57',hc,Fj,D2,zG,if_false,Option.getD_none];refine zas (zM6 s1 (by omega) m a (by omega) (by have:=S2.pl;omega)) ?_;rintro r h2 x2 ⟨N2,cv2,s2,f2⟩;have Sr:zGl m ct1 a=(ct1.proc m a).addName (m,a.name):=by unfold zGl;rw[if_pos (by simp[k57]),if_neg c1,if_neg k51,if_neg k50,if_neg k53]
  have GE:=(zK4 ct1 m a).1;have Gy:=zLr zGR (m,a.name) ct1.names c1';have CG:=s2.hc;have Fh:=s2.hn;rw[GE]at Fh;simp -dsimp -implicitDefEqProofs only[go_sem,seval,CG,Fh,Gy,g,hw];refine⟨AV,by simp -dsimp -implicitDefEqProofs only[go_sem,seval],by rw[show D+(i+1)=D+i+1 by omega];exact IM,?_⟩;simp -dsimp -implicitDefEqProofs only[go_sem,seval];obtain⟨s3,f3⟩:=zIe s2 (m,a.name) (Nat.le_refl _);rw[GE]at s3 f3;exact fin (by rw[Sr];exact s3) (f2.trans f3) (by(try simp -dsimp -implicitDefEqProofs only[go_sem,seval]);(try omega))
 have k57':=eq_false k57;have Sr:zGl m ct1 a=ct1:=by unfold zGl;rw[if_neg (by simp[k51,k50,k53,k57])]
 simp -dsimp -implicitDefEqProofs only[go_sem,seval,g,h1,Bj,Nd.enc_eq,k51',k50',k53',k57',hw];refine⟨AV,by simp -dsimp -implicitDefEqProofs only[go_sem,seval],by rw[show D+(i+1)=D+i+1 by omega];exact IM,?_⟩;simp -dsimp -implicitDefEqProofs only[go_sem,seval];exact fin (by rw[Sr];exact s1) FrC.refl (by(try simp -dsimp -implicitDefEqProofs only[go_sem,seval]);(try omega))
theorem zGX (ct:Ct) (e p:Int): ∃d,ct.report e p= { ct with diags:=d }:=by
 unfold Ct.report;split
 ·exact⟨_,rfl⟩
 ·exact⟨ct.diags,rfl⟩
theorem zG0: ∀(l:List Nd) (q:Ct×List Nd),∃d,(l.foldl zGm q).1= { q.1 with diags:=d }
 | [],q=>⟨q.1.diags,rfl⟩
 | a::l,q=>by
   obtain⟨d,hd⟩:=zG0 l (zGm q a);rw[List.foldl_cons,hd];unfold zGm;split
   ·obtain⟨d2,h2⟩:=zGX q.1 41 a.pos;exact⟨d,by rw[h2]⟩
   ·split
    ·exact⟨d,rfl⟩
    ·obtain⟨d2,h2⟩:=zGX q.1 50 a.pos;exact⟨d,by rw[h2]⟩
theorem zH6: ∀(l:List Nd) (q:Ct×List Nd),(∀f∈l,f.name.size<=2^21)->(∀f∈q.2,(1<=f.n/\f.n<=8)/\f.name.size<=2^21)->(∀f∈(l.foldl zGm q).2,(1<=f.n/\f.n<=8)/\f.name.size<=2^21)/\(l.foldl zGm q).2.length<=q.2.length+l.length
 | [],q,_,h=>⟨h,by simp⟩
 | a::l,q,hl,h=>by
   have h2:(∀f∈(zGm q a).2,(1<=f.n/\f.n<=8)/\f.name.size<=2^21)/\(zGm q a).2.length<=q.2.length+1:=by
    unfold zGm;split
    ·exact⟨h,by simp⟩
    ·split
     ·rename_i hw;refine⟨fun f hf=> ?_,by simp⟩;rcases List.mem_append.1 hf with hf | hf
      ·exact h f hf
      ·rw[List.mem_singleton]at hf;subst hf;exact⟨hw,hl f (by simp)⟩
     ·exact⟨h,by simp⟩
   obtain⟨z1,z2⟩:=zH6 l (zGm q a) (fun f hf=>hl f (by simp[hf])) h2.1;exact⟨z1,by have:=h2.2;simp only[List.foldl_cons,List.length_cons];omega⟩
theorem zH1 (m:Int): ∀(l:List Nd) (st:AddS),∃d,(l.foldl (zGn m) st).ct= { st.ct with diags:=d }
 | [],st=>⟨st.ct.diags,rfl⟩
 | a::l,st=>by
   obtain⟨d,hd⟩:=zH1 m l (zGn m st a);rw[List.foldl_cons,hd];unfold zGn;split
   ·obtain⟨d2,h2⟩:=zGX st.ct 41 a.pos;exact⟨d,by rw[h2]⟩
   ·split
    ·exact⟨d,rfl⟩
    ·obtain⟨d2,h2⟩:=zGX st.ct 50 a.pos;exact⟨d,by rw[h2]⟩
theorem zJj (ct:Ct) (m:Int) (n:Nd): ∃d,ct.proc m n= { ct with diags:=d,procs:=ct.procs++[⟨n.name,m,(zGp ct m n).vs,(zGr ct m n).vs,n.other,zGj n 34,[],n.pos⟩] }:=by
 obtain⟨d1,h1⟩:=zH1 m (zGo n 58) ⟨ct,[],[]⟩;obtain⟨d2,h2⟩:=zH1 m ((zGj n 34).flat.filter fun a=>decide (a.kind=35)) { zGp ct m n with vs:=[] };refine⟨d2,?_⟩
 have h3:(zGr ct m n).ct= { ct with diags:=d2 }:=by
  unfold zGr;rw[h2];show({ (zGp ct m n).ct with diags:=d2 }:Ct)=_;rw[show(zGp ct m n).ct= { ct with diags:=d1 }from h1]
 unfold Ct.proc;rw[h3]
theorem zMq {a D:Nat} (h:a<=D*2^21):a<=(D+1)*2^21:=Nat.le_trans h (Nat.mul_le_mul_right _ (Nat.le_succ D))
theorem zJI {ct:Ct} {D:Nat} (h:ct.okD D) (d:List (Int×Int)):({ ct with diags:=d }:Ct).okD (D+1):=
 ⟨⟨h.ok.rw,h.ok.rl⟩,h.rn,zMq h.vl,Nat.le_succ_of_le h.ll,Nat.le_succ_of_le h.pl⟩
theorem zG6 {ct:Ct} {D:Nat} (h:ct.okD D) (e p:Int):(ct.report e p).okD (D+1):=by
 obtain⟨d,hd⟩:=zGX ct e p;rw[hd];exact zJI h d
theorem zKI {α:Type} [DecidableEq α] {l:List α} {a b:α} (h:zG5 l a=true):zG5 (l++[b]) a=true:=by
 rw[zIf]at h⊢;simp[h]
theorem zJk {ct:Ct} {D:Nat} (h:ct.okD D) (k:Key):(ct.addName k).okD D:=
 ⟨⟨h.ok.rw,h.ok.rl⟩,fun r hr=>zKI (h.rn r hr),h.vl,h.ll,h.pl⟩
theorem zIA (m:Int) (ct:Ct) (D:Nat) (a:Nd) (h:ct.okD D) (ha:a.sane) (hz:a.size<900):(zGl m ct a).okD (D+1):=by
 unfold zGl;split
 rotate_left
 ·have:=zJI h ct.diags;exact this
 split
 ·exact zG6 h _ _
 split
 ·obtain⟨d,hd⟩:=zG0 (zGo a 52) (ct,[])
  have hn: ∀f∈zGo a 52,f.name.size<=2^21:=fun f hf=>by
   have:=(ha.kid (List.mem_filter.1 hf).1).self.name;omega
  obtain⟨z1,z2⟩:=zH6 (zGo a 52) (ct,[]) hn (by simp);have hl:(zGo a 52).length<=1048576:=Nat.le_trans (List.length_filter_le _ _) ha.self.kids;have hf:(ct.fields a).1= { ct with diags:=d }:=hd;rw[hf];refine⟨⟨fun r hr=> ?_,fun r hr=> ?_⟩,fun r hr=> ?_,zMq h.vl,Nat.le_succ_of_le h.ll,Nat.le_succ_of_le h.pl⟩
  ·rcases List.mem_append.1 hr with hr | hr
   ·exact h.ok.rw r hr
   ·rw[List.mem_singleton]at hr;subst hr;exact z1
  ·rcases List.mem_append.1 hr with hr | hr
   ·exact h.ok.rl r hr
   ·rw[List.mem_singleton]at hr;subst hr;have:(ct.fields a).2.length<=[].length+(zGo a 52).length:=z2;simp at this⊢;omega
  ·rcases List.mem_append.1 hr with hr | hr
   ·exact zKI (h.rn r hr)
   ·rw[List.mem_singleton]at hr;subst hr;rw[zIf];simp[Ct.addName]
 split
 ·have Bo:(ct.shared m a).1.okD (D+1):=by
   have fin: ∀vs:List Va,vs.length<=2^21->(ct.sharedFin a vs).1.okD (D+1):=fun vs hv=>by
    unfold Ct.sharedFin;split
    ·exact⟨⟨h.ok.rw,h.ok.rl⟩,h.rn,(by have:=h.vl;rw[zM,Nat.succ_mul];omega),Nat.le_succ_of_le h.ll,Nat.le_succ_of_le h.pl⟩
    ·exact zG6 h _ _
   unfold Ct.shared;split
   ·exact zG6 h _ _
   ·split
    ·split
     ·exact fin _ (by simp)
     ·exact zG6 h _ _
    ·split
     ·exact zG6 h _ _
     ·rename_i r hr;have:=h.ok.rl r (List.mem_of_find?_eq_some hr);exact fin _ (by simp;omega)
  split
  ·exact zJk Bo _
  ·exact Bo
 split
 ·have U7:(ct.lock m a).1.okD (D+1):=by
   unfold Ct.lock;split
   ·exact zG6 h _ _
   ·exact⟨⟨h.ok.rw,h.ok.rl⟩,h.rn,zMq h.vl,(by have:=h.ll;rw[zM];exact Nat.succ_le_succ this),Nat.le_succ_of_le h.pl⟩
  split
  ·exact zJk U7 _
  ·exact U7
 ·obtain⟨d,hd⟩:=zJj ct m a
  have hp:(ct.proc m a).okD (D+1):=by
   rw[hd];exact⟨⟨h.ok.rw,h.ok.rl⟩,h.rn,zMq h.vl,Nat.le_succ_of_le h.ll,(by have:=h.pl;rw[zM];exact Nat.succ_le_succ this)⟩
  exact zJk hp _
structure MoS where
 ct:Ct
 found:List Int
 m:Mo
def zGw (st:MoS) (a:Nd):MoS:=
 if a.kind=54\/a.kind=55\/a.kind=56 then
  if zG5 st.found a.kind=true then{ st with ct:=st.ct.report 41 a.pos }
  else if a.kind=54 then{ st with found:=st.found++[a.kind],m:={ st.m with rely:=zGC a } }
  else if a.kind=55 then{ st with found:=st.found++[a.kind],m:={ st.m with guar:=zGC a } }
  else{ st with found:=st.found++[a.kind],m:={ st.m with frame:=st.m.frame++zGo a 2 } }
 else st
def Ct.module (ct:Ct) (n:Nd):MoS:=n.kids.foldl zGw ⟨ct,[],⟨n.name,n.other,.noneN,.noneN,[],n.pos⟩⟩
def zIb (m:Mo) (vF:V):List V:=[.t (.str m.name),.t (.str m.owner),.t (ti m.rely.kind),.t (.str m.rely.name),.t (.str m.rely.other),.t (ti m.rely.n),.t (ti m.rely.len),.t (ti m.rely.init),.t (tb m.rely.ghost),.t (.sl (m.rely.kids.map Nd.enc)),.t (ti m.rely.pos),
 .t (ti m.guar.kind),.t (.str m.guar.name),.t (.str m.guar.other),.t (ti m.guar.n),.t (ti m.guar.len),.t (ti m.guar.init),.t (tb m.guar.ghost),.t (.sl (m.guar.kids.map Nd.enc)),.t (ti m.guar.pos),vF,.t (ti m.pos)]
structure MI (ck:CK) (h:Nat->Option O) (x:Nat) (N:Nat->Prop) (cv:CV) (km:Nat) (st:MoS) (v:V) (h':Nat->Option O) (x':Nat):Prop where
 ex: ∃d,CS ck h' x' N { cv with d:=d } st.ct/\FrC ck h x N cv h' x' N { cv with d:=d }/\(∀j,¬zbg v j-> ¬Tp ck { cv with d:=d } j)/\ ¬Tp ck { cv with d:=d } km
 ow:zaF h' x' v 9 (zGk (st.m.frame.map Nd.enc))
 fr: ∀j,j<x->zbg v j
 mp:h' km=some (.map (zHu ti st.found))
 lt:km<x'
theorem zIt: ∀(l:List Nd) (st:MoS),(∀a∈l,a.kids.length<=900)->(l.foldl zGw st).m.frame.length<=st.m.frame.length+900*l.length
 | [],st,_=>by simp
 | a::l,st,h=>by
   have ih:=zIt l (zGw st a) fun b hb=>h b (by simp[hb])
   have ha:=h a (by simp)
   have h2:(zGw st a).m.frame.length<=st.m.frame.length+900:=by
    have hk:(zGo a 2).length<=a.kids.length:=List.length_filter_le _ _;unfold zGw;split
    ·split
     ·simp
     ·split
      ·simp
      ·split
       ·simp
       ·simp;omega
    ·simp
   simp only[List.foldl_cons,List.length_cons];omega
theorem zLa {ck:CK} {h:Nat->Option O} {x:Nat} {N:Nat->Prop} {cv:CV} {ct:Ct} (s:CS ck h x N cv ct) (n:Nd) (hz:n.size<900):
 ∃r h' x',DenR Γ G 621 [.mp ck.c 0 0,(.agg [.t (ti (n).kind),.t (.str (n).name),.t (.str (n).other),.t (ti (n).n),.t (ti (n).len),.t (ti (n).init),.t (tb (n).ghost),.t (.sl ((n).kids.map Nd.enc)),.t (ti (n).pos)])] h x=some (r,h',x')/\ ∃vF,(r= .agg (zIb (ct.module n).m vF)/\zaF h' x' vF 9 (zGk ((ct.module n).m.frame.map Nd.enc))/\(∀j,j<x->zbg vF j)/\ ∃d,CS ck h' x' N { cv with d:=d } (ct.module n).ct/\FrC ck h x N cv h' x' N { cv with d:=d }/\(∀j,¬zbg vF j-> ¬Tp ck { cv with d:=d } j)):=by
 have h0:=zJm
 have Mw:n.kids.length<=(n.kids.map Nd.size).sum:=by
  generalize n.kids=l
  induction l with
  | nil=>simp
  | cons b l ih=>have:=b.size_pos;simp only[List.map_cons,List.sum_cons,List.length_cons];omega
 have Lb:=Nd.size_eq n
 (refine zay Γ621 rfl ?_;dsimp only[zOj])
 simp -dsimp -implicitDefEqProofs only[go_sem,seval,h0];refine zaq 604462909807314570577184 n.kids.length (fun i f h' x'=>(f 24).v=vi i/\(f 5).v= .lb/\ ∃vF,(f 5).box=some (zIb ((n.kids.take i).foldl zGw ⟨ct,[],⟨n.name,n.other,.noneN,.noneN,[],n.pos⟩⟩).m vF)/\MI ck h x N cv (x+2+11+0) ((n.kids.take i).foldl zGw ⟨ct,[],⟨n.name,n.other,.noneN,.noneN,[],n.pos⟩⟩) vF h' x') rfl ?_ ?_
 ·refine⟨by simp -dsimp -implicitDefEqProofs only[go_sem,seval],by simp -dsimp -implicitDefEqProofs only[go_sem,seval],.t .nils,by simp -dsimp -implicitDefEqProofs only[go_sem,seval];(try rfl),?_⟩;simp only[zaC,zaA];refine⟨⟨cv.d,s.loc (by(try simp -dsimp -implicitDefEqProofs only[go_sem,seval]);(try omega)) fun j hj _=> ?_,FrC.refl.loc (by(try simp -dsimp -implicitDefEqProofs only[go_sem,seval]);(try omega)) fun j hj=> ?_,fun j hj=>absurd (by intro i n e;cases e) hj,s.below (by omega)⟩,.inl ⟨rfl,rfl⟩,fun j _ i n e=>(by cases e),?_,by(try simp -dsimp -implicitDefEqProofs only[go_sem,seval]);(try omega)⟩
  ·rw[zaa,if_neg (by omega)]
  ·rw[zaa,if_neg (by omega)]
  ·rw[zaa,if_pos rfl];rfl
 rintro i f u H1 x1 bb hi ⟨g,g5,vF,gb,⟨d,s1,f1,t1,t2⟩,hO,Bn,Ho,Ad⟩
 by_cases AV:i<n.kids.length
 rotate_left
 ·have h1:=eq_false AV;have:i=n.kids.length:=by omega
  subst this;rw[List.take_length]at s1 gb hO;unfold zIb at gb;simp -dsimp -implicitDefEqProofs only[go_sem,seval,g,h1,g5,gb];refine⟨vF,rfl,hO.le (by(try simp -dsimp -implicitDefEqProofs only[go_sem,seval]);(try omega)),Bn,d,s1.le (by(try simp -dsimp -implicitDefEqProofs only[go_sem,seval]);(try omega)),f1.loc (by(try simp -dsimp -implicitDefEqProofs only[go_sem,seval]);(try omega)) fun _ _=>rfl,t1⟩
 have h1:=eq_true AV;obtain⟨a,ha,Cp⟩:=zai AV;have hw:=zan i (by omega);have Bj:(n.kids.map Nd.enc)[i]? =some a.enc:=by rw[zJ,ha];rfl
 have AS:=Nd.size_kid Cp;have LC:(n.kids.take (i+1)).foldl zGw ⟨ct,[],⟨n.name,n.other,.noneN,.noneN,[],n.pos⟩⟩=zGw ((n.kids.take i).foldl zGw ⟨ct,[],⟨n.name,n.other,.noneN,.noneN,[],n.pos⟩⟩) a:=by rw[zaf ha,List.foldl_append];rfl
 rw[LC]
 have AB: ∀b∈n.kids.take i,b.kids.length<=900:=fun b hb=>by
  have h1:=Nd.size_kid (List.mem_of_mem_take hb);have h2:=Nd.size_eq b
  have h3:b.kids.length<=(b.kids.map Nd.size).sum:=by
   generalize b.kids=l
   induction l with
   | nil=>simp
   | cons b l ih=>have:=b.size_pos;simp only[List.map_cons,List.sum_cons,List.length_cons];omega
  omega
 have Um:=zIt (n.kids.take i) ⟨ct,[],⟨n.name,n.other,.noneN,.noneN,[],n.pos⟩⟩ AB;simp only[List.length_nil,List.length_take]at Um
 generalize AE:(n.kids.take i).foldl zGw ⟨ct,[],⟨n.name,n.other,.noneN,.noneN,[],n.pos⟩⟩=st at *
 have hc:=s1.hc;have D2:=zIQ zHd a.kind st.found;unfold zIb at gb
 by_cases kk:a.kind=54\/a.kind=55\/a.kind=56
 rotate_left
 ·have e1:(a.kind=54)=False:=eq_false fun e=>kk (.inl e)
  have e2:(a.kind=55)=False:=eq_false fun e=>kk (.inr (.inl e))
  have e3:(a.kind=56)=False:=eq_false fun e=>kk (.inr (.inr e))
  have FY:zGw st a=st:=by unfold zGw;rw[if_neg kk]
  rw[FY];simp -dsimp -implicitDefEqProofs only[go_sem,seval,g,h1,Bj,Nd.enc_eq,e1,e2,e3,hw];refine⟨AV,by simp -dsimp -implicitDefEqProofs only[go_sem,seval],by simp -dsimp -implicitDefEqProofs only[go_sem,seval,g5],vF,by simp -dsimp -implicitDefEqProofs only[go_sem,seval,gb];(try rfl),?_⟩;simp -dsimp -implicitDefEqProofs only[go_sem,seval];exact⟨⟨d,s1.le (by(try simp -dsimp -implicitDefEqProofs only[go_sem,seval]);(try omega)),f1.loc (by(try simp -dsimp -implicitDefEqProofs only[go_sem,seval]);(try omega)) fun _ _=>rfl,t1,t2⟩,hO.le (by(try simp -dsimp -implicitDefEqProofs only[go_sem,seval]);(try omega)),Bn,Ho,by(try simp -dsimp -implicitDefEqProofs only[go_sem,seval]);(try omega)⟩
 by_cases c1:zG5 st.found a.kind=true
 ·rw[c1]at D2;have FY:zGw st a= { st with ct:=st.ct.report 41 a.pos }:=by unfold zGw;rw[if_pos kk,if_pos c1]
  rw[FY]
  have fin: ∀{h2:Nat->Option O} {x2 y:Nat} {d2:V},CS ck h2 x2 N { cv with d:=d2 } (st.ct.report 41 a.pos)->FrC ck H1 x1 N { cv with d:=d } h2 x2 N { cv with d:=d2 }->x2<=y->MI ck h x N cv (x+2+11+0) { st with ct:=st.ct.report 41 a.pos } vF h2 y:=fun s2 f2 hy=>
   ⟨⟨_,s2.le hy,(f1.trans f2).loc hy fun _ _=>rfl,fun j hj ht=>t1 j hj (f2.tp j (zGi hO hj).2 ht),fun ht=>t2 (f2.tp _ Ad ht)⟩,(hO.keep f2.le fun k hk hv=>f2.kp k hk (t1 k hv)).le hy,Bn,by rw[f2.kp _ Ad t2];exact Ho,by have:=f2.le;omega⟩
  rcases kk with kk | kk | kk
  all_goals(
   rw[kk]at D2;simp -dsimp -implicitDefEqProofs only[go_sem,seval,g,h1,Bj,Nd.enc_eq,kk,Ho,D2,hc,if_true,Option.getD_some];have Ae:=fun(y:Nat) (hy:x1<=y)=>zvH s1 hy 41 a
   simp only[kk]at Ae;refine zas (Ae _ (by omega)) ?_;rintro r h2 x2 ⟨d2,s2,f2⟩;simp -dsimp -implicitDefEqProofs only[go_sem,seval,g,hw];refine⟨AV,by simp -dsimp -implicitDefEqProofs only[go_sem,seval],by simp -dsimp -implicitDefEqProofs only[go_sem,seval,g5],vF,by simp -dsimp -implicitDefEqProofs only[go_sem,seval,gb];(try rfl),?_⟩;simp -dsimp -implicitDefEqProofs only[go_sem,seval]
   exact fin s2 f2 (by(try simp -dsimp -implicitDefEqProofs only[go_sem,seval]);(try omega)))
 have c1':=Bool.eq_false_iff.2 c1;rw[c1']at D2;have Gy:=zLr zHd a.kind st.found c1'
 -- the map is written
 have Qk:zbg vF (x+2+11+0):=zHH hO Ho
 have RL:(zGC a).size<900:=by
  unfold zGC
  cases hq:a.kids with
  | nil=>simp[Nd.noneN,Nd.size_eq,Nd.kids]
  | cons b r=>have:=Nd.size_kid (e:=a) (k:=b) (by rw[hq];simp);simp;omega
 have KA:=f1.le
 have fin: ∀{y:Nat} {m':Mo},m'.frame=st.m.frame->x1<=y->MI ck h x N cv (x+2+11+0) { st with found:=st.found++[a.kind],m:=m' } vF (updC H1 (x+2+11+0) (some (.map (zHu ti (st.found++[a.kind]))))) y:=fun Fm hy=>
  ⟨⟨d,s1.loc hy fun j j1 j2=>by
     rw[zaa,if_neg];rintro rfl;rcases j2 with j2 | j2
     ·exact t2 j2
     ·have:=s.nl _ j2;omega,f1.loc hy fun j hj=>by rw[zaa,if_neg (by omega)],t1,t2⟩,by
    rw[Fm]
    exact hO.keep hy fun q q1 q2=>by
     have:q≠x+2+11+0:=by rintro rfl;exact q2 Qk
     rw[zaa,if_neg this],Bn,by rw[zaa,if_pos rfl],by omega⟩
 have BJ:=zJO a;have By:=zIg (zGC a) RL
 by_cases k54:a.kind=54
 ·have FY:zGw st a= { st with found:=st.found++[a.kind],m:={ st.m with rely:=zGC a } }:=by unfold zGw;rw[if_pos kk,if_neg c1,if_pos k54]
  rw[FY];rw[k54]at D2 Gy;simp only[k54]at BJ;simp -dsimp -implicitDefEqProofs only[go_sem,seval,g,h1,Bj,Nd.enc_eq,k54,Ho,D2,hc,zG,if_false,Option.getD_none,Gy,BJ,By,g5,gb,hw];refine⟨AV,by simp -dsimp -implicitDefEqProofs only[go_sem,seval],by simp -dsimp -implicitDefEqProofs only[go_sem,seval,g5],vF,by simp -dsimp -implicitDefEqProofs only[go_sem,seval,gb];(try rfl),?_⟩;simp -dsimp -implicitDefEqProofs only[go_sem,seval];rw[<- k54];exact fin rfl (by omega)
 have e54:=eq_false k54
 by_cases k55:a.kind=55
 ·have FY:zGw st a= { st with found:=st.found++[a.kind],m:={ st.m with guar:=zGC a } }:=by unfold zGw;rw[if_pos kk,if_neg c1,if_neg k54,if_pos k55]
  rw[FY];rw[k55]at D2 Gy;simp only[k55]at BJ;simp -dsimp -implicitDefEqProofs only[go_sem,seval,g,h1,Bj,Nd.enc_eq,k55,Ho,D2,hc,zG,if_false,Option.getD_none,Gy,BJ,By,g5,gb,hw];refine⟨AV,by simp -dsimp -implicitDefEqProofs only[go_sem,seval],by simp -dsimp -implicitDefEqProofs only[go_sem,seval,g5],vF,by simp -dsimp -implicitDefEqProofs only[go_sem,seval,gb];(try rfl),?_⟩;simp -dsimp -implicitDefEqProofs only[go_sem,seval];rw[<- k55];exact fin rfl (by omega)
 have e55:=eq_false k55;have k56:a.kind=56:=by omega
 have FY:zGw st a= { st with found:=st.found++[a.kind],m:={ st.m with frame:=st.m.frame++zGo a 2 } }:=by unfold zGw;rw[if_pos kk,if_neg c1,if_neg k54,if_neg k55]
 rw[FY];rw[k56]at D2 Gy
 have TN:a.kids.length<=(a.kids.map Nd.size).sum:=by
  generalize a.kids=l
  induction l with
  | nil=>simp
  | cons b l ih=>have:=b.size_pos;simp only[List.map_cons,List.sum_cons,List.length_cons];omega
 have Uo:=Nd.size_eq a;have Qz:=zHt a 2 (by omega);simp only[k56]at Qz;simp -dsimp -implicitDefEqProofs only[go_sem,seval,g,h1,Bj,Nd.enc_eq,k56,Ho,D2,hc,zG,if_false,Option.getD_none,Gy,Qz,g5,gb,hw];have Ve:(zGo a 2).length<=a.kids.length:=List.length_filter_le _ _;have VL: ∀b∈zGo a 2,b.size<900:=fun b hb=>by have:=Nd.size_kid (List.mem_filter.1 hb).1;omega
 generalize Dn:zGo a 2=ks at *
 refine zaq 302157667927362455471136 ks.length (fun c f' h' x'=>(f' 66).v=vi c/\(f' 5).v= .lb/\ ∃v,(f' 5).box=some (zIb st.m v)/\MI ck h x N cv (x+2+11+0) { st with found:=st.found++[a.kind],m:={ st.m with frame:=st.m.frame++ks.take c } } v h' x') rfl ?_ ?_
 ·refine⟨by simp -dsimp -implicitDefEqProofs only[go_sem,seval],by simp -dsimp -implicitDefEqProofs only[go_sem,seval,g5],vF,by simp -dsimp -implicitDefEqProofs only[go_sem,seval,gb];(try rfl),?_⟩;simp -dsimp -implicitDefEqProofs only[go_sem,seval];rw[<- k56];exact fin (by simp) (by omega)
 rintro c f' u' H2 x2 b2 CG ⟨j66,j5,v,jb,⟨d2,s2,f2,t1',t2'⟩,Cz,Jp,RI,N7⟩;unfold zIb at jb
 by_cases SM:c<ks.length
 ·have e1:=eq_true SM;obtain⟨b,hb,EW⟩:=zai SM;have SF:(ks.map Nd.enc)[c]? =some b.enc:=by rw[zJ,hb];rfl
  have CL:=zIg b (VL b EW);have BO:=zan c (by omega);have v1:=Cz.valOf;have r5:=Cz.r5;have r4:=Cz.r4;have r3:=Cz.r3;have r2:=Cz.r2;simp -dsimp -implicitDefEqProofs only[go_sem,seval,j66,e1,SF,Nd.enc_eq,CL,j5,jb,v1,r2,r3,r4,r5];refine zav (Cz.upd (by omega) _) (by omega) (by simp only[zGk,List.length_map,zM,List.length_take];omega) (by decide) rfl (zHb _) ?_;intro v3 hp hP Bp Aq;have z1:=hP.valOf;have z2:=zGv hP;unfold V.cells at z2;simp -dsimp -implicitDefEqProofs only[go_sem,seval,z1,z2,j66,BO,j5,jb];have A8:=fun(j:Nat) (j1:j<x2) (j2:zbg v j)=>(Aq j (by omega) j2).trans (by rw[zaa,if_neg (by omega)])
  have ML:=f2.le;refine⟨SM,by simp -dsimp -implicitDefEqProofs only[go_sem,seval],by simp -dsimp -implicitDefEqProofs only[go_sem,seval,j5],v3,by simp -dsimp -implicitDefEqProofs only[go_sem,seval,jb];(try rfl),?_⟩;simp -dsimp -implicitDefEqProofs only[go_sem,seval];refine⟨⟨d2,s2.loc (by omega) fun j j1 j2=> ?_,f2.loc (by omega) fun j hj=> ?_,fun j hj ht=> ?_,t2'⟩,?_,fun j hj=>Bp j (by omega),?_,by omega⟩
  ·rcases j2 with j2 | j2
   ·exact A8 j j1 (zGt fun e=>t1' j e j2)
   ·exact A8 j j1 (Jp j (s.nl j j2))
  ·exact A8 j (by omega) (Jp j hj)
  ·have:=(s2.at ht).2;exact hj (Bp j (by omega))
  ·show zaF _ _ v3 9 (zGk ((st.m.frame++ks.take (c+1)).map Nd.enc));rw[zaf hb,<- zQ,List.map_append,zGk,List.map_append];refine zaF.le (by simpa[Nd.enc_eq]using hP) (by omega)
  ·rw[A8 _ N7 (zHH Cz RI)];exact RI
 ·have e1:=eq_false SM;have O1:c=ks.length:=by omega
  subst O1;rw[List.take_length]at Cz;simp -dsimp -implicitDefEqProofs only[go_sem,seval,j66,e1,g,hw];refine⟨AV,by simp -dsimp -implicitDefEqProofs only[go_sem,seval],by simp -dsimp -implicitDefEqProofs only[go_sem,seval,j5],v,by simp -dsimp -implicitDefEqProofs only[go_sem,seval,jb];(try rfl),?_⟩;simp -dsimp -implicitDefEqProofs only[go_sem,seval];exact⟨⟨d2,s2.le (by omega),f2.loc (by omega) fun _ _=>rfl,t1',t2'⟩,Cz.le (by omega),Jp,RI,by omega⟩
end Rg
end
