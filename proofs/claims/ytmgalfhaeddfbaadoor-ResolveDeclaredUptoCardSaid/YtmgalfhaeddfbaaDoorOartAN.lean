/- Part of the proof of laws of relyguardlaw04. No condition. -/
import Derived.Test.YtmgalfhaeddfbaaDoorOartAM
set_option linter.unusedSimpArgs false
set_option linter.unusedVariables false
section
namespace Rg
open Go
def zGu (st:Ct×List ByteArray) (a:Nd):Ct×List ByteArray:=
 if zG5 st.2 a.name=true then(st.1.report 41 a.pos,st.2)
 else if st.1.mods.length>=6 then(st.1.report 2 a.pos,st.2)
 else(let r:=({ st.1 with bodies:=st.1.bodies++[a] }:Ct).module a;{ r.ct with mods:=r.ct.mods++[r.m] },st.2++[a.name])
def Ct.modules (ct:Ct) (t:Nd):Ct:=((zGo t 60).foldl zGu (ct,[])).1
theorem zLQ {ck:CK} {h h0:Nat->Option O} {x x0 y:Nat} {N N0:Nat->Prop} {cv cv0:CV} {ct:Ct} (p:CS ck h x N cv ct/\FrM ck h0 x0 N0 cv0 h x N cv) (hy:x<=y) (n:Nd) (hz:n.size<900):
 ∃r h' x',DenR Γ G 621 [.mp ck.c 0 0,(.agg [.t (ti (n).kind),.t (.str (n).name),.t (.str (n).other),.t (ti (n).n),.t (ti (n).len),.t (ti (n).init),.t (tb (n).ghost),.t (.sl ((n).kids.map Nd.enc)),.t (ti (n).pos)])] h y=some (r,h',x')/\ ∃vF,(r= .agg (zIb (ct.module n).m vF)/\zaF h' x' vF 9 (zGk ((ct.module n).m.frame.map Nd.enc))/\(∀j,j<y->zbg vF j)/\ ∃d,CS ck h' x' N { cv with d:=d } (ct.module n).ct/\FrM ck h0 x0 N0 cv0 h' x' N { cv with d:=d }/\(∀j,¬zbg vF j-> ¬Tp ck { cv with d:=d } j)/\(∀j,x<=j->j<y-> ¬Tp ck { cv with d:=d } j)/\y<=x'):=by
 obtain⟨s,f⟩:=p;obtain⟨r,h',x',a1,vF,a2,a3,a4,d,a5,a6,a7⟩:=zLa (s.le hy) n hz;exact⟨r,h',x',a1,vF,a2,a3,a4,d,a5,f.trans (a6.lo hy).m,a7,fun j j1 j2 ht=>s.below j1 (a6.tp j j2 ht),a6.le⟩
theorem zNH {h:Nat->Option O} {x y:Nat} {v:V} {sz:Nat} {rows:List (List V)} (o:zaF h x v sz rows) (hv: ∀j,y<=j->zbg v j):zaF h y v sz rows:=by
 rcases o with o | ⟨k,rfl,_,hk⟩
 ·exact .inl o
 ·refine .inr ⟨k,rfl,?_,hk⟩;rcases Nat.lt_or_ge k y with h | h
  ·exact h
  ·exact absurd rfl (hv k h 0 _)
theorem zLG {h:Nat->Option O} {x q sz bytes:Nat} {u:V} {a:List (List V)} {r:List V} {K:V->List (Nat×O)->Prop} {w:WK K}
 (ho:zaF h x u sz a) (hx:x<=q) (Ac:a.length<2^32) (S4:bytes<=2^12) (hb:r.length=sz) (ha:(a.all fun r=>decide (r.length=sz))=true)
 (hK: ∀hp,zaF (VI h hp) (q+1) (.ms q 0 (a.length+1)) sz (a++[r])->(∀j,j≠q->zbg u j->VI h hp j=h j)->K (.ms q 0 (a.length+1)) hp):
 ziX false (zck h q sz bytes u a [r]) K w:=by
 unfold zck;rw[if_pos ⟨⟨by simp;omega,S4⟩,by simp[hb],ha⟩];simp only[List.isEmpty_cons,zG,if_false];rcases ho with⟨rfl,rfl⟩ | ⟨k,rfl,hk,hh⟩
 ·simp only[zcb];refine hK [(q,.rows sz [r] false)] (.inr ⟨q,rfl,by omega,?_⟩) (fun j hj _=> ?_)
  ·simp[zaC,zaA,zaa]
  ·simp[zaC,zaA,zaa,hj]
 ·simp only[hh,and_self,if_true,zcb,zfP];refine hK [(k,.dead),(q,.rows sz (a++[r]) false)] (.inr ⟨q,by rw[zM];rfl,by omega,by simp[zaC,zaA,zaa]⟩) (fun j hj Az=> ?_);have h2:j≠k:=by rintro rfl;exact Az 0 _ rfl
  simp[zaC,zaA,zaa,hj,h2]
theorem zI2: ∀(l:List Nd) (st:MoS),∃d,(l.foldl zGw st).ct= { st.ct with diags:=d }
 | [],st=>⟨st.ct.diags,rfl⟩
 | a::l,st=>by
   obtain⟨d,hd⟩:=zI2 l (zGw st a);rw[List.foldl_cons,hd];unfold zGw;split
   ·split
    ·obtain⟨d2,h2⟩:=zGX st.ct 41 a.pos;exact⟨d,by rw[h2]⟩
    ·split
     ·exact⟨d,rfl⟩
     ·split<;>exact⟨d,rfl⟩
   ·exact⟨d,rfl⟩
theorem zHI (ct:Ct) (n:Nd): ∃d,(ct.module n).ct= { ct with diags:=d }:=zI2 n.kids _
theorem zH4: ∀(l:List Nd) (st:Ct×List ByteArray),(l.foldl zGu st).1.bodies.length<=st.1.bodies.length+l.length
 | [],st=>by simp
 | a::l,st=>by
   have h1:=zH4 l (zGu st a)
   have h2:(zGu st a).1.bodies.length<=st.1.bodies.length+1:=by
    have hr: ∀(c:Ct) (e p:Int),(c.report e p).bodies=c.bodies:=fun c e p=>by unfold Ct.report;split<;>rfl
    unfold zGu;split
    ·simp[hr]
    ·split
     ·simp[hr]
     ·obtain⟨d,hd⟩:=zHI { st.1 with bodies:=st.1.bodies++[a] } a;simp[hd]
   simp only[List.foldl_cons,List.length_cons];omega
theorem CS.setmo2 {ck:CK} {h h':Nat->Option O} {x x':Nat} {N N':Nat->Prop} {cv:CV} {ct:Ct} (s:CS ck h x N cv ct) (hx:x<=x') {v:V} {l:List Mo} (h1:h' ck.c=some (.rows 9 [[v,cv.va,cv.lo,cv.pr,cv.th,cv.bo,.fn 607 [] [.mp ck.d 0 0],.mm ck.n,.mm ck.r]] false)) (h2: ∃rows,zaF h' x' v 22 rows/\Pw (MoR h' x' N') rows l)
 (hk: ∀j,Tp ck cv j\/N j->j≠ck.c->zbg cv.mo j->h' j=h j) (n1: ∀j,N j->N' j) (n2: ∀j,N' j-> ¬Tp ck cv j) (n3: ∀j,N' j->j<x'/\zbg v j):CS ck h' x' N' { cv with mo:=v } { ct with mods:=l }:=by
 obtain⟨l1,l2,l3,l4⟩:=s.lt;obtain⟨es,r1,r2⟩:=s.hr;obtain⟨rm,m1,m2⟩:=s.mo;obtain⟨rp,p1,p2⟩:=s.pr;obtain⟨rt,t1,t2⟩:=s.th;have key: ∀j,Tp ck cv j->j≠ck.c->(∀r,h j≠some (.rows 22 r false))->h' j=h j:=fun j hj a1 a2=>hk j (.inl hj) a1 (zGt fun e=>a2 _ (zGi m1 e).1)
 have EI: ∀j,j<x->N j->h' j=h j/\N' j:=fun j hj hn=>⟨hk j (.inr hn) (fun e=>s.nt j hn (.inl e)) (zGt fun e=>s.nt j hn (by unfold Tp;simp[e])),n1 j hn⟩
 have tp: ∀j,Tp ck { cv with mo:=v } j-> ¬zbg v j\/Tp ck cv j:=fun j ht=>by
  unfold Tp at ht⊢;rcases ht with ht | ht | ht | ht | ht | ht | ht | ht | ht | ht | ht<;>simp[ht]
 have G3: ∀j,N' j-> ¬Tp ck { cv with mo:=v } j:=fun j hn ht=>by
  rcases tp j ht with h | h
  ·exact h (n3 j hn).2
  ·exact n2 j hn h
 refine⟨h1,by rw[key _ (by unfold Tp;simp) (fun e=>by have:=s.hd;rw[e,s.hc]at this;simp at this) (by simp[s.hd])];exact s.hd,by rw[key _ (by unfold Tp;simp) (fun e=>by have:=s.hn;rw[e,s.hc]at this;simp at this) (by simp[s.hn])];exact s.hn,⟨es,by rw[key _ (by unfold Tp;simp) (fun e=>by rw[e,s.hc]at r1;simp at r1) (by simp[r1])];exact r1,r2.imp fun _ _ o=>o.keep hx EI⟩,
  s.od.keep hx fun k AF hv=>key k (by unfold Tp;simp[hv]) (fun e=>by have:=(zGi s.od hv).1;rw[e,s.hc]at this;simp at this) (by simp[(zGi s.od hv).1]),h2,s.va.keep hx fun k AF hv=>key k (by unfold Tp;simp[hv]) (fun e=>by have:=(zGi s.va hv).1;rw[e,s.hc]at this;simp at this) (by simp[(zGi s.va hv).1]),s.lo.keep hx fun k AF hv=>key k (by unfold Tp;simp[hv]) (fun e=>by have:=(zGi s.lo hv).1;rw[e,s.hc]at this;simp at this) (by simp[(zGi s.lo hv).1]),⟨rp,p1.keep hx fun k AF hv=>key k (by unfold Tp;simp[hv]) (fun e=>by have:=(zGi p1 hv).1;rw[e,s.hc]at this;simp at this) (by simp[(zGi p1 hv).1]),p2.imp fun _ _ o=>o.keep hx EI⟩,⟨rt,t1.keep hx fun k AF hv=>key k (by unfold Tp;simp[hv]) (fun e=>by have:=(zGi t1 hv).1;rw[e,s.hc]at this;simp at this) (by simp[(zGi t1 hv).1]),t2.imp fun _ _ o=>o.keep hx EI⟩,s.bo.keep hx fun k AF hv=>key k (by unfold Tp;simp[hv]) (fun e=>hv (e▸s.bc)) (by simp[(zGi s.bo hv).1]),⟨by omega,by omega,by omega,by omega⟩,s.ne,s.bc,G3,fun j hn=>(n3 j hn).1⟩
structure MsI (ck:CK) (h:Nat->Option O) (x:Nat) (N:Nat->Prop) (cv:CV) (km:Nat) (st:Ct×List ByteArray) (h':Nat->Option O) (x':Nat):Prop where
 ex: ∃N' cv',CS ck h' x' N' cv' st.1/\FrM ck h x N cv h' x' N' cv'/\ ¬Tp ck cv' km/\ ¬N' km
 mp:h' km=some (.map (zHu T.str st.2))
 lt:km<x'
theorem MsI.le {ck:CK} {h:Nat->Option O} {x:Nat} {N:Nat->Prop} {cv:CV} {km:Nat} {st:Ct×List ByteArray} {h':Nat->Option O} {x' y:Nat} (I:MsI ck h x N cv km st h' x') (hy:x'<=y):MsI ck h x N cv km st h' y:=by
 obtain⟨⟨N',cv',a,b,c,d⟩,e,f⟩:=I;exact⟨⟨N',cv',a.le hy,b.loc hy fun _ _=>rfl,c,d⟩,e,by omega⟩
theorem zKg {ck:CK} {h:Nat->Option O} {x:Nat} {N:Nat->Prop} {cv:CV} {ct:Ct} (s:CS ck h x N cv ct) (t:Nd) (hz:t.size<900) (hb:ct.bodies.length<2^20) (hm:ct.mods.length<2^20):
 ∃r h' x',DenR Γ G 608 [.mp ck.c 0 0,(.agg [.t (ti (t).kind),.t (.str (t).name),.t (.str (t).other),.t (ti (t).n),.t (ti (t).len),.t (ti (t).init),.t (tb (t).ghost),.t (.sl ((t).kids.map Nd.enc)),.t (ti (t).pos)])] h x=some (r,h',x')/\ ∃N' cv',CS ck h' x' N' cv' (ct.modules t)/\FrM ck h x N cv h' x' N' cv':=by
 have Dv:t.kids.length<=(t.kids.map Nd.size).sum:=by
  generalize t.kids=l
  induction l with
  | nil=>simp
  | cons b l ih=>have:=b.size_pos;simp only[List.map_cons,List.sum_cons,List.length_cons];omega
 have FR:=Nd.size_eq t;have Qz:=zHt t 60 (by omega);have BY: ∀a∈zGo t 60,a.size<900:=fun a ha=>by have:=Nd.size_kid (List.mem_filter.1 ha).1;omega
 have Mw:(zGo t 60).length<=t.kids.length:=List.length_filter_le _ _;unfold Ct.modules
 generalize zGo t 60=ks at *
 (refine zay Γ608 rfl ?_;dsimp only[zOr])
 simp -dsimp -implicitDefEqProofs only[go_sem,seval,Qz];refine zaq 590295810358705649728 ks.length (fun i f h' x'=>(f 11).v=vi i/\MsI ck h x N cv (x+1+0) ((ks.take i).foldl zGu (ct,[])) h' x') rfl ?_ ?_
 ·refine⟨by simp -dsimp -implicitDefEqProofs only[go_sem,seval],⟨N,cv,s.loc (by(try simp -dsimp -implicitDefEqProofs only[go_sem,seval]);(try omega)) fun j hj _=>by rw[zaa,if_neg (by omega)],FrM.refl.loc (by(try simp -dsimp -implicitDefEqProofs only[go_sem,seval]);(try omega)) fun j hj=>by rw[zaa,if_neg (by omega)],s.below (by omega),fun h=>by have:=s.nl _ h;omega⟩,by rw[zaa,if_pos rfl];rfl,by(try simp -dsimp -implicitDefEqProofs only[go_sem,seval]);(try omega)⟩
 rintro i f u H1 x1 bb hi ⟨g,⟨N1,cv1,s1,f1,t1,t2⟩,Ho,Ad⟩
 by_cases AV:i<ks.length
 rotate_left
 ·have h1:=eq_false AV;have:i=ks.length:=by omega
  subst this;rw[List.take_length]at s1;simp -dsimp -implicitDefEqProofs only[go_sem,seval,g,h1];exact⟨N1,cv1,s1.le (by(try simp -dsimp -implicitDefEqProofs only[go_sem,seval]);(try omega)),f1.loc (by(try simp -dsimp -implicitDefEqProofs only[go_sem,seval]);(try omega)) fun _ _=>rfl⟩
 have h1:=eq_true AV;obtain⟨a,ha,Cp⟩:=zai AV;have hw:=zan i (by omega);have Bj:(ks.map Nd.enc)[i]? =some a.enc:=by rw[zJ,ha];rfl
 have LC:(ks.take (i+1)).foldl zGu (ct,[])=zGu ((ks.take i).foldl zGu (ct,[])) a:=by rw[zaf ha,List.foldl_append];rfl
 rw[LC];have VL:=zH4 (ks.take i) (ct,[])
 generalize AE:(ks.take i).foldl zGu (ct,[])=st at *
 have hc:=s1.hc;have D2:=zIQ zGZ a.name st.2
 have rep: ∀{h2:Nat->Option O} {x2 y:Nat} {v2:V} {ct2:Ct},CS ck h2 x2 N1 { cv1 with d:=v2 } ct2->FrM ck H1 x1 N1 cv1 h2 x2 N1 { cv1 with d:=v2 }->x2<=y->MsI ck h x N cv (x+1+0) (ct2,st.2) h2 y:=fun s2 f2 hy=>
  ⟨⟨_,_,s2.le hy,(f1.trans f2).loc hy fun _ _=>rfl,fun ht=>t1 (f2.tp _ Ad ht),t2⟩,by rw[f2.kp _ Ad t1];exact Ho,by have:=f2.le;omega⟩
 by_cases c1:zG5 st.2 a.name=true
 ·rw[c1]at D2;have FY:zGu st a=(st.1.report 41 a.pos,st.2):=by unfold zGu;rw[if_pos c1]
  rw[FY];simp -dsimp -implicitDefEqProofs only[go_sem,seval,g,h1,Bj,Nd.enc_eq,Ho,D2,hc,if_true,Option.getD_some];refine zas (zvH s1 (by omega) 41 a) ?_;rintro r h2 x2 ⟨d2,s2,f2⟩;simp -dsimp -implicitDefEqProofs only[go_sem,seval,g,hw];refine⟨AV,by simp -dsimp -implicitDefEqProofs only[go_sem,seval],?_⟩;simp -dsimp -implicitDefEqProofs only[go_sem,seval];exact rep s2 f2.m (by(try simp -dsimp -implicitDefEqProofs only[go_sem,seval]);(try omega))
 have c1':=Bool.eq_false_iff.2 c1;rw[c1']at D2;obtain⟨rm,m1,m2⟩:=s1.mo;have v1:=m1.valOf;have v2:=m1.lenS;rw[m2.1]at v2
 by_cases c2:st.1.mods.length>=6
 ·have c2':((st.1.mods.length:Int)>=6)=True:=eq_true (by omega);have FY:zGu st a=(st.1.report 2 a.pos,st.2):=by unfold zGu;rw[if_neg c1,if_pos c2]
  rw[FY];simp -dsimp -implicitDefEqProofs only[go_sem,seval,g,h1,Bj,Nd.enc_eq,Ho,D2,hc,zG,if_false,Option.getD_none,v1,v2,c2'];refine zas (zvH s1 (by omega) 2 a) ?_;rintro r h2 x2 ⟨d2,s2,f2⟩;simp -dsimp -implicitDefEqProofs only[go_sem,seval,g,hw];refine⟨AV,by simp -dsimp -implicitDefEqProofs only[go_sem,seval],?_⟩;simp -dsimp -implicitDefEqProofs only[go_sem,seval];exact rep s2 f2.m (by(try simp -dsimp -implicitDefEqProofs only[go_sem,seval]);(try omega))
 have c2':((st.1.mods.length:Int)>=6)=False:=eq_false (by omega);have Gy:=zLr zGZ a.name st.2 c1';have FG:(ck.c=x+1+0)=False:=eq_false fun e=>t1 (by rw[<- e];exact .inl rfl)
 have sm: ∀m,CS ck (updC H1 (x+1+0) m) x1 N1 cv1 st.1:=fun m=>s1.loc (Nat.le_refl _) fun j _ hj=>by
  rw[zaa,if_neg];rintro rfl;exact hj.elim t1 t2
 have y1:=s1.bo.valOf;have y2:=fun m=>(sm m).bo.lenS
 have y3: ∀m (b c d e f g:Nat) z,Rg.rowsS (updC (updC H1 (x+1+0) m) (x1+b+c+d+e+f+g) z) cv1.bo=some (zGk (st.1.bodies.map Nd.enc)):=fun m b c d e f g z=>((sm m).bo.upd (by omega) z).rowsS
 have y4:(zGk (st.1.bodies.map Nd.enc)).length=st.1.bodies.length:=by simp
 simp -dsimp -implicitDefEqProofs only[go_sem,seval,g,h1,Bj,Nd.enc_eq,Ho,D2,hc,zG,if_false,Option.getD_none,v1,v2,c2',Gy,FG,y1,y2,y3,y4]
 have D4:st.1.bodies.length<2^30:=by
  rw[List.length_take]at VL;simp only at VL;omega
 refine zav ((sm _).bo.upd (by omega) _) (by omega) (by simp;omega) (by decide) rfl (zHb _) ?_;intro v hp hP Bp Aq;rcases hP with⟨_,he⟩ | ⟨kb,hv,Do,hh⟩
 ·simp at he
 subst hv;have CL:zbg cv1.bo ck.c:=s1.bc;have lc:=s1.lt.1;have CG:=Aq ck.c (by omega) CL;have DO:kb≠ck.c:=fun e=>Bp ck.c (by omega) 0 _ (by rw[<- e])
 rw[zaa,if_neg (by omega),zaa,if_neg (fun e=>by simp[FG]at e),hc]at CG;have Uj:(kb=ck.c)=False:=eq_false DO;have Ui:(ck.c=kb)=False:=eq_false DO.symm;have q1: ∀z:List V,(st.1.bodies.length<(zGk (st.1.bodies.map Nd.enc)++[z]).length)=True:=fun z=>eq_true (by simp)
 have q2: ∀z:List V,(zGk (st.1.bodies.map Nd.enc)++[z])[st.1.bodies.length]? =some z:=fun z=>by
  rw[List.getElem?_append_right (by simp)];simp
 have q3: ∀z w:List V,(zGk (st.1.bodies.map Nd.enc)++[z]).set st.1.bodies.length w=zGk (st.1.bodies.map Nd.enc)++[w]:=fun z w=>by
  rw[List.set_append_right _ _ (by simp)];simp
 simp -dsimp -implicitDefEqProofs only[go_sem,seval,hh,CG,Uj,Ui,q1,q2,q3];refine⟨?_,?_⟩
 ·simp only[zgO,List.all_cons,List.all_nil,List.getElem?_cons_succ,List.getElem?_cons_zero,sep,AOp.looksL,AOp.looks,AOp.isSt,AOp.keeps,AOp.opds,AOp.wopd,zHX,zid,za2,List.flatMap_cons,List.flatMap_nil];simp -dsimp -implicitDefEqProofs only[go_sem,seval,V.top];simp[DO,DO.symm]
 have fb:=fun(h2:Nat->Option O) (x2:Nat) (ML:x1<=x2) (a1:h2 ck.c=some (.rows 9 [[cv1.mo,cv1.va,cv1.lo,cv1.pr,cv1.th,.ms kb 0 (st.1.bodies.length+1),.fn 607 [] [.mp ck.d 0 0],.mm ck.n,.mm ck.r]] false)) (a2:zaF h2 x2 (.ms kb 0 (st.1.bodies.length+1)) 9 (zGk ((st.1.bodies++[a]).map Nd.enc)))
  (a3: ∀j,j<x1->j≠ck.c->zbg cv1.bo j->h2 j=updC H1 (x+1+0) (some (.map (zHu T.str (st.2++[a.name])))) j)=>
  (sm (some (.map (zHu T.str (st.2++[a.name]))))).setbo (h':=h2) (v:=.ms kb 0 (st.1.bodies.length+1)) (l:=st.1.bodies++[a]) ML a1 a2 (fun j hj=>za3 (fun e=>by
    have:=Bp j (by omega)
    exact this 0 _ (by rw[e])) _ _) a3 (fun _ h=>h) (fun _ _ h=>h) (fun j hj=>⟨by have:=s1.nl j hj;omega,za3 (fun e=>by
    have:=Bp j (by have:=s1.nl j hj;omega)
    exact this 0 _ (by rw[e])) _ _⟩)
 refine zas (zLQ (fb _ _ ?_ ?_ (.inr ⟨kb,by simp,Do,?_⟩) ?_) ?_ a (BY a Cp)) ?_
 ·omega
 ·rw[zaa,if_pos rfl];simp
 ·rw[zaa,if_neg DO,zaa,if_pos rfl,List.map_append];simp[Nd.enc_eq]
 ·intro j j1 j2 j3;have Lv:j≠kb:=fun e=>Bp j (by omega) 0 _ (by rw[e])
  rw[zaa,if_neg j2,zaa,if_neg Lv,Aq j (by omega) j3,zaa,if_neg (by omega)]
 ·omega
 rintro r h3 x3 ⟨vF,rfl,hO,Bn,d3,s3,f3,G3,SF,Vw⟩;simp only at SF;have Oi:=s3.hc;refine⟨fun k hk=> ?_,?_⟩
 ·have:k=ck.c:=by simpa[V.top]using hk
  rw[this];refine Oi.trans (Eq.symm ?_);simp only[zaC,zaA];rw[zaa,if_pos rfl];simp
 obtain⟨rm3,m31,m32⟩:=s3.mo;have w1:=m31.valOf;have Li: ∀j,x1<=j->zbg cv1.mo j:=fun j hj=>m1.off hj
 have w2: ∀(b c d e f g k:Nat) z,Rg.rowsS (updC h3 (x1+b+c+d+e+f+g+k) z) cv1.mo=some rm3:=fun b c d e f g k z=>(zaF.keep m31 (Nat.le_refl _) fun q q1 q2=>by
  have:q≠x1+b+c+d+e+f+g+k:=by rintro rfl;exact q2 (Li _ (by omega))
  rw[zaa,if_neg this]).rowsS
 have w3:=hO.valOf;unfold zIb;simp -dsimp -implicitDefEqProofs only[go_sem,seval,w1,w2,Oi];have UY:zaF h3 x1 cv1.mo 22 rm3:=zNH m31 Li
 have PX: ∀r∈rm3,r.length=22:=fun r hr=>by
  obtain⟨j,hj⟩:=List.getElem?_of_mem hr;obtain⟨q,hq,_⟩:=zai (l:=(({ st.1 with bodies:=st.1.bodies++[a] }:Ct).module a).ct.mods) (i:=j) (by rw[<- m32.1];exact(zH.1 hj).1);obtain⟨_,e,_⟩:=m32.2 j r q hj hq;rw[e];simp[zGz]
 have S1:=f3.le
 have VJ:rm3.length<2^32:=by
  obtain⟨d,hd⟩:=zHI { st.1 with bodies:=st.1.bodies++[a] } a;have:=m32.1;rw[hd]at this;simp only at this;omega
 refine zLG (UY.upd (by omega) _) (by omega) VJ (by decide) (by simp) (List.all_eq_true.2 fun r hr=>by simp[PX r hr]) ?_;intro D0 Ge GM;have z1:=Ge.valOf
 have UX:zbg cv1.mo ck.c:=by
  obtain⟨rm0,e1,_⟩:=s1.mo;exact zGA e1 hc (by decide)
 have M5:=GM ck.c (by omega) UX;rw[zaa,if_neg (by omega),Oi]at M5;simp -dsimp -implicitDefEqProofs only[go_sem,seval,M5];refine⟨?_,?_⟩
 ·simp only[zgO,List.all_cons,List.all_nil,List.getElem?_cons_succ,List.getElem?_cons_zero,sep,AOp.looksL,AOp.looks,AOp.isSt,AOp.keeps,AOp.opds,AOp.kargs,zHX,zid,za2,List.flatMap_cons,List.flatMap_nil];simp -dsimp -implicitDefEqProofs only[go_sem,seval,V.top];simp
 simp only at M5;simp -dsimp -implicitDefEqProofs only[go_sem,seval,g,hw];refine⟨AV,by simp -dsimp -implicitDefEqProofs only[go_sem,seval],?_⟩;simp -dsimp -implicitDefEqProofs only[go_sem,seval]
 have fF: ∀{hF:Nat->Option O} {q xF:Nat} {cv2:CV} {v:V},x1<=q->(∀j,¬zbg v j->j=q)->q<x3->x3<=xF->(∀j,j<x1->j≠ck.c->zbg cv1.mo j->hF j=h3 j)->FrM ck (updC H1 (x+1+0) (some (.map (zHu T.str (st.2++[a.name]))))) x1 N1 cv1 h3 x3 N1 cv2->
  FrM ck (updC H1 (x+1+0) (some (.map (zHu T.str (st.2++[a.name]))))) x1 N1 cv1 hF xF (fun j=>N1 j\/ ¬zbg vF j) { cv2 with mo:=v }:=fun hq hv _ UK hk f3=>
  ⟨Nat.le_trans f3.le UK,fun j hj ht=>(hk j hj (fun e=>ht (.inl e)) (zGt fun e=>ht (by unfold Tp;simp[e]))).trans (f3.kp j hj ht),fun j hj ht=>by
    refine f3.tp j hj ?_;have Az:zbg _ j:=zGt fun e=>by have:=hv j e;omega
    unfold Tp at ht⊢;rcases ht with ht | ht | ht | ht | ht | ht | ht | ht | ht | ht | ht<;>first | exact absurd Az ht | simp[ht],
    fun j hj hn=>hn.elim id fun e=>absurd (Bn j (by omega)) e,fun j hn=> .inl hn⟩
 have HN: ∀{q n:Nat} {j:Nat},¬zbg (.ms q 0 n) j->j=q:=fun{q n j} e=>by
  by_cases h:j=q
  ·exact h
  ·exact absurd (za3 h _ _) e
 have fin: ∀{hF:Nat->Option O} {q xF n:Nat} {ct2:Ct} {cv2:CV},x1<=q->q<x3->x3<=xF->(∀j,j<x1->j≠ck.c->zbg cv1.mo j->hF j=h3 j)->FrM ck (updC H1 (x+1+0) (some (.map (zHu T.str (st.2++[a.name]))))) x1 N1 cv1 h3 x3 N1 cv2->CS ck hF xF (fun j=>N1 j\/ ¬zbg vF j) { cv2 with mo:=.ms q 0 n } ct2->
  MsI ck h x N cv (x+1+0) (ct2,st.2++[a.name]) hF xF:=fun{hF q xF n ct2 cv2} h1 h2 h3 h4 f3 s4=>by
  have f4:=fF (v:=.ms q 0 n) h1 (fun j=>HN (n:=n)) h2 h3 h4 f3;refine⟨⟨_,_,s4,(f1.loc (Nat.le_refl _) fun j hj=>by rw[zaa,if_neg (by omega)]).trans f4,fun ht=>t1 (f4.tp _ Ad ht),fun hn=>t2 (f4.nn _ Ad hn)⟩,?_,by have:=f4.le;omega⟩;rw[f4.kp _ Ad t1,zaa,if_pos rfl]
 have FY:zGu st a=({ (({ st.1 with bodies:=st.1.bodies++[a] }:Ct).module a).ct with mods:=(({ st.1 with bodies:=st.1.bodies++[a] }:Ct).module a).ct.mods++[(({ st.1 with bodies:=st.1.bodies++[a] }:Ct).module a).m] },st.2++[a.name]):=by
  unfold zGu;rw[if_neg c1,if_neg c2]
 rw[FY];have CJ:=fun(j:Nat) (j0:j≠x1+1+4+5+8+4+13+9) (j1:j≠x1+1+4+5+8+4+13+10) (j3:zbg cv1.mo j)=>(GM j j1 j3).trans (by rw[zaa,if_neg j0])
 refine MsI.le (x':=x3) ?_ (by(try simp -dsimp -implicitDefEqProofs only[go_sem,seval]);(try omega));refine fin (q:=x1+1+4+5+8+4+13+10) (n:=rm3.length+1) (by omega) (by omega) (Nat.le_refl _) (fun j j1 j2 j3=> ?_) f3 (s3.setmo2 (Nat.le_refl _) ?_ ?_ ?_ (fun j h=>Or.inl h) ?_ ?_)
 ·rw[zaa,if_neg j2,CJ j (by omega) (by omega) j3]
 ·rw[zaa,if_pos rfl]
 ·refine⟨_,zaF.keep (rows:=_) Ge (by omega) fun q q1 q2=> ?_,(m32.imp fun _ _ o=>o.keep (Nat.le_refl _) fun j j1 j2=> ?_).snoc ⟨vF,?_,zHT (hO.keep (Nat.le_refl _) fun j j1 j2=> ?_) fun j hj=> .inr hj⟩⟩
  ·have:q≠ck.c:=by rintro rfl;have:=HN q2;omega
   rw[zaa,if_neg this]
  ·have:=s1.nl j j2;have j3:j≠ck.c:=fun e=>s3.nt j j2 (.inl e)
   have j4:zbg cv1.mo j:=zGt fun e=>s1.nt j j2 (by unfold Tp;simp[e])
   exact⟨by rw[zaa,if_neg j3,CJ j (by omega) (by omega) j4],.inl j2⟩
  ·simp[Nd.enc_eq]
  ·have:=G3 j j2;have j3:j≠ck.c:=fun e=>this (.inl e)
   have j4:zbg cv1.mo j:=zGt fun e=>this (by unfold Tp;simp[e])
   rw[zaa,if_neg j3,CJ j (fun e=>j2 (Bn j (by omega))) (fun e=>j2 (Bn j (by omega))) j4]
 ·intro j hj j1 j2
  have j5: ¬(x1+1+4+5+8+4+13+9<=j/\j<=x1+1+4+5+8+4+13+10):=by
   rintro⟨j6,j7⟩;rcases hj with hj | hj
   ·exact SF _ (by omega) (by omega) hj
   ·have:=s1.nl _ hj;omega
  rw[zaa,if_neg j1,CJ j (by omega) (by omega) j2]
 ·intro j hj;rcases hj with hj | hj
  ·exact s3.nt j hj
  ·exact G3 j hj
 ·intro j hj;rcases hj with hj | hj
  ·have:=s1.nl j hj;exact⟨by omega,za3 (by omega) _ _⟩
  ·have:=(zGi hO hj).2;exact⟨by omega,za3 (fun e=>hj (Bn j (by omega))) _ _⟩
end Rg
end
section
namespace Rg
open Go
def Ct.pk (ct:Ct):List Key:=ct.procs.map fun p=>(p.module,p.name)
def Ct.mn (ct:Ct):List ByteArray:=ct.mods.map Mo.name
def Ct.procOf (ct:Ct) (m:Int) (path:ByteArray):Int×Int:=zG1 ct.mn ct.pk m path
def zIO (q:Nd×Va):Bool:=decide (q.1.kind=1)&&zhA q.1.n q.2.w
def zHq (a:Nd) (p:Pr):Option Nat:=(a.kids.zip p.params).findIdx? fun q=> !zIO q
def zGx (st:Ct×List ByteArray) (a:Nd):Ct×List ByteArray:=
 if zG5 st.2 a.name=true then(st.1.report 41 a.pos,st.2)
 else if st.1.thrs.length>=4 then(st.1.report 2 a.pos,st.2)
 else if(st.1.procOf (-1) a.other).2≠0 then(st.1.report 40 a.pos,st.2)
 else match st.1.procs[(st.1.procOf (-1) a.other).1.toNat]? with
  | none=>st
  | some p=>
    if a.kids.length≠p.params.length then(st.1.report 43 a.pos,st.2)
    else match zHq a p with
     | some j=>(st.1.report 50 (a.kids.getD j .noneN).pos,st.2)
     | none=>({ st.1 with thrs:=st.1.thrs++[⟨a.name,(st.1.procOf (-1) a.other).1,a.kids.map Nd.n,decide (a.n=1),a.pos⟩] },st.2++[a.name])
def Ct.threads (ct:Ct) (t:Nd):Ct:=((zGo t 61).foldl zGx (ct,[])).1
def zGy (mn:List ByteArray) (pk:List Key) (m:Int) (l:List Int) (a:Nd):List Int:=
 if a.kind=33/\(zG1 mn pk m a.name).2=0/\zG5 l (zG1 mn pk m a.name).1=false then l++[(zG1 mn pk m a.name).1]else l
def sortI (l:List Int):List Int:=l.mergeSort fun x y=>decide (x<=y)
def zGG (mn:List ByteArray) (pk:List Key) (p:Pr):List Int:=sortI (p.body.flat.foldl (zGy mn pk p.module) [])
def zHx (lk:List Lk) (p:Pr):Bool:=decide (p.locked≠bs [])&& !zG5 (lk.map fun l=>(l.module,l.name)) (p.module,p.locked)
def zJx (d:List (Int×Int)) (e p:Int):List (Int×Int):=if d.length<20 then d++[(e,p)]else d
theorem zHF (ct:Ct) (e p:Int):ct.report e p= { ct with diags:=zJx ct.diags e p }:=by unfold Ct.report zJx;split<;>rfl
def zHB (lk:List Lk) (d:List (Int×Int)) (p:Pr):List (Int×Int):=if zHx lk p=true then zJx d 40 p.pos else d
def zGq (ct:Ct) (i:Nat):Ct:={ ct with diags:=(ct.procs.take i).foldl (zHB ct.locks) ct.diags,procs:=(ct.procs.take i).map (fun p=>{ p with calls:=zGG ct.mn ct.pk p })++ct.procs.drop i }
def Ct.callsM (ct:Ct):Ct:={ ct with diags:=ct.procs.foldl (zHB ct.locks) ct.diags,procs:=ct.procs.map fun p=>{ p with calls:=zGG ct.mn ct.pk p } }
inductive Way (g:List (List Int)):Nat->Nat->Prop where
 | one {i j:Nat} (h:(j:Int)∈g.getD i []):Way g i j
 | cons {i j k:Nat} (h:(j:Int)∈g.getD i []) (t:Way g j k):Way g i k
def Ct.graph (ct:Ct):List (List Int):=ct.procs.map Pr.calls
open Classical in
noncomputable def reachB (g:List (List Int)) (i:Nat):Bool:=decide (Way g i i)
noncomputable def cycD (g:List (List Int)) (d:List (Int×Int)) (q:Pr×Nat):List (Int×Int):=if reachB g q.2=true then zJx d 42 q.1.pos else d
noncomputable def Ct.cyclesM (ct:Ct):Ct:={ ct with diags:=ct.procs.zipIdx.foldl (cycD ct.graph) ct.diags }
def Ct.decls (ct:Ct):Ct:=ct.bodies.zipIdx.foldl (fun c q=>q.1.kids.foldl (zGl (q.2:Nat)) c) ct
def Ct.nil:Ct:=⟨[],[],[],[],[],[],[],[],[]⟩
noncomputable def collectM (t:Nd):Ct:=if t.kind=62 then(((Ct.nil.modules t).decls.threads t).callsM).cyclesM else .nil
end Rg
end
section
namespace Rg
open Go
theorem Pw.mapR {α β γ:Type} {R:α->β->Prop} {S:α->γ->Prop} {f:β->γ} {a:List α} {b:List β} (h:Pw R a b) (g: ∀x y,R x y->S x (f y)):Pw S a (b.map f):=by
 refine⟨by simp[h.1],fun i x y hx hy=> ?_⟩;rw[zJ]at hy
 cases hb:b[i]? with
 | none=>rw[hb]at hy;cases hy
 | some z=>rw[hb]at hy;cases hy;exact g _ _ (h.2 i x z hx hb)
theorem MoR.len {h:Nat->Option O} {x:Nat} {N:Nat->Prop} {row:List V} {m:Mo} (o:MoR h x N row m):row.length=22:=by
 obtain⟨v,rfl,_⟩:=o;simp[zGz]
theorem PrR.len {h:Nat->Option O} {x:Nat} {N:Nat->Prop} {row:List V} {m:Pr} (o:PrR h x N row m):row.length=16:=by
 obtain⟨v,_,_,rfl,_⟩:=o;simp[zGz]
theorem ThR.len {h:Nat->Option O} {x:Nat} {N:Nat->Prop} {row:List V} {m:Th} (o:ThR h x N row m):row.length=5:=by
 obtain⟨v,rfl,_⟩:=o;simp
theorem Pw.len {α:Type} {R:List V->α->Prop} {n:Nat} {a:List (List V)} {b:List α} (h:Pw R a b) (g: ∀x y,R x y->x.length=n): ∀r∈a,r.length=n:=fun r hr=>by
 obtain⟨i,hi⟩:=List.getElem?_of_mem hr;obtain⟨q,hq,_⟩:=zai (l:=b) (i:=i) (by rw[<- h.1];exact(zH.1 hi).1);exact g _ _ (h.2 i r q hi hq)
theorem zKK {α:Type} {p:α->Bool} {l:List α} (h:(zGN p l).2=true): ∃i:Nat,(zGN p l).1=i/\i<l.length/\ ∀a,l[i]? =some a->p a=true:=by
 unfold zGN at h⊢
 cases hf:l.findIdx? p with
 | none=>rw[hf]at h;cases h
 | some i=>
   rw[List.findIdx?_eq_some_iff_getElem]at hf;obtain⟨h1,h2,_⟩:=hf;exact⟨i,rfl,h1,fun a ha=>by rw[zI h1]at ha;cases ha;exact h2⟩
theorem zIY {mn:List ByteArray} {pk:List Key} {m:Int} {b:ByteArray} (h:(zG1 mn pk m b).2=0): ∃i:Nat,(zG1 mn pk m b).1=i/\i<pk.length:=by
 unfold zG1 at h⊢;split at h
 ·cases h
 split at h
 ·rename_i h1 h2;rw[if_neg h1,if_pos h2];obtain⟨i,h3,h4,_⟩:=zKK h2.2;exact⟨i,h3,h4⟩
 split at h
 ·rename_i h1 h2 h3;rw[if_neg h1,if_neg h2,if_pos h3];obtain⟨i,h4,h5,_⟩:=zKK h3.2.2;exact⟨i,h4,h5⟩
 ·cases h
theorem zMe {ck:CK} {h:Nat->Option O} {x y:Nat} {N:Nat->Prop} {cv:CV} {ct:Ct} (s:CS ck h x N cv ct) (VJ:ct.mods.length<2^40) (BL:ct.procs.length<2^40) (m:Int) (b:ByteArray) (hb:b.size<4294967281):
 ∃r h' x',DenR Γ G 604 [.agg [cv.mo,cv.va,cv.lo,cv.pr,cv.th],vi m,.t (.str b)] h y=some (r,h',x')/\(r= .tup [vi (ct.procOf m b).1,vi (ct.procOf m b).2]/\h'=h/\y<=x'):=by
 obtain⟨rm,m1,m2⟩:=s.mo;obtain⟨rp,p1,p2⟩:=s.pr
 exact zIX (zHh m1 (m2.len fun _ _ o=>o.len)) (zHh p1 (p2.len fun _ _ o=>o.len)) (m2.mapR fun row q o=>by
  obtain⟨v,rfl,_⟩:=o
  exact⟨_,rfl,by simp[zGz]⟩) (p2.mapR fun row q o=>by
  obtain⟨v,v2,v3,rfl,_⟩:=o
  exact⟨_,rfl,by simp[zGz]⟩) (by rw[m2.1];omega) (by rw[p2.1];omega) m b hb
theorem zKA {a:Nd} {p:Pr} {i:Nat} {q:Nd} {v:Va} (hq:a.kids[i]? =some q) (hv:p.params[i]? =some v) (ho:zIO (q,v)=false) (hb: ∀(j:Nat) (q:Nd) (v:Va),j<i->a.kids[j]? =some q->p.params[j]? =some v->zIO (q,v)=true):zHq a p=some i:=by
 unfold zHq;rw[List.findIdx?_eq_some_iff_getElem];have h1:=(zH.1 hq)
 have h2:=(zH.1 hv)
 obtain⟨h1,HF⟩:=h1;obtain⟨h2,EY⟩:=h2;refine⟨by simp;omega,?_,fun j hj=> ?_⟩
 ·rw[List.getElem_zip,HF,EY,ho];rfl
 ·rw[List.getElem_zip];have:=hb j _ _ hj (zI (by omega)) (zI (by omega));simp[this]
theorem zKB {a:Nd} {p:Pr} (hb: ∀(j:Nat) (q:Nd) (v:Va),a.kids[j]? =some q->p.params[j]? =some v->zIO (q,v)=true):zHq a p=none:=by
 unfold zHq;rw[List.findIdx?_eq_none_iff];intro x hx;obtain⟨j,hj,he⟩:=List.getElem_of_mem hx;rw[List.getElem_zip]at he;simp only[List.length_zip]at hj;have:=hb j _ _ (zI (by omega)) (zI (by omega));rw[he]at this;simp[this]
def Ct.wok (ct:Ct):Prop:= ∀p∈ct.procs,(∀v∈p.params,0<=v.w/\v.w<=8)/\p.params.length<2^30
theorem zKX (st:Ct×List ByteArray) (a:Nd): ∃d th,(zGx st a).1= { st.1 with diags:=d,thrs:=th }:=by
 have hr: ∀e p,∃d th,st.1.report e p= { st.1 with diags:=d,thrs:=th }:=fun e p=>by
  obtain⟨d,hd⟩:=zGX st.1 e p;exact⟨d,_,hd⟩
 unfold zGx;split
 ·exact hr _ _
 split
 ·exact hr _ _
 split
 ·exact hr _ _
 split
 ·exact⟨_,_,rfl⟩
 split
 ·exact hr _ _
 split
 ·exact hr _ _
 ·exact⟨_,_,rfl⟩
theorem zHs: ∀(l:List Nd) (st:Ct×List ByteArray),∃d th,(l.foldl zGx st).1= { st.1 with diags:=d,thrs:=th }
 | [],st=>⟨_,_,rfl⟩
 | a::l,st=>by
   obtain⟨d,th,h⟩:=zHs l (zGx st a);obtain⟨d2,th2,h2⟩:=zKX st a;exact⟨d,th,by rw[List.foldl_cons,h,h2]⟩
theorem zJ5 {ck:CK} {h:Nat->Option O} {x:Nat} {N:Nat->Prop} {cv:CV} {ct:Ct} (s:CS ck h x N cv ct) (t:Nd) (hz:t.size<900) (FR:t.sane) (VJ:ct.mods.length<2^40) (BL:ct.procs.length<2^40) (UL:ct.wok):
 ∃r h' x',DenR Γ G 610 [.mp ck.c 0 0,(.agg [.t (ti (t).kind),.t (.str (t).name),.t (.str (t).other),.t (ti (t).n),.t (ti (t).len),.t (ti (t).init),.t (tb (t).ghost),.t (.sl ((t).kids.map Nd.enc)),.t (ti (t).pos)])] h x=some (r,h',x')/\ ∃N' cv',CS ck h' x' N' cv' (ct.threads t)/\FrM ck h x N cv h' x' N' cv':=by
 have Dv:t.kids.length<=(t.kids.map Nd.size).sum:=by
  generalize t.kids=l
  induction l with
  | nil=>simp
  | cons b l ih=>have:=b.size_pos;simp only[List.map_cons,List.sum_cons,List.length_cons];omega
 have UP:=Nd.size_eq t;have Qz:=zHt t 61 (by omega);have BY: ∀a∈zGo t 61,a.size<900/\a.sane:=fun a ha=>by have:=Nd.size_kid (List.mem_filter.1 ha).1;exact⟨by omega,FR.kid (List.mem_filter.1 ha).1⟩
 have Mw:(zGo t 61).length<=t.kids.length:=List.length_filter_le _ _;unfold Ct.threads
 generalize zGo t 61=ks at *
 (refine zay Γ610 rfl ?_;dsimp only[zOp])
 simp -dsimp -implicitDefEqProofs only[go_sem,seval,Qz];refine zaq 23384026197294446691258957323460528314494920441792 ks.length (fun i f h' x'=>(f 18).v=vi i/\MsI ck h x N cv (x+1+0) ((ks.take i).foldl zGx (ct,[])) h' x') rfl ?_ ?_
 ·refine⟨by simp -dsimp -implicitDefEqProofs only[go_sem,seval],⟨N,cv,s.loc (by(try simp -dsimp -implicitDefEqProofs only[go_sem,seval]);(try omega)) fun j hj _=>by rw[zaa,if_neg (by omega)],FrM.refl.loc (by(try simp -dsimp -implicitDefEqProofs only[go_sem,seval]);(try omega)) fun j hj=>by rw[zaa,if_neg (by omega)],s.below (by omega),fun h=>by have:=s.nl _ h;omega⟩,by rw[zaa,if_pos rfl];rfl,by(try simp -dsimp -implicitDefEqProofs only[go_sem,seval]);(try omega)⟩
 rintro i f u H1 x1 bb hi ⟨g,⟨N1,cv1,s1,f1,t1,t2⟩,Ho,Ad⟩
 by_cases AV:i<ks.length
 rotate_left
 ·have h1:=eq_false AV;have:i=ks.length:=by omega
  subst this;rw[List.take_length]at s1;simp -dsimp -implicitDefEqProofs only[go_sem,seval,g,h1];exact⟨N1,cv1,s1.le (by(try simp -dsimp -implicitDefEqProofs only[go_sem,seval]);(try omega)),f1.loc (by(try simp -dsimp -implicitDefEqProofs only[go_sem,seval]);(try omega)) fun _ _=>rfl⟩
 have h1:=eq_true AV;obtain⟨a,ha,Cp⟩:=zai AV;have hw:=zan i (by omega);have Bj:(ks.map Nd.enc)[i]? =some a.enc:=by rw[zJ,ha];rfl
 have LC:(ks.take (i+1)).foldl zGx (ct,[])=zGx ((ks.take i).foldl zGx (ct,[])) a:=by rw[zaf ha,List.foldl_append];rfl
 rw[LC];obtain⟨dd,tt,BJ⟩:=zHs (ks.take i) (ct,[])
 generalize AE:(ks.take i).foldl zGx (ct,[])=st at *
 have e1:st.1.mods=ct.mods:=by rw[BJ]
 have e2:st.1.procs=ct.procs:=by rw[BJ]
 have hc:=s1.hc;have D2:=zIQ zGZ a.name st.2;obtain⟨V0,Dt⟩:=BY a Cp;have Be:=Dt.self.other
 have rep: ∀{h2:Nat->Option O} {x2 y:Nat} {v2:V} {ct2:Ct},CS ck h2 x2 N1 { cv1 with d:=v2 } ct2->FrM ck H1 x1 N1 cv1 h2 x2 N1 { cv1 with d:=v2 }->x2<=y->MsI ck h x N cv (x+1+0) (ct2,st.2) h2 y:=fun s2 f2 hy=>
  ⟨⟨_,_,s2.le hy,(f1.trans f2).loc hy fun _ _=>rfl,fun ht=>t1 (f2.tp _ Ad ht),t2⟩,by rw[f2.kp _ Ad t1];exact Ho,by have:=f2.le;omega⟩
 obtain⟨rm,m1,m2⟩:=s1.mo;obtain⟨rp,p1,p2⟩:=s1.pr;obtain⟨rt,q1,q2⟩:=s1.th;have v1:=m1.valOf;have v2:=s1.va.valOf;have v3:=s1.lo.valOf;have v4:=p1.valOf;have v5:=q1.valOf;simp -dsimp -implicitDefEqProofs only[go_sem,seval,g,h1,Bj,Nd.enc_eq,hc,v1,v2,v3,v4,v5];refine zas (zMe s1 (by rw[e1];exact VJ) (by rw[e2];exact BL) (-1) a.other (by omega)) ?_;rintro r H2 x2 ⟨rfl,rfl,ML⟩
 by_cases c1:zG5 st.2 a.name=true
 ·rw[c1]at D2;have FY:zGx st a=(st.1.report 41 a.pos,st.2):=by unfold zGx;rw[if_pos c1]
  rw[FY];simp -dsimp -implicitDefEqProofs only[go_sem,seval,Ho,D2,if_true,Option.getD_some,hc];refine zas (zvH s1 (by omega) 41 a) ?_;rintro r h3 x3 ⟨d3,s3,f3⟩;simp -dsimp -implicitDefEqProofs only[go_sem,seval,g,hw];refine⟨AV,by simp -dsimp -implicitDefEqProofs only[go_sem,seval],?_⟩;simp -dsimp -implicitDefEqProofs only[go_sem,seval];exact rep s3 f3.m (by(try simp -dsimp -implicitDefEqProofs only[go_sem,seval]);(try omega))
 have c1':=Bool.eq_false_iff.2 c1;rw[c1']at D2;have v6:=q1.lenS;rw[q2.1]at v6
 by_cases c2:st.1.thrs.length>=4
 ·have c2':((st.1.thrs.length:Int)>=4)=True:=eq_true (by omega);have FY:zGx st a=(st.1.report 2 a.pos,st.2):=by unfold zGx;rw[if_neg c1,if_pos c2]
  rw[FY];simp -dsimp -implicitDefEqProofs only[go_sem,seval,Ho,D2,zG,if_false,Option.getD_none,hc,v5,v6,c2'];refine zas (zvH s1 (by omega) 2 a) ?_;rintro r h3 x3 ⟨d3,s3,f3⟩;simp -dsimp -implicitDefEqProofs only[go_sem,seval,g,hw];refine⟨AV,by simp -dsimp -implicitDefEqProofs only[go_sem,seval],?_⟩;simp -dsimp -implicitDefEqProofs only[go_sem,seval];exact rep s3 f3.m (by(try simp -dsimp -implicitDefEqProofs only[go_sem,seval]);(try omega))
 have c2':((st.1.thrs.length:Int)>=4)=False:=eq_false (by omega)
 by_cases c3:(st.1.procOf (-1) a.other).2≠0
 ·have c3':((st.1.procOf (-1) a.other).2=0)=False:=eq_false c3;have FY:zGx st a=(st.1.report 40 a.pos,st.2):=by unfold zGx;rw[if_neg c1,if_neg c2,if_pos c3]
  rw[FY];simp -dsimp -implicitDefEqProofs only[go_sem,seval,Ho,D2,zG,if_false,Option.getD_none,hc,v5,v6,c2',c3'];refine zas (zvH s1 (by omega) 40 a) ?_;rintro r h3 x3 ⟨d3,s3,f3⟩;simp -dsimp -implicitDefEqProofs only[go_sem,seval,g,hw];refine⟨AV,by simp -dsimp -implicitDefEqProofs only[go_sem,seval],?_⟩;simp -dsimp -implicitDefEqProofs only[go_sem,seval];exact rep s3 f3.m (by(try simp -dsimp -implicitDefEqProofs only[go_sem,seval]);(try omega))
 have c3n:(st.1.procOf (-1) a.other).2=0:=Classical.byContradiction c3;have c3':((st.1.procOf (-1) a.other).2=0)=True:=eq_true c3n;obtain⟨j,hj,AN⟩:=zIY c3n;have U9:j<st.1.procs.length:=by simpa[Ct.pk]using AN
 obtain⟨p,hp,IV⟩:=zai U9;have To:(st.1.procOf (-1) a.other).1=j:=hj;rcases p1 with⟨_,D7⟩ | ⟨kp,A8,RK,M0⟩
 ·have:=p2.1;rw[D7]at this;simp at this;omega
 obtain⟨row,Ap,_⟩:=zai (l:=rp) (i:=j) (by rw[p2.1];exact U9);obtain⟨vP,vL,vC,rfl,Tb,T2,Ts⟩:=p2.2 j _ p Ap hp;simp only[Nd.enc_eq,List.map_cons,List.map_nil,List.cons_append,List.nil_append]at Ap;have w1:((j:Int)<(rp.length:Int))=True:=eq_true (by have:=p2.1;omega);have sP:=zJl Tb (fun e he=>by obtain⟨q,_,rfl⟩:=List.mem_map.1 he;rfl);have u1:=sP.vl;have u2:=sP.ln;rw[show(zGk (p.params.map Va.enc)).length=p.params.length by simp]at u2;rw[A8]at hc;simp -dsimp -implicitDefEqProofs only[go_sem,seval,Ho,D2,zG,if_false,Option.getD_none,hc,v5,v6,c2',c3',To,A8,M0,Ap,w1,u1,u2]
 have Tx: ∀X,(match zHq a p with
  | some j=>(st.1.report 50 (a.kids.getD j .noneN).pos,st.2)
  | none=>({ st.1 with thrs:=st.1.thrs++[⟨a.name,j,a.kids.map Nd.n,decide (a.n=1),a.pos⟩] },st.2++[a.name]))=X->a.kids.length=p.params.length->zGx st a=X:=fun X hX hl=>by
  unfold zGx;rw[if_neg c1,if_neg c2,if_neg c3,To];simp only[Int.toNat_natCast,hp];rw[if_neg (fun h=>h hl)];exact hX
 by_cases c4:a.kids.length=p.params.length
 rotate_left
 ·have c4':((a.kids.length:Int)=(p.params.length:Int))=False:=eq_false (by omega)
  have FY:zGx st a=(st.1.report 43 a.pos,st.2):=by
   unfold zGx;rw[if_neg c1,if_neg c2,if_neg c3,To];simp only[Int.toNat_natCast,hp];rw[if_pos c4]
  rw[FY];simp -dsimp -implicitDefEqProofs only[go_sem,seval,c4',hc];refine zas (zvH s1 (by omega) 43 a) ?_;rintro r h3 x3 ⟨d3,s3,f3⟩;simp -dsimp -implicitDefEqProofs only[go_sem,seval,g,hw];refine⟨AV,by simp -dsimp -implicitDefEqProofs only[go_sem,seval],?_⟩;simp -dsimp -implicitDefEqProofs only[go_sem,seval];exact rep s3 f3.m (by(try simp -dsimp -implicitDefEqProofs only[go_sem,seval]);(try omega))
 have c4':((a.kids.length:Int)=(p.params.length:Int))=True:=eq_true (by omega);have Vp:=Nd.size_eq a
 have TN:a.kids.length<=(a.kids.map Nd.size).sum:=by
  generalize a.kids=l
  induction l with
  | nil=>simp
  | cons b l ih=>have:=b.size_pos;simp only[List.map_cons,List.sum_cons,List.length_cons];omega
 simp -dsimp -implicitDefEqProofs only[go_sem,seval,c4',hc,M0,Ap,w1,u1,u2];refine zaq 87112285607241692988197172719376641571840 a.kids.length (fun c f' h' x'=>(f' 108).v=vi c/\(f' 11).v=vi (-1)/\(f' 10).v= .lb/\ ∃v,(f' 10).box=some [.t (.str a.name),.t (ti j),v,.t (tb (decide (a.n=1))),.t (ti a.pos)]/\zaF h' x' v 1 (zGk ((a.kids.take c).map fun q=>[ti q.n]))/\x1<=x'/\(∀j,j<x1->h' j=H2 j)/\(∀j,j<x1->zbg v j)/\ ∀(j:Nat) (q:Nd) (v:Va),j<c->a.kids[j]? =some q->p.params[j]? =some v->zIO (q,v)=true) rfl ?_ ?_
 ·refine⟨by simp -dsimp -implicitDefEqProofs only[go_sem,seval],by simp -dsimp -implicitDefEqProofs only[go_sem,seval],by simp -dsimp -implicitDefEqProofs only[go_sem,seval],.t .nils,by simp -dsimp -implicitDefEqProofs only[go_sem,seval];(try rfl),.inl ⟨rfl,rfl⟩,by(try simp -dsimp -implicitDefEqProofs only[go_sem,seval]);(try omega),fun _ _=>rfl,fun j _ i n e=>(by cases e),fun j q v hj=>by omega⟩
 rintro c f' u' H3 x3 b3 Oi ⟨j108,j11,j10,v,jb,hO,S1,B4,Bn,Bm⟩;have Bz:H3 ck.c=_:=(B4 _ s1.lt.1).trans hc;have s3:=s1.loc S1 fun j hj _=>B4 j hj
 by_cases By:c<a.kids.length
 rotate_left
 ·have e3:=eq_false By;have O1:c=a.kids.length:=by omega
  subst O1;rw[List.take_length]at hO;have Aa:zHq a p=none:=zKB fun j q v hq hv=>Bm j q v (zH.1 hq).1 hq hv
  have FY:=Tx _ (by rw[Aa]) c4;have Ud:H3 (x+1+0)=_:=(B4 _ Ad).trans Ho;have Gy:=zLr zGZ a.name st.2 c1';have FG:(ck.c=x+1+0)=False:=eq_false fun e=>t1 (by rw[<- e];exact .inl rfl)
  have q3:=q1.keep S1 fun j j1 _=>B4 j j1
  have K0:zbg cv1.th (x+1+0):=zHH q1 Ho
  have q3m: ∀z,zaF (updC H3 (x+1+0) z) x3 cv1.th 5 rt:=fun z=>q3.keep (Nat.le_refl _) fun j j1 j2=>by
   rw[zaa,if_neg];rintro rfl;exact j2 K0
  have y1:=hO.valOf;have y3: ∀z (b c d e:Nat) z',Rg.rowsS (updC (updC H3 (x+1+0) z) (x3+b+c+d+e) z') cv1.th=some rt:=fun z b c d e z'=>((q3m z).upd (by omega) z').rowsS
  simp -dsimp -implicitDefEqProofs only[go_sem,seval,j108,e3,j11,Ud,Gy,FG,Bz,v5,j10,jb,y1,y3];have O2:zaF H3 x3 v 1 (zGk ((a.kids.map Nd.n).map fun n=>[ti n])):=by rw[List.map_map];exact hO
  have DM:=q2.len fun _ _ o=>o.len
  refine zav ((q3m _).upd (by omega) _) (by omega) (by rw[q2.1];omega) (by decide) rfl (List.all_eq_true.2 fun r hr=>by simp[DM r hr]) ?_;intro v9 Ta G1 Bp Aq;have z1:=G1.valOf;have z2:=zGv G1;unfold V.cells at z2;have lc:=s1.lt.1;have Ky:zbg cv1.th ck.c:=zGA q1 hc (by decide);have M5:=Aq ck.c (by omega) Ky;rw[zaa,if_neg (by omega),zaa,if_neg (fun e=>by simp[FG]at e),Bz]at M5;simp -dsimp -implicitDefEqProofs only[go_sem,seval,z1,z2,M5,g,hw];refine⟨AV,by simp -dsimp -implicitDefEqProofs only[go_sem,seval],?_⟩;simp -dsimp -implicitDefEqProofs only[go_sem,seval];rw[FY]
  have sm:CS ck (updC H2 (x+1+0) (some (.map (zHu T.str (st.2++[a.name]))))) x1 N1 cv1 st.1:=s1.loc (Nat.le_refl _) fun j _ hj=>by
   rw[zaa,if_neg];rintro rfl;exact hj.elim t1 t2
  have fin: ∀{hF:Nat->Option O} {xF:Nat} {v9:V} {ct2:Ct},CS ck hF xF (fun j=>N1 j\/ ¬zbg v j) { cv1 with th:=v9 } ct2/\FrC ck (updC H2 (x+1+0) (some (.map (zHu T.str (st.2++[a.name]))))) x1 N1 cv1 hF xF (fun j=>N1 j\/ ¬zbg v j) { cv1 with th:=v9 }->
   MsI ck h x N cv (x+1+0) (ct2,st.2++[a.name]) hF xF:=fun⟨s4,f4⟩=>
   ⟨⟨_,_,s4,(f1.loc (Nat.le_refl _) fun j hj=>by rw[zaa,if_neg (by omega)]).trans f4.m,fun ht=>t1 (f4.tp _ Ad ht),fun hn=>t2 (f4.nn _ Ad hn)⟩,by rw[f4.kp _ Ad t1,zaa,if_pos rfl],by have:=f4.le;omega⟩
  have CJ:=fun(j:Nat) (j1:j<x3) (j2:j≠x+1+0) (j3:zbg cv1.th j)=>(Aq j (by omega) j3).trans (by rw[zaa,if_neg (by omega),zaa,if_neg j2])
  refine fin (sm.setth ?_ ?_ ⟨_,zaF.keep (rows:=_) G1 ?_ fun q z1 z2=> ?_,(q2.imp fun _ _ o=>o.keep ?_ fun j j1 j2=> ?_).snoc ⟨v,rfl,zHT (O2.keep ?_ fun j j1 j2=> ?_) fun j hj=> .inr hj⟩⟩ (fun j hj=>Bp j (by omega)) (fun j j1 j2 j3=> ?_) (fun j hj=>Or.inl hj) (fun j j1 hj=>hj.elim id fun e=>absurd (Bn j j1) e) (fun j hj=>⟨?_,Bp j ?_⟩))
  ·(try simp -dsimp -implicitDefEqProofs only[go_sem,seval]);(try omega)
  ·rw[zaa,if_pos rfl,A8]
  ·(try simp -dsimp -implicitDefEqProofs only[go_sem,seval]);(try omega)
  ·rw[zaa,if_neg];rintro rfl;exact z2 (Bp _ (by omega))
  ·(try simp -dsimp -implicitDefEqProofs only[go_sem,seval]);(try omega)
  ·have j3:j≠ck.c:=fun e=>s1.nt j j2 (.inl e)
   have j4:zbg cv1.th j:=zGt fun e=>s1.nt j j2 (by unfold Tp;simp[e])
   exact⟨by rw[zaa,if_neg j3,CJ j (by omega) (fun e=>t2 (e▸j2)) j4];exact B4 j j1,.inl j2⟩
  ·(try simp -dsimp -implicitDefEqProofs only[go_sem,seval]);(try omega)
  ·have jx:x1<=j:=Nat.le_of_not_lt fun h=>j2 (Bn j h)
   rw[zaa,if_neg (by omega),CJ j j1 (by omega) (q1.off jx)]
  ·rw[zaa,if_neg j2,Aq j (by omega) j3,zaa,if_neg (by omega),zaa,zaa];split
   ·rfl
   ·exact B4 j j1
  ·rcases hj with hj | hj
   ·have:=s1.nl j hj
    (try simp -dsimp -implicitDefEqProofs only[go_sem,seval]);(try omega)
   ·have:=(zGi hO hj).2
    (try simp -dsimp -implicitDefEqProofs only[go_sem,seval]);(try omega)
  ·rcases hj with hj | hj
   ·have:=s1.nl j hj;omega
   ·have:=(zGi hO hj).2;omega
 have e3:=eq_true By;obtain⟨q,hq,PZ⟩:=zai By;have SX:(a.kids.map Nd.enc)[c]? =some q.enc:=by rw[zJ,hq];rfl
 obtain⟨vv,Bs,Kg⟩:=zai (l:=p.params) (i:=c) (by omega);have Gl:=zan c (by omega)
 have bad:zIO (q,vv)=false->zGx st a=(st.1.report 50 q.pos,st.2):=fun ho=>Tx _ (by
  rw[zKA hq Bs ho Bm]
  simp[List.getD,hq]) c4
 by_cases k1:q.kind=1
 rotate_left
 ·have k1':=eq_false k1;rw[bad (by simp[zIO,k1])];simp -dsimp -implicitDefEqProofs only[go_sem,seval,j108,e3,SX,Nd.enc_eq,k1',j11,Bz];refine zas (zvH s3 (by omega) 50 q) ?_;rintro r h4 x4 ⟨d4,s4,f4⟩;simp -dsimp -implicitDefEqProofs only[go_sem,seval,g,hw];refine⟨AV,by simp -dsimp -implicitDefEqProofs only[go_sem,seval],?_⟩;simp -dsimp -implicitDefEqProofs only[go_sem,seval];exact rep s4 (f4.pre S1 B4).m (by(try simp -dsimp -implicitDefEqProofs only[go_sem,seval]);(try omega))
 have k1':=eq_true k1;rcases Tb with⟨_,he⟩ | ⟨kq,fq,rfl,Te,Uh,Td⟩
 ·have:=congrArg List.length he;simp only[List.length_map,List.length_nil]at this;omega
 have I4:=(B4 _ Te).trans Td;have DY:(zGk (p.params.map Va.enc))[c]? =some [.t (.str vv.name),.t (ti vv.w),.t (ti vv.len),.t (ti vv.init),.t (tb vv.ghost),.t (ti vv.module),.t (ti vv.pos)]:=by rw[zGk,zJ,zJ,Bs];rfl
 have w2:(c<p.params.length)=True:=eq_true (by omega);have Kb:=(UL p (by rw[<- e2];exact IV)).1 vv Kg;have Pp:=zJo q.n vv.w Kb.1 Kb.2
 by_cases hf:zhA q.n vv.w=true
 rotate_left
 ·have JO:=Bool.eq_false_iff.2 hf;rw[bad (by simp[zIO,JO])];simp -dsimp -implicitDefEqProofs only[go_sem,seval,j108,e3,SX,Nd.enc_eq,k1',I4,DY,w2,Pp,JO,j11,Bz];refine zas (zvH s3 (by omega) 50 q) ?_;rintro r h4 x4 ⟨d4,s4,f4⟩;simp -dsimp -implicitDefEqProofs only[go_sem,seval,g,hw];refine⟨AV,by simp -dsimp -implicitDefEqProofs only[go_sem,seval],?_⟩;simp -dsimp -implicitDefEqProofs only[go_sem,seval];exact rep s4 (f4.pre S1 B4).m (by(try simp -dsimp -implicitDefEqProofs only[go_sem,seval]);(try omega))
 have y1:=hO.valOf;have y2:=hO.r2;have y3:=hO.r3;have y4:=hO.r4;have y5:=hO.r5;simp -dsimp -implicitDefEqProofs only[go_sem,seval,j108,e3,SX,Nd.enc_eq,k1',I4,DY,w2,Pp,hf,j11,Bz,j10,jb,y1,y2,y3,y4,y5]
 refine zav (hO.upd (by omega) _) (by omega) (by simp only[zGk,List.length_map,List.length_take];omega) (by decide) rfl (List.all_eq_true.2 fun r hr=>by
  obtain⟨z,hz,rfl⟩:=List.mem_map.1 hr;obtain⟨z,hz,rfl⟩:=List.mem_map.1 hz
  rfl) ?_
 intro v9 Ta G1 Bp Aq;have z1:=G1.valOf;have z2:=zGv G1;unfold V.cells at z2;simp -dsimp -implicitDefEqProofs only[go_sem,seval,z1,z2,j108,Gl,j10,jb];refine⟨By,by simp -dsimp -implicitDefEqProofs only[go_sem,seval],by simp -dsimp -implicitDefEqProofs only[go_sem,seval,j11],by simp -dsimp -implicitDefEqProofs only[go_sem,seval,j10],v9,by simp -dsimp -implicitDefEqProofs only[go_sem,seval,jb];(try rfl),?_,?_,fun j hj=> ?_,fun j hj=>Bp j (by omega),fun j q' v' hj h1 h2=> ?_⟩
 ·rw[zaf hq,List.map_append,zGk,List.map_append];simp -dsimp -implicitDefEqProofs only[go_sem,seval];exact zaF.le G1 (by(try simp -dsimp -implicitDefEqProofs only[go_sem,seval]);(try omega))
 ·(try simp -dsimp -implicitDefEqProofs only[go_sem,seval]);(try omega)
 ·simp -dsimp -implicitDefEqProofs only[go_sem,seval];rw[Aq j (by omega) (Bn j hj),zaa,if_neg (by omega)];exact B4 j hj
 ·by_cases ST:j=c
  ·subst ST;rw[hq]at h1;rw[Bs]at h2;cases h1;cases h2;simp[zIO,k1,hf]
  ·exact Bm j q' v' (by omega) h1 h2
theorem zNE {α:Type} [DecidableEq α] {f:α->T} (hf: ∀a b,zeu (f a) (f b)=some (decide (a=b))) (a:α): ∀l:List α,zbF (f a) (vb true) (zHu f l)=some (zHu f (if zG5 l a=true then l else l++[a]))
 | []=>rfl
 | b::l=>by
   have ih:=zNE hf a l;rw[zHu]at ih;rw[zHu,List.map_cons,zbF,hf]
   by_cases h1:a=b
   ·subst h1;simp[zG5]
   ·have h2: ¬b=a:=fun e=>h1 e.symm
    have h3:zG5 (b::l) a=zG5 l a:=by simp[zG5,h2]
    rw[h3]
    by_cases h4:zG5 l a=true
    ·simp[h1,h4]at ih⊢;exact ih
    ·simp[h1,h4]at ih⊢;exact ih
def prw (p:Pr) (vP vL v:V):List V:=[.t (.str p.name),.t (ti p.module),vP,vL,.t (.str p.locked),.t (ti p.body.kind),.t (.str p.body.name),.t (.str p.body.other),.t (ti p.body.n),.t (ti p.body.len),.t (ti p.body.init),.t (tb p.body.ghost),.t (.sl (p.body.kids.map Nd.enc)),.t (ti p.body.pos),v,.t (ti p.pos)]
theorem PrR.row {h:Nat->Option O} {x:Nat} {N:Nat->Prop} {row:List V} {p:Pr} (o:PrR h x N row p): ∃vP vL vC,row=prw p vP vL vC/\Nst h x N vP 7 (p.params.map Va.enc)/\Nst h x N vL 7 (p.locals.map Va.enc)/\Nst h x N vC 1 (p.calls.map fun n=>[ti n])/\(p.calls=[]->vC= .t .nils):=by
 obtain⟨vP,vL,vC,h1,h2⟩:=o;exact⟨vP,vL,vC,by rw[h1];simp[prw,Nd.enc_eq],h2⟩
theorem PrR.of {h:Nat->Option O} {x:Nat} {N:Nat->Prop} {p:Pr} {vP vL vC:V} (h2:Nst h x N vP 7 (p.params.map Va.enc)/\Nst h x N vL 7 (p.locals.map Va.enc)/\Nst h x N vC 1 (p.calls.map fun n=>[ti n])/\(p.calls=[]->vC= .t .nils)):PrR h x N (prw p vP vL vC) p:=
 ⟨vP,vL,vC,by simp[prw,Nd.enc_eq],h2⟩
structure KI (ck:CK) (H:Nat->Option O) (xs ky ks kp i:Nat) (rp:List (List V)) (p:Pr) (vP vL:V) (l:List Int) (v:V) (h:Nat->Option O) (x:Nat):Prop where
 le:xs<=x
 pr:h kp=some (.rows 16 (rp.set i (prw p vP vL v)) false)
 fr: ∀j,j<xs->j≠kp->j≠ks->j≠ky->h j=H j
 ow:zaF h x v 1 (zGk (l.map fun n=>[ti n]))
 fv: ∀j,j<xs->zbg v j
 ms:h ks=some (.map (zHu ti l))
 nl:l=[]->v= .t .nils
theorem KI.keep {ck:CK} {H:Nat->Option O} {xs ky ks kp i:Nat} {rp:List (List V)} {p:Pr} {vP vL:V} {l:List Int} {v:V} {h h':Nat->Option O} {x x':Nat} (I:KI ck H xs ky ks kp i rp p vP vL l v h x) (hx:x<=x') (h1:kp<xs/\kp≠ky/\ks<xs/\ks≠ky) (hh: ∀j,(j<xs/\j≠ky)\/ ¬zbg v j->h' j=h j):KI ck H xs ky ks kp i rp p vP vL l v h' x':=
 ⟨Nat.le_trans I.le hx,by rw[hh _ (.inl ⟨h1.1,h1.2.1⟩)];exact I.pr,fun j j1 j2 j3 j4=>(hh j (.inl ⟨j1,j4⟩)).trans (I.fr j j1 j2 j3 j4),I.ow.keep hx fun j _ hj=>hh j (.inr hj),I.fv,by rw[hh _ (.inl ⟨h1.2.2.1,h1.2.2.2⟩)];exact I.ms,I.nl⟩
theorem zNB {rp:List (List V)} {ps:List Pr} {p:Pr} {h:Nat->Option O} {x:Nat} {N:Nat->Prop} {vP vL v:V} (h2:Pw (PrR h x N) rp ps) {i:Nat} (hp:ps[i]? =some p):
 Pw (fun row (k:Key)=> ∃rest,row= .t (.str k.2):: .t (ti k.1)::rest/\rest.length=14) (rp.set i (prw p vP vL v)) (ps.map fun p=>(p.module,p.name)):=by
 refine⟨by simp[h2.1],fun j row k hr hk=> ?_⟩;rw[zJ]at hk
 cases hq:ps[j]? with
 | none=>rw[hq]at hk;cases hk
 | some q=>
   rw[hq]at hk;cases hk
   by_cases Av:i=j
   ·subst Av;rw[hp]at hq;cases hq;rw[List.getElem?_set_self' ]at hr
    cases BC:rp[i]? with
    | none=>rw[BC]at hr;cases hr
    | some r0=>rw[BC]at hr;cases hr;exact⟨_,rfl,rfl⟩
   ·rw[List.getElem?_set_ne Av]at hr;obtain⟨a,b,c,h3,_⟩:=(h2.2 j row q hr hq).row;exact⟨_,h3,rfl⟩
theorem zM1 {rp:List (List V)} {ps:List Pr} {p:Pr} {h:Nat->Option O} {x:Nat} {N:Nat->Prop} {vP vL v:V} (h2:Pw (PrR h x N) rp ps) (i:Nat): ∀r∈rp.set i (prw p vP vL v),r.length=16:=fun r hr=>by
 rcases List.mem_or_eq_of_mem_set hr with hr | rfl
 ·exact h2.len (fun _ _ o=>o.len) r hr
 ·rfl
theorem zLp {ck:CK} {H:Nat->Option O} {x0 xs ky ks k1 k6 k7 kp i:Nat} {N:Nat->Prop} {cv:CV} {ct:Ct} {rp:List (List V)} {p:Pr} {vP vL:V} {l:List Int} {v:V} {h:Nat->Option O} {x:Nat} {env:Nat->V}
 (s:CS ck H x0 N cv ct) (Uy:x0<=xs) (A8:cv.pr= .ms kp 0 rp.length) (M0:H kp=some (.rows 16 rp false)) (Kk:Pw (PrR H x0 N) rp ct.procs) (hi:ct.procs[i]? =some p) (VJ:ct.mods.length<2^40) (BL:ct.procs.length<2^40)
 (n1:k1<xs/\k1≠kp/\k1≠ks/\k1≠ky) (n6:k6<xs/\k6≠kp/\k6≠ks/\k6≠ky) (n7:k7<xs/\k7≠kp/\k7≠ks/\k7≠ky) (nk:x0<=ks/\ks<xs/\ks≠ky/\x0<=ky/\ky<xs)
 (g1:H k1=some (.rows 1 [[.mp ck.c 0 0]] false)) (g6:H k6=some (.rows 1 [[.mp kp i 0]] false)) (g7:H k7=some (.rows 1 [[.mm ks]] false)) (I:KI ck H xs ky ks kp i rp p vP vL l v h x)
 (DA:h ky=some (.loop env [79] zH8 .ready)) (e1:env 1= .mp k1 0 0) (e6:env 6= .mp k6 0 0) (e7:env 7= .mp k7 0 0) (a:Nd) (ha:a.okN) (hl:l.length<2^30):
 ∃r h2 x2,DenY Γ G ky [.t (.ip a.enc)] h x=some (r,h2,x2)/\(r=vb true/\h2 ky=some (.loop env [79] zH8 .ready)/\x<=x2/\ ∃v2,KI ck H xs ky ks kp i rp p vP vL (zGy ct.mn ct.pk p.module l a) v2 h2 x2/\(∀j,j<x->zbg v j->j≠kp->j≠ks->j≠ky->h2 j=h j)/\(∀j,j<x-> ¬zbg v2 j-> ¬zbg v j)):=by
 obtain⟨rp2,p1,p2⟩:=s.pr
 have kx:kp<x0/\kp≠ck.c/\zbg cv.mo kp:=by
  rw[A8]at p1;rcases p1 with⟨e,_⟩ | ⟨k,e,e2,e3⟩
  ·cases e
  ·injection e with e
   subst e;refine⟨by omega,fun e=> ?_,?_⟩
   ·rw[e,s.hc]at M0;cases M0
   ·obtain⟨rm,m1,_⟩:=s.mo;exact zGA m1 M0 (by decide)
 have kn:kp≠ky/\kp≠ks:=by omega
 have As:=I.fv ky (by omega);have A5:=I.le;have lc:=s.lt.1;have f1:(k1=ky)=False:=eq_false n1.2.2.2;have f6:(k6=ky)=False:=eq_false n6.2.2.2;have f7:(k7=ky)=False:=eq_false n7.2.2.2;have fp:(kp=ky)=False:=eq_false kn.1;have fc:(ck.c=ky)=False:=eq_false (by omega);have fs:(ks=ky)=False:=eq_false nk.2.2.1;have d1:=(I.fr k1 n1.1 n1.2.1 n1.2.2.1 n1.2.2.2).trans g1;have d6:=(I.fr k6 n6.1 n6.2.1 n6.2.2.1 n6.2.2.2).trans g6;have d7:=(I.fr k7 n7.1 n7.2.1 n7.2.2.1 n7.2.2.2).trans g7;have dc:=(I.fr ck.c (by omega) (fun e=>kx.2.1 e.symm) (by omega) (by omega)).trans s.hc;have dp:=I.pr;have ds:=I.ms;have AV:i<rp.length:=by rw[Kk.1];exact(zH.1 hi).1
 have Ap:(rp.set i (prw p vP vL v))[i]? =some (prw p vP vL v):=by rw[List.getElem?_set_self AV]
 obtain⟨R,hR⟩: ∃R,R=rp.set i (prw p vP vL v):=⟨_,rfl⟩
 rw[<- hR]at dp Ap;unfold prw at Ap;obtain⟨rm,m1,m2⟩:=s.mo;have v1:=m1.valOf;have v2:=s.va.valOf;have v3:=s.lo.valOf;have v4:=p1.valOf;have v5:valOf cv.th=some cv.th:=by obtain⟨rt,q1,_⟩:=s.th;exact q1.valOf
 have Un: ∀y z z',∃r h' x',DenR Γ G 604 [.agg [cv.mo,cv.va,cv.lo,cv.pr,cv.th],vi p.module,.t (.str a.name)] (updC (updC h ky z) ky z') y=some (r,h',x')/\(r= .tup [vi (ct.procOf p.module a.name).1,vi (ct.procOf p.module a.name).2]/\h'=updC (updC h ky z) ky z'/\y<=x'):=fun y z z'=>by
  have EG:zaF (updC (updC h ky z) ky z') x cv.mo 22 rm:=m1.keep (by have:=I.le;omega) fun k kk1 hv=>by
   rw[zaa,if_neg (by omega),zaa,if_neg (by omega)];exact I.fr k (by omega) (fun e=>hv (e▸kx.2.2)) (by omega) (by omega)
  have DN:zaF (updC (updC h ky z) ky z') x cv.pr 16 (rp.set i (prw p vP vL v)):=.inr ⟨kp,by rw[A8,List.length_set],by have:=I.le;omega,by rw[zaa,if_neg kn.1,zaa,if_neg kn.1,dp,hR]⟩
  exact zIX (zHh EG (m2.len fun _ _ o=>o.len)) (zHh DN (zM1 Kk i)) (m2.mapR fun row q o=>by
   obtain⟨v,rfl,_⟩:=o
   exact⟨_,rfl,by simp[zGz]⟩) (zNB Kk hi) (by rw[m2.1];omega) (by rw[List.length_set,Kk.1];omega) p.module a.name (by have:=ha.name;omega)
 have:=zjy (Γ:=Γ) (G:=G) (vs:=[.t (.ip a.enc)]) (n:=x) (P:=fun ex h2 n'=>ex= .normal/\h2 ky=some (.loop env [79] zH8 .busy)/\x<=n'/\ ∃v2,KI ck H xs ky ks kp i rp p vP vL (zGy ct.mn ct.pk p.module l a) v2 h2 n'/\(∀j,j<x->zbg v j->j≠kp->j≠ks->j≠ky->h2 j=h j)/\(∀j,j<x-> ¬zbg v2 j-> ¬zbg v j)) DA rfl (fun ex h2 n' hP=>⟨_,_,_,hP.2.1⟩) (by
  have same: ∀{z z':Option O} {y:Nat},zGy ct.mn ct.pk p.module l a=l->x<=y-> ∃v2,KI ck H xs ky ks kp i rp p vP vL (zGy ct.mn ct.pk p.module l a) v2 (updC (updC h ky z) ky z') y/\(∀j,j<x->zbg v j->j≠kp->j≠ks->j≠ky->updC (updC h ky z) ky z' j=h j)/\(∀j,j<x-> ¬zbg v2 j-> ¬zbg v j):=fun Bi hy=>by
   rw[Bi];refine⟨v,I.keep hy ⟨by omega,kn.1,nk.2.1,nk.2.2.1⟩ fun j hj=> ?_,fun j _ _ _ _ hj=> ?_,fun _ _ h=>h⟩
   ·have:j≠ky:=by
     rintro rfl;rcases hj with hj | hj
     ·exact hj.2 rfl
     ·exact hj As
    rw[zaa,if_neg this,zaa,if_neg this]
   ·rw[zaa,if_neg hj,zaa,if_neg hj]
  by_cases hk:a.kind=33
  rotate_left
  ·have AT:(a.kind=33)=False:=eq_false hk;simp -dsimp -implicitDefEqProofs only[go_sem,seval,Nd.enc_eq,AT];refine⟨rfl,?_,by(try simp -dsimp -implicitDefEqProofs only[go_sem,seval]);(try omega),?_⟩
   ·(try simp only[zaC,zaA])
    rw[zaa,if_pos rfl];rfl
   ·(try simp only[zaC,zaA])
    exact same (by unfold zGy;rw[if_neg (fun h=>hk h.1)]) (by(try simp -dsimp -implicitDefEqProofs only[go_sem,seval]);(try omega))
  have AT:(a.kind=33)=True:=eq_true hk;simp -dsimp -implicitDefEqProofs only[go_sem,seval,Nd.enc_eq,AT,e1,e6,e7,f1,f6,f7,fp,fc,fs,d1,d6,d7,dc,dp,Ap,v1,v2,v3,v4,v5];refine zas (Un _ _ _) ?_;rintro r h2 x2 ⟨rfl,rfl,ML⟩
  by_cases c1:(ct.procOf p.module a.name).2=0
  rotate_left
  ·have c1':=eq_false c1;simp -dsimp -implicitDefEqProofs only[go_sem,seval,c1',e7];refine⟨rfl,?_,by(try simp -dsimp -implicitDefEqProofs only[go_sem,seval]);(try omega),?_⟩
   ·(try simp only[zaC,zaA])
    rw[zaa,if_pos rfl];rfl
   ·(try simp only[zaC,zaA])
    exact same (by unfold zGy;rw[if_neg (fun h=>c1 h.2.1)]) (by(try simp -dsimp -implicitDefEqProofs only[go_sem,seval]);(try omega))
  have c1':=eq_true c1;have D2:=zIQ zHd (ct.procOf p.module a.name).1 l
  by_cases c2:zG5 l (ct.procOf p.module a.name).1=true
  ·rw[c2]at D2;simp -dsimp -implicitDefEqProofs only[go_sem,seval,c1',e7,f7,d7,fs,ds,D2,if_true,Option.getD_some];refine⟨rfl,?_,by(try simp -dsimp -implicitDefEqProofs only[go_sem,seval]);(try omega),?_⟩
   ·(try simp only[zaC,zaA])
    rw[zaa,if_pos rfl];rfl
   ·(try simp only[zaC,zaA])
    exact same (by unfold zGy;rw[if_neg (fun h=>by have:=h.2.2;rw[show(zG1 ct.mn ct.pk p.module a.name).1=(ct.procOf p.module a.name).1 from rfl,c2]at this;cases this)]) (by(try simp -dsimp -implicitDefEqProofs only[go_sem,seval]);(try omega))
  have c2':=Bool.eq_false_iff.2 c2;rw[c2']at D2;have Gy:=zLr zHd (ct.procOf p.module a.name).1 l c2';have y1:=I.ow.valOf;have Dn:=I.fv ks nk.2.1
  have UC: ∀z z' m y,x<=y->zaF (updC (updC (updC h ky z) ky z') ks m) y v 1 (zGk (l.map fun n=>[ti n])):=fun z z' m y hy=>I.ow.keep hy fun q q1 q2=>by
   have j1:q≠ky:=by rintro rfl;exact q2 As
   have j2:q≠ks:=by rintro rfl;exact q2 Dn
   rw[zaa,if_neg j2,zaa,if_neg j1,zaa,if_neg j1]
  have y2: ∀z z' m (b c d:Nat) z2,Rg.rowsS (updC (updC (updC (updC h ky z) ky z') ks m) (x2+b+c+d) z2) v=some (zGk (l.map fun n=>[ti n])):=fun z z' m b c d z2=>((UC z z' m x2 (by omega)).upd (by omega) z2).rowsS
  have f6s:(k6=ks)=False:=eq_false n6.2.2.1;have fps:(kp=ks)=False:=eq_false kn.2;simp -dsimp -implicitDefEqProofs only[go_sem,seval,c1',e7,f7,d7,fs,ds,D2,zG,if_false,Option.getD_none,Gy,e6,f6,f6s,d6,fp,fps,dp,Ap,y1,y2];have C7:(zGk (l.map fun n=>[ti n])).length<2^30:=by simpa using hl
  refine zav ((UC _ _ _ x2 (by omega)).upd (by omega) _) (by omega) (by omega) (by decide) rfl (List.all_eq_true.2 fun r hr=>by
   obtain⟨z,hz,rfl⟩:=List.mem_map.1 hr;obtain⟨z,hz,rfl⟩:=List.mem_map.1 hz
   rfl) ?_
  intro v9 Ta G1 Bp Aq;have z1:=G1.valOf;have z2:=zGv G1;unfold V.cells at z2;have Ky:=I.fv kp (by omega);have M5:=Aq kp (by omega) Ky;rw[zaa,if_neg (by omega),zaa,if_neg kn.2,zaa,if_neg kn.1,zaa,if_neg kn.1,dp]at M5;simp -dsimp -implicitDefEqProofs only[go_sem,seval,z1,z2,M5,Ap];have UG:=I.fv k6 n6.1;refine⟨?_,?_⟩
  ·simp only[zgO,List.all_cons,List.all_nil,List.getElem?_cons_succ,List.getElem?_cons_zero,sep,AOp.looksL,AOp.looks,AOp.isSt,AOp.keeps,AOp.opds,AOp.wopd,zid,za2,List.flatMap_cons,List.flatMap_nil];simp -dsimp -implicitDefEqProofs only[go_sem,seval,y1,V.top,e6];rcases I.ow with⟨e,_⟩ | ⟨q,e,_,_⟩
   ·rw[e];rfl
   ·rw[e]at UG⊢;have : ¬(k6=q):=fun e=>UG _ _ (by rw[e])
    simpa using this
  refine⟨rfl,?_,?_,v9,?_,fun j j1 j2 j3 j4 j5=> ?_,fun j j1 j2=> ?_⟩
  ·simp only[zaC,zaA];rw[zaa,if_neg kn.1.symm,Aq ky (by omega) As,zaa,if_neg (by omega),zaa,if_neg nk.2.2.1.symm,zaa,if_pos rfl];rfl
  ·(try simp -dsimp -implicitDefEqProofs only[go_sem,seval]);(try omega)
  ·have TB:zGy ct.mn ct.pk p.module l a=l++[(ct.procOf p.module a.name).1]:=by
    unfold zGy;rw[if_pos ⟨hk,c1,c2'⟩];rfl
   rw[TB];refine⟨by(try simp -dsimp -implicitDefEqProofs only[go_sem,seval]);(try omega),?_,fun j j1 j2 j3 j4=> ?_,?_,fun j hj=>Bp j (by omega),?_,fun e=>by simp at e⟩
   ·simp only[zaC,zaA];rw[zaa,if_pos rfl,hR,List.set_set];rfl
   ·simp only[zaC,zaA];rw[zaa,if_neg j2,Aq j (by omega) (I.fv j j1),zaa,if_neg (by omega),zaa,if_neg j3,zaa,if_neg j4,zaa,if_neg j4];exact I.fr j j1 j2 j3 j4
   ·rw[List.map_append,zGk,List.map_append];simp only[zaC,zaA];refine zaF.keep G1 (by(try simp -dsimp -implicitDefEqProofs only[go_sem,seval]);(try omega)) fun q q1 q2=> ?_
    rw[zaa,if_neg];rintro rfl;exact q2 (Bp _ (by omega))
   ·simp only[zaC,zaA];rw[zaa,if_neg kn.2.symm,Aq ks (by omega) Dn,zaa,if_neg (by omega),zaa,if_pos rfl]
  ·simp only[zaC,zaA];rw[zaa,if_neg j3,Aq j (by omega) j2,zaa,if_neg (by omega),zaa,if_neg j4,zaa,if_neg j5,zaa,if_neg j5]
  ·exact absurd (Bp j (by omega)) j2)
 obtain⟨ex,h2,n2,⟨rfl,q1,q2,v2,q3,q4,q5⟩,env',ps',bd',q7,q8⟩:=this;rw[q1]at q7;simp only[zA,O.loop.injEq]at q7;obtain⟨rfl,rfl,rfl,_⟩:=q7;refine⟨_,_,n2,q8,rfl,by rw[zaa,if_pos rfl];rfl,q2,v2,q3.keep (Nat.le_refl _) ⟨by omega,kn.1,nk.2.1,nk.2.2.1⟩ fun j hj=> ?_,fun j j1 j2 j3 j4 j5=> ?_,q5⟩
 ·have:j≠ky:=by
   rintro rfl;rcases hj with hj | hj
   ·exact hj.2 rfl
   ·exact hj (q3.fv _ (by omega))
  rw[zaa,if_neg this]
 ·rw[zaa,if_neg j5];exact q4 j j1 j2 j3 j4 j5
theorem zME {h:Nat->Option O} {k i:Nat} {R:List (List V)} {p:Pr} {vP vL v:V} (hk:h k=some (.rows 16 R false)) (hr:R[i]? =some (prw p vP vL v)):zNo h (.mp k i 5) (ipK p.body):=by
 refine⟨.mp k i 5,.mp k i 12,.t (.sl (p.body.kids.map Nd.enc)),by simp only[zBw,hk],by simp only[zsM,hk],by simp[zuA,hk,hr,prw,rd,zb9],by simp[lenS],rfl,rfl,rfl,zL5 _⟩
theorem zMi {ck:CK} {H:Nat->Option O} {xs ky ks kp i:Nat} {rp:List (List V)} {p:Pr} {vP vL:V} {l:List Int} {v:V} {h:Nat->Option O} {x:Nat} {env:Nat->V}
 (nk:ks<xs/\ks≠ky/\ky<xs) (np:kp<xs/\kp≠ky) (AV:i<rp.length) (I:KI ck H xs ky ks kp i rp p vP vL l v h x)
 (DA:h ky=some (.loop env [79] zH8 .ready)) (hb:p.body.kind≠33):
 ∃r h2 x2,DenY Γ G ky [.mp kp i 5] h x=some (r,h2,x2)/\(r=vb true/\h2 ky=some (.loop env [79] zH8 .ready)/\x<=x2/\KI ck H xs ky ks kp i rp p vP vL l v h2 x2/\ ∀j,j≠ky->h2 j=h j):=by
 have AT:(p.body.kind=33)=False:=eq_false hb;have fp:(kp=ky)=False:=eq_false np.2;have dp:=I.pr;have Ap:(rp.set i (prw p vP vL v))[i]? =some (prw p vP vL v):=by rw[List.getElem?_set_self AV]
 have As:=I.fv ky nk.2.2;obtain⟨R,hR⟩: ∃R,R=rp.set i (prw p vP vL v):=⟨_,rfl⟩
 rw[<- hR]at dp Ap;unfold prw at Ap
 have:=zjy (Γ:=Γ) (G:=G) (vs:=[.mp kp i 5]) (n:=x) (P:=fun ex h2 n'=>ex= .normal/\h2 ky=some (.loop env [79] zH8 .busy)/\x<=n'/\ ∀j,j≠ky->h2 j=h j) DA rfl (fun ex h2 n' hP=>⟨_,_,_,hP.2.1⟩) (by
  simp -dsimp -implicitDefEqProofs only[go_sem,seval,AT,fp,dp,Ap];refine⟨rfl,?_,by(try simp -dsimp -implicitDefEqProofs only[go_sem,seval]);(try omega),fun j hj=> ?_⟩
  ·(try simp only[zaC,zaA])
   rw[zaa,if_pos rfl];rfl
  ·(try simp only[zaC,zaA])
   rw[zaa,if_neg hj,zaa,if_neg hj])
 obtain⟨ex,h2,n2,⟨rfl,q1,q2,q3⟩,env',ps',bd',q7,q8⟩:=this;rw[q1]at q7;simp only[zA,O.loop.injEq]at q7;obtain⟨rfl,rfl,rfl,_⟩:=q7;refine⟨_,_,n2,q8,rfl,by rw[zaa,if_pos rfl];rfl,q2,I.keep q2 ⟨np.1,np.2,nk.1,nk.2.1⟩ fun j hj=> ?_,fun j hj=> ?_⟩
 ·have:j≠ky:=by
   rintro rfl;rcases hj with hj | hj
   ·exact hj.2 rfl
   ·exact hj As
  rw[zaa,if_neg this];exact q3 j this
 ·rw[zaa,if_neg hj];exact q3 j hj
theorem zGP (mn:List ByteArray) (pk:List Key) (m:Int): ∀(L:List Nd) (l:List Int),(L.foldl (zGy mn pk m) l).length<=l.length+L.length
 | [],l=>by simp
 | a::L,l=>by
   have h1:=zGP mn pk m L (zGy mn pk m l a);have h2:(zGy mn pk m l a).length<=l.length+1:=by unfold zGy;split<;>simp
   simp only[List.foldl_cons,List.length_cons];omega
def CLI (ck:CK) (H:Nat->Option O) (ky ks kp i:Nat) (ct:Ct) (rp:List (List V)) (p:Pr) (vP vL:V) (W:List (V×Nd)) (F:Nat->Prop) (h:Nat->Option O) (x:Nat):Prop:=
 ∃v L,KI ck H (ky+1) ky ks kp i rp p vP vL (L.foldl (zGy ct.mn ct.pk p.module) []) v h x/\F=(fun j=>(j<ky+1/\j≠ky)\/ ¬zbg v j)/\L++W.reverse.flatMap (fun a=>a.2.flat)=p.body.flat/\(W=[(.mp kp i 5,p.body)]\/ ∀a∈W,a.1= .t (.ip a.2.enc))
theorem zJf {H:Nat->Option O} {x n:Nat} {v:V} {l:List Int} (ho:zaF H x v 1 (zGk (l.map fun n=>[ti n]))) (hl:l.length<2^40):
 ∃r h' n',DenR Γ G 74 [v] H n=some (r,h',n')/\(zaF h' x v 1 (zGk ((sortI l).map fun n=>[ti n]))/\n<=n'/\ ∀j,zbg v j->h' j=H j):=by
 have hr: ∀l:List Int,zGk (l.map fun n=>[ti n])=zae l:=fun l=>by simp[zGk,zae]
 rw[hr]at ho⊢;rcases ho with⟨rfl,he⟩ | ⟨k,rfl,hk,hh⟩
 ·have SK:l=[]:=by
   have:=congrArg List.length he;rw[zab]at this;exact List.eq_nil_of_length_eq_zero this
  subst SK;exact⟨_,_,_,zf6 Γ74 rfl rfl rfl,.inl ⟨rfl,by simp[sortI,zae]⟩,Nat.le_refl _,fun _ _=>rfl⟩
 ·rw[zab]
  have iof: ∀l:List Int,zd2 (zae l)=some l:=fun l=>by
   induction l with
   | nil=>rfl
   | cons a l ih=>
     have:zae (a::l)=[.t (.int .i64 a)]::zae l:=rfl;rw[this,zd2,ih];rfl
  have ofi: ∀l:List Int,za9 l=zae l:=fun l=>by simp[za9,zae]
  refine⟨_,upd H k (some (.rows 1 (zae (sortI l)) false)),n,zf6 Γ74 rfl rfl (by
   simp only[zd3,hh,iof,zD,ofi]
   rw[if_pos (by exact⟨trivial,by omega⟩)];rfl),.inr ⟨k,?_,hk,by rw[zaz]⟩,Nat.le_refl _,fun j hj=> ?_⟩
  ·rw[zab,sortI,List.length_mergeSort]
  ·have:j≠k:=by rintro rfl;exact hj _ _ rfl
   rw[<- zaL,zaa,if_neg this]
theorem CS.setrow {ck:CK} {h h':Nat->Option O} {x x':Nat} {N N':Nat->Prop} {cv:CV} {ct:Ct} (s:CS ck h x N cv ct) (hx:x<=x') {rp:List (List V)} {kp i:Nat} {row:List V} {p':Pr} (A8:cv.pr= .ms kp 0 rp.length) (hh:h kp=some (.rows 16 rp false)) (Kk:Pw (PrR h x N) rp ct.procs) (AV:i<rp.length) (hR:PrR h' x' N' row p') (h1:h' kp=some (.rows 16 (rp.set i row) false))
 (hk: ∀j,Tp ck cv j\/N j->j≠kp->h' j=h j) (n1: ∀j,N j->N' j) (n2: ∀j,N' j-> ¬Tp ck cv j) (n3: ∀j,N' j->j<x'):CS ck h' x' N' cv { ct with procs:=ct.procs.set i p' }:=by
 obtain⟨l1,l2,l3,l4⟩:=s.lt;obtain⟨es,r1,r2⟩:=s.hr;obtain⟨rm,m1,m2⟩:=s.mo;obtain⟨rp2,p1,p2⟩:=s.pr;obtain⟨rt,t1,t2⟩:=s.th
 have kt:Tp ck cv kp:=by
  have : ¬zbg cv.pr kp:=fun e=>by rw[A8]at e;exact e _ _ rfl
  unfold Tp;simp[this]
 have kx:kp<x:=(s.at kt).2;have key: ∀j,Tp ck cv j->(∀r,h j≠some (.rows 16 r false))->h' j=h j:=fun j hj a2=>hk j (.inl hj) fun e=>a2 _ (e▸hh)
 have EI: ∀j,j<x->N j->h' j=h j/\N' j:=fun j hj hn=>⟨hk j (.inr hn) (fun e=>s.nt j hn (e▸kt)),n1 j hn⟩
 refine⟨by rw[key _ (by unfold Tp;simp) (by simp[s.hc])];exact s.hc,by rw[key _ (by unfold Tp;simp) (by simp[s.hd])];exact s.hd,by rw[key _ (by unfold Tp;simp) (by simp[s.hn])];exact s.hn,⟨es,by rw[key _ (by unfold Tp;simp) (by simp[r1])];exact r1,r2.imp fun _ _ o=>o.keep hx EI⟩,
  s.od.keep hx fun k AF hv=>key k (by unfold Tp;simp[hv]) (by simp[(zGi s.od hv).1]),⟨rm,m1.keep hx fun k AF hv=>key k (by unfold Tp;simp[hv]) (by simp[(zGi m1 hv).1]),m2.imp fun _ _ o=>o.keep hx EI⟩,s.va.keep hx fun k AF hv=>key k (by unfold Tp;simp[hv]) (by simp[(zGi s.va hv).1]),
  s.lo.keep hx fun k AF hv=>key k (by unfold Tp;simp[hv]) (by simp[(zGi s.lo hv).1]),⟨rp.set i row,.inr ⟨kp,by rw[A8,List.length_set],by omega,h1⟩,?_⟩,⟨rt,t1.keep hx fun k AF hv=>key k (by unfold Tp;simp[hv]) (by simp[(zGi t1 hv).1]),t2.imp fun _ _ o=>o.keep hx EI⟩,s.bo.keep hx fun k AF hv=>key k (by unfold Tp;simp[hv]) (by simp[(zGi s.bo hv).1]),⟨by omega,by omega,by omega,by omega⟩,s.ne,s.bc,n2,n3⟩
 refine⟨by simp[Kk.1],fun j a b ha hb=> ?_⟩
 by_cases Av:i=j
 ·subst Av;rw[List.getElem?_set_self AV]at ha;rw[List.getElem?_set_self (by rw[<- Kk.1];exact AV)]at hb;cases ha;cases hb;exact hR
 ·rw[List.getElem?_set_ne Av]at ha hb;exact(Kk.2 j a b ha hb).keep hx EI
theorem zIk {ck:CK} {H:Nat->Option O} {x0 ky ks k1 k6 k7 kp kr i:Nat} {N:Nat->Prop} {cv:CV} {ct:Ct} {rp:List (List V)} {p:Pr} {vP vL:V} {env:Nat->V} {C:Ex->(Nat->Option O)->Nat->Prop} {wk:WK C}
 (s:CS ck H x0 N cv ct) (A8:cv.pr= .ms kp 0 rp.length) (M0:H kp=some (.rows 16 rp false)) (Kk:Pw (PrR H x0 N) rp ct.procs) (hi:ct.procs[i]? =some p) (Ap:rp[i]? =some (prw p vP vL (.t .nils))) (VJ:ct.mods.length<2^40) (BL:ct.procs.length<2^40)
 (n1:k1<ky/\k1≠kp/\k1≠ks) (n6:k6<ky/\k6≠kp/\k6≠ks) (n7:k7<ky/\k7≠kp/\k7≠ks) (nk:x0<=ks/\ks<ky) (ND:kp<x0)
 (g1:H k1=some (.rows 1 [[.mp ck.c 0 0]] false)) (g6:H k6=some (.rows 1 [[.mp kp i 0]] false)) (g7:H k7=some (.rows 1 [[.mm ks]] false)) (gs:H ks=some (.map []))
 (DA:H ky=some (.loop env [79] zH8 .ready)) (Hz:H kr=some (.rows 1 [[.mp kp i 5]] false)) (Tc:kr<ky) (e1:env 1= .mp k1 0 0) (e6:env 6= .mp k6 0 0) (e7:env 7= .mp k7 0 0) (hb:p.body.kind≠33) (AS:p.body.size<900) (Ff:p.body.sane)
 (hC: ∀v h' n',KI ck H (ky+1) ky ks kp i rp p vP vL (p.body.flat.foldl (zGy ct.mn ct.pk p.module) []) v h' n'->C .normal (updC h' ky (some .dead)) n'):
 zBm (DenR Γ G 637 [.yl ky,.mp kr 0 0] H (ky+1)) ky C wk:=by
 have AV:i<rp.length:=(zH.1 Ap).1
 have E8:rp.set i (prw p vP vL (.t .nils))=rp:=by
  have h:=(zH.1 Ap).2;rw[<- h,List.set_getElem_self]
 refine zIj (I:=CLI ck H ky ks kp i ct rp p vP vL) (p0:=.mp kp i 5) (t0:=p.body) (F0:=fun j=>(j<ky+1/\j≠ky)\/ ¬zbg (.t .nils) j) DA Hz Tc ?_ ?_ ?_ (by omega) (.inl ⟨_,_,_,rfl⟩) ?_ ?_
 ·rintro W F h3 x3 h4 x4 ⟨v,L,hK,rfl,hL,hW⟩ hx hh;exact⟨v,L,hK.keep hx (by omega) hh,rfl,hL,hW⟩
 ·rintro W F h3 x3 ⟨v,L,hK,rfl,hL,hW⟩ j hj;have:=hK.le;rcases hj with hj | hj
  ·omega
  ·exact⟨(zGi hK.ow hj).2,fun e=>hj (hK.fv j (by omega))⟩
 ·rintro W q t F h3 x3 ⟨v,L,hK,rfl,hL,hW⟩ Rx SD;have hZ:=zMn hL
  have Pu:L.length<=p.body.size:=by
   rw[<- Nd.flat_len,<- hL,zM];omega
  rcases hW with hW | hW
  ·have Ur:W=[]/\(q,t)=(V.mp kp i 5,p.body):=by
    cases W with
    | nil=>simpa using hW
    | cons a W=>simp at hW
   obtain⟨rfl,Fg⟩:=Ur;cases Fg;obtain⟨r,h5,x5,CF,rfl,g1,g2,g3,g4⟩:=zMi (by omega) (by omega) AV hK SD hb
   have Bi:(L++[p.body]).foldl (zGy ct.mn ct.pk p.module) []=L.foldl (zGy ct.mn ct.pk p.module) []:=by
    rw[List.foldl_append,List.foldl_cons,List.foldl_nil,zGy,if_neg (fun h=>hb h.1)]
   refine⟨_,h5,x5,CF,rfl,fun j=>(j<ky+1/\j≠ky)\/ ¬zbg v j,ipK p.body,⟨v,L++[p.body],by rw[Bi];exact g3,rfl,hZ,.inr fun a ha=> ?_⟩,by simp,fun h'' hh=>zME (R:=rp.set i (prw p vP vL v)) ?_ (by rw[List.getElem?_set_self AV]),g2,g1,fun j _ _ hj=>g4 j hj,fun _ _ h=>h⟩
   ·exact zKU _ a (by simpa using ha)
   ·rw[hh _ (.inl (by omega))];exact g3.pr
  ·have hp:=hW (q,t) (by simp);simp only at hp;subst hp
   have IW:t∈p.body.flat:=by
    rw[<- hL];simp only[List.reverse_append,List.reverse_cons,List.reverse_nil,List.nil_append,List.flatMap_append,List.flatMap_cons,List.flatMap_nil,List.append_nil,List.mem_append];exact .inr (.inl (Nd.flat_self t))
   have By:=zGP ct.mn ct.pk p.module L [];simp only[List.length_nil]at By;obtain⟨r,h5,x5,CF,rfl,g1',g2',v5,g3',g4',g5'⟩:=zLp s (by omega) A8 M0 Kk hi VJ BL (by omega) (by omega) (by omega) (by omega) g1 g6 g7 hK SD e1 e6 e7 t (Ff t IW) (by omega);refine⟨_,h5,x5,CF,rfl,fun j=>(j<ky+1/\j≠ky)\/ ¬zbg v5 j,ipK t,⟨v5,L++[t],?_,rfl,hZ,.inr fun a ha=> ?_⟩,by simp,fun h'' hh=>zL2 t,g2',g1',fun j j1 j2 j3=> ?_,fun j j1 j2=> ?_⟩
   ·rw[List.foldl_append];exact g3'
   ·rcases List.mem_append.1 ha with ha | ha
    ·exact hW a (List.mem_append_left _ ha)
    ·exact zKU _ a (by simpa using ha)
   ·have j4:zbg v j:=zGt fun e=>j2 (.inr e)
    have j5: ¬(j<ky+1):=fun e=>j2 (.inl ⟨e,j3⟩)
    exact g4' j j1 j4 (by omega) (by omega) j3
   ·exact j2.imp id (g5' j j1)
 ·refine⟨.t .nils,[],⟨Nat.le_refl _,by rw[E8];exact M0,fun _ _ _ _ _=>rfl,.inl ⟨rfl,rfl⟩,fun j _ i n e=>(by cases e),gs,fun _=>rfl⟩,rfl,by simp,.inl rfl⟩
 ·rintro F h3 n3 ⟨v,L,hK,rfl,hL,hW⟩ Tt T7 Vt;have O7:L=p.body.flat:=by simpa using hL
  subst O7;exact hC v h3 n3 hK
theorem zIE {ck:CK} {H:Nat->Option O} {x0 ky ks kp i:Nat} {N:Nat->Prop} {cv:CV} {ct:Ct} {rp:List (List V)} {p:Pr} {vP vL:V} (s:CS ck H x0 N cv ct) (A8:cv.pr= .ms kp 0 rp.length) (M0:H kp=some (.rows 16 rp false)) (Kk:Pw (PrR H x0 N) rp ct.procs) (hi:ct.procs[i]? =some p) (Ap:rp[i]? =some (prw p vP vL (.t .nils)))
 (nk:x0<=ks/\ks<ky) (ND:kp<x0) {v:V} {l:List Int} {h' h7:Nat->Option O} {n' n7:Nat} (I:KI ck H (ky+1) ky ks kp i rp p vP vL l v h' n') (hn:n'<=n7) (hO:zaF h7 n' v 1 (zGk ((sortI l).map fun n=>[ti n]))) (hf: ∀j,zbg v j->j≠ky->h7 j=h' j):
 CS ck h7 n7 (fun j=>N j\/ ¬zbg v j) cv { ct with procs:=ct.procs.set i { p with calls:=sortI l } }/\(∀j,j<ky->j≠kp->j≠ks->h7 j=H j)/\(∀j,j<ky-> ¬(N j\/ ¬zbg v j)\/N j)/\x0<=n7:=by
 have AV:i<rp.length:=(zH.1 Ap).1;have A5:=I.le;have As: ∀j,¬zbg v j->ky+1<=j:=fun j hj=>Nat.le_of_not_lt fun h=>hj (I.fv j h)
 have AG: ∀j,j<ky->j≠kp->j≠ks->h7 j=H j:=fun j j1 j2 j3=>(hf j (I.fv j (by omega)) (by omega)).trans (I.fr j (by omega) j2 j3 (by omega))
 have hN: ∀j,j<x0->N j->h7 j=H j/\(N j\/ ¬zbg v j):=fun j j1 j2=>by
  have kt:Tp ck cv kp:=by
   have : ¬zbg cv.pr kp:=fun e=>by rw[A8]at e;exact e _ _ rfl
   unfold Tp;simp[this]
  exact⟨AG j (by omega) (fun e=>s.nt j j2 (e▸kt)) (by omega),.inl j2⟩
 refine⟨s.setrow (by omega) A8 M0 Kk AV (row:=prw p vP vL v) ?_ ?_ (fun j hj j1=> ?_) (fun _ h=> .inl h) (fun j hj=> ?_) (fun j hj=> ?_),AG,fun j hj=> ?_,by omega⟩
 ·obtain⟨a,b,c,hr,h1,h2,h3⟩:=(Kk.2 i _ p Ap hi).row;unfold prw at hr;simp only[List.cons.injEq,and_true,true_and]at hr;obtain⟨rfl,rfl,_⟩:=hr;refine PrR.of (p:={ p with calls:=sortI l }) ⟨h1.keep (by omega) hN,h2.keep (by omega) hN,zHT (hO.le hn) fun j hj=> .inr hj,fun e=>I.nl ?_⟩;have:=congrArg List.length e;rw[sortI,List.length_mergeSort]at this;exact List.eq_nil_of_length_eq_zero this
 ·rw[hf kp (I.fv kp (by omega)) (by omega)];exact I.pr
 ·have j2:j<x0:=by
   rcases hj with hj | hj
   ·exact(s.at hj).2
   ·exact s.nl j hj
  exact AG j (by omega) j1 (by omega)
 ·rcases hj with hj | hj
  ·exact s.nt j hj
  ·exact s.below (by have:=As j hj;omega)
 ·rcases hj with hj | hj
  ·have:=s.nl j hj;omega
  ·have:=(zGi hO hj).2;omega
 ·by_cases h:N j
  ·exact .inr h
  ·exact .inl fun h2=>h2.elim h fun e=>by have:=As j e;omega
end Rg
end
