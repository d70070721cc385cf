/- Part of the proof of laws of relyguardlaw04. No condition. -/
import Derived.Test.YtmgalfhaeddfbaaNartAM
set_option linter.unusedSimpArgs false
set_option linter.unusedVariables false
section
namespace Rg
open Go
def Ct.wok (ct:Ct):Prop:= ∀p∈ct.procs,(∀v∈p.params,0<=v.w/\v.w<=8)/\p.params.length<2^30
theorem zKX (st:Ct×List ByteArray) (a:Nd): ∃d th,(zGx st a).1= { st.1 with diags:=d,thrs:=th }:=by
 have hr: ∀e p,∃d th,st.1.report e p= { st.1 with diags:=d,thrs:=th }:=fun e p=>by
  obtain⟨d,hd⟩:=zGX st.1 e p;exact⟨d,_,hd⟩
 unfold zGx;split
 ·exact hr _ _
 split
 ·exact hr _ _
 split
 ·exact hr _ _
 split
 ·exact⟨_,_,rfl⟩
 split
 ·exact hr _ _
 split
 ·exact hr _ _
 ·exact⟨_,_,rfl⟩
theorem zHs: ∀(l:List Nd) (st:Ct×List ByteArray),∃d th,(l.foldl zGx st).1= { st.1 with diags:=d,thrs:=th }
 | [],st=>⟨_,_,rfl⟩
 | a::l,st=>by
   obtain⟨d,th,h⟩:=zHs l (zGx st a);obtain⟨d2,th2,h2⟩:=zKX st a;exact⟨d,th,by rw[List.foldl_cons,h,h2]⟩
theorem zJ5 {ck:CK} {h:Nat->Option O} {x:Nat} {N:Nat->Prop} {cv:CV} {ct:Ct} (s:CS ck h x N cv ct) (t:Nd) (hz:t.size<900) (FR:t.sane) (L2:ct.mods.length<2^40) (BL:ct.procs.length<2^40) (UL:ct.wok):
 ∃r h' x',DenR Γ G 610 [.mp ck.c 0 0,(.agg [.t (ti (t).kind),.t (.str (t).name),.t (.str (t).other),.t (ti (t).n),.t (ti (t).len),.t (ti (t).init),.t (tb (t).ghost),.t (.sl ((t).kids.map Nd.enc)),.t (ti (t).pos)])] h x=some (r,h',x')/\ ∃N' cv',CS ck h' x' N' cv' (ct.threads t)/\FrM ck h x N cv h' x' N' cv':=by
 have Dv:t.kids.length<=(t.kids.map Nd.size).sum:=by
  generalize t.kids=l
  induction l with
  | nil=>simp
  | cons b l ih=>have:=b.size_pos;simp only[List.map_cons,List.sum_cons,List.length_cons];omega
 have UP:=Nd.size_eq t;have Qz:=zHt t 61 (by omega);have BY: ∀a∈zGo t 61,a.size<900/\a.sane:=fun a ha=>by have:=Nd.size_kid (List.mem_filter.1 ha).1;exact⟨by omega,FR.kid (List.mem_filter.1 ha).1⟩
 have Mw:(zGo t 61).length<=t.kids.length:=List.length_filter_le _ _;unfold Ct.threads
 generalize zGo t 61=ks at *
 (refine zay Γ610 rfl ?_;dsimp only[zOp])
 simp -dsimp -implicitDefEqProofs only[go_sem,seval,Qz];refine zaq 23384026197294446691258957323460528314494920441792 ks.length (fun i f h' x'=>(f 18).v=vi i/\MsI ck h x N cv (x+1+0) ((ks.take i).foldl zGx (ct,[])) h' x') rfl ?_ ?_
 ·refine⟨by simp -dsimp -implicitDefEqProofs only[go_sem,seval],⟨N,cv,s.loc (by(try simp -dsimp -implicitDefEqProofs only[go_sem,seval]);(try omega)) fun j hj _=>by rw[zaa,if_neg (by omega)],FrM.refl.loc (by(try simp -dsimp -implicitDefEqProofs only[go_sem,seval]);(try omega)) fun j hj=>by rw[zaa,if_neg (by omega)],s.below (by omega),fun h=>by have:=s.nl _ h;omega⟩,by rw[zaa,if_pos rfl];rfl,by(try simp -dsimp -implicitDefEqProofs only[go_sem,seval]);(try omega)⟩
 rintro i f u H1 x1 bb hi ⟨g,⟨N1,cv1,s1,f1,t1,t2⟩,Ho,Ad⟩
 by_cases AV:i<ks.length
 rotate_left
 ·have h1:=eq_false AV;have:i=ks.length:=by omega
  subst this;rw[List.take_length]at s1;simp -dsimp -implicitDefEqProofs only[go_sem,seval,g,h1];exact⟨N1,cv1,s1.le (by(try simp -dsimp -implicitDefEqProofs only[go_sem,seval]);(try omega)),f1.loc (by(try simp -dsimp -implicitDefEqProofs only[go_sem,seval]);(try omega)) fun _ _=>rfl⟩
 have h1:=eq_true AV;obtain⟨a,ha,Cp⟩:=zai AV;have hw:=zan i (by omega);have Bj:(ks.map Nd.enc)[i]? =some a.enc:=by rw[zJ,ha];rfl
 have LC:(ks.take (i+1)).foldl zGx (ct,[])=zGx ((ks.take i).foldl zGx (ct,[])) a:=by rw[zaf ha,List.foldl_append];rfl
 rw[LC];obtain⟨dd,tt,BJ⟩:=zHs (ks.take i) (ct,[])
 generalize AE:(ks.take i).foldl zGx (ct,[])=st at *
 have e1:st.1.mods=ct.mods:=by rw[BJ]
 have e2:st.1.procs=ct.procs:=by rw[BJ]
 have hc:=s1.hc;have D2:=zIQ zGZ a.name st.2;obtain⟨V0,Dt⟩:=BY a Cp;have Be:=Dt.self.other
 have rep: ∀{h2:Nat->Option O} {x2 y:Nat} {v2:V} {ct2:Ct},CS ck h2 x2 N1 { cv1 with d:=v2 } ct2->FrM ck H1 x1 N1 cv1 h2 x2 N1 { cv1 with d:=v2 }->x2<=y->MsI ck h x N cv (x+1+0) (ct2,st.2) h2 y:=fun s2 f2 hy=>
  ⟨⟨_,_,s2.le hy,(f1.trans f2).loc hy fun _ _=>rfl,fun ht=>t1 (f2.tp _ Ad ht),t2⟩,by rw[f2.kp _ Ad t1];exact Ho,by have:=f2.le;omega⟩
 obtain⟨rm,m1,m2⟩:=s1.mo;obtain⟨rp,p1,p2⟩:=s1.pr;obtain⟨rt,q1,q2⟩:=s1.th;have v1:=m1.valOf;have v2:=s1.va.valOf;have v3:=s1.lo.valOf;have v4:=p1.valOf;have v5:=q1.valOf;simp -dsimp -implicitDefEqProofs only[go_sem,seval,g,h1,Bj,Nd.enc_eq,hc,v1,v2,v3,v4,v5];refine zas (zMe s1 (by rw[e1];exact L2) (by rw[e2];exact BL) (-1) a.other (by omega)) ?_;rintro r H2 x2 ⟨rfl,rfl,ML⟩
 by_cases c1:zG5 st.2 a.name=true
 ·rw[c1]at D2;have FY:zGx st a=(st.1.report 41 a.pos,st.2):=by unfold zGx;rw[if_pos c1]
  rw[FY];simp -dsimp -implicitDefEqProofs only[go_sem,seval,Ho,D2,if_true,Option.getD_some,hc];refine zas (zvH s1 (by omega) 41 a) ?_;rintro r h3 x3 ⟨d3,s3,f3⟩;simp -dsimp -implicitDefEqProofs only[go_sem,seval,g,hw];refine⟨AV,by simp -dsimp -implicitDefEqProofs only[go_sem,seval],?_⟩;simp -dsimp -implicitDefEqProofs only[go_sem,seval];exact rep s3 f3.m (by(try simp -dsimp -implicitDefEqProofs only[go_sem,seval]);(try omega))
 have c1':=Bool.eq_false_iff.2 c1;rw[c1']at D2;have v6:=q1.lenS;rw[q2.1]at v6
 by_cases c2:st.1.thrs.length>=4
 ·have c2':((st.1.thrs.length:Int)>=4)=True:=eq_true (by omega);have FY:zGx st a=(st.1.report 2 a.pos,st.2):=by unfold zGx;rw[if_neg c1,if_pos c2]
  rw[FY];simp -dsimp -implicitDefEqProofs only[go_sem,seval,Ho,D2,zG,if_false,Option.getD_none,hc,v5,v6,c2'];refine zas (zvH s1 (by omega) 2 a) ?_;rintro r h3 x3 ⟨d3,s3,f3⟩;simp -dsimp -implicitDefEqProofs only[go_sem,seval,g,hw];refine⟨AV,by simp -dsimp -implicitDefEqProofs only[go_sem,seval],?_⟩;simp -dsimp -implicitDefEqProofs only[go_sem,seval];exact rep s3 f3.m (by(try simp -dsimp -implicitDefEqProofs only[go_sem,seval]);(try omega))
 have c2':((st.1.thrs.length:Int)>=4)=False:=eq_false (by omega)
 by_cases c3:(st.1.procOf (-1) a.other).2≠0
 ·have c3':((st.1.procOf (-1) a.other).2=0)=False:=eq_false c3;have FY:zGx st a=(st.1.report 40 a.pos,st.2):=by unfold zGx;rw[if_neg c1,if_neg c2,if_pos c3]
  rw[FY];simp -dsimp -implicitDefEqProofs only[go_sem,seval,Ho,D2,zG,if_false,Option.getD_none,hc,v5,v6,c2',c3'];refine zas (zvH s1 (by omega) 40 a) ?_;rintro r h3 x3 ⟨d3,s3,f3⟩;simp -dsimp -implicitDefEqProofs only[go_sem,seval,g,hw];refine⟨AV,by simp -dsimp -implicitDefEqProofs only[go_sem,seval],?_⟩;simp -dsimp -implicitDefEqProofs only[go_sem,seval];exact rep s3 f3.m (by(try simp -dsimp -implicitDefEqProofs only[go_sem,seval]);(try omega))
 have c3n:(st.1.procOf (-1) a.other).2=0:=Classical.byContradiction c3;have c3':((st.1.procOf (-1) a.other).2=0)=True:=eq_true c3n;obtain⟨j,hj,AN⟩:=zIY c3n;have U9:j<st.1.procs.length:=by simpa[Ct.pk]using AN
 obtain⟨p,hp,IV⟩:=zai U9;have To:(st.1.procOf (-1) a.other).1=j:=hj;rcases p1 with⟨_,D7⟩ | ⟨kp,A8,RK,M0⟩
 ·have:=p2.1;rw[D7]at this;simp at this;omega
 obtain⟨row,Ap,_⟩:=zai (l:=rp) (i:=j) (by rw[p2.1];exact U9);obtain⟨vP,vL,vC,rfl,Tb,T2,Ts⟩:=p2.2 j _ p Ap hp;simp only[Nd.enc_eq,List.map_cons,List.map_nil,List.cons_append,List.nil_append]at Ap;have w1:((j:Int)<(rp.length:Int))=True:=eq_true (by have:=p2.1;omega);have sP:=zJl Tb (fun e he=>by obtain⟨q,_,rfl⟩:=List.mem_map.1 he;rfl);have u1:=sP.vl;have u2:=sP.ln;rw[show(zGk (p.params.map Va.enc)).length=p.params.length by simp]at u2;rw[A8]at hc;simp -dsimp -implicitDefEqProofs only[go_sem,seval,Ho,D2,zG,if_false,Option.getD_none,hc,v5,v6,c2',c3',To,A8,M0,Ap,w1,u1,u2]
 have Tx: ∀X,(match zHq a p with
  | some j=>(st.1.report 50 (a.kids.getD j .noneN).pos,st.2)
  | none=>({ st.1 with thrs:=st.1.thrs++[⟨a.name,j,a.kids.map Nd.n,decide (a.n=1),a.pos⟩] },st.2++[a.name]))=X->a.kids.length=p.params.length->zGx st a=X:=fun X hX hl=>by
  unfold zGx;rw[if_neg c1,if_neg c2,if_neg c3,To];simp only[Int.toNat_natCast,hp];rw[if_neg (fun h=>h hl)];exact hX
 by_cases c4:a.kids.length=p.params.length
 rotate_left
 ·have c4':((a.kids.length:Int)=(p.params.length:Int))=False:=eq_false (by omega)
  have FY:zGx st a=(st.1.report 43 a.pos,st.2):=by
   unfold zGx;rw[if_neg c1,if_neg c2,if_neg c3,To];simp only[Int.toNat_natCast,hp];rw[if_pos c4]
  rw[FY];simp -dsimp -implicitDefEqProofs only[go_sem,seval,c4',hc];refine zas (zvH s1 (by omega) 43 a) ?_;rintro r h3 x3 ⟨d3,s3,f3⟩;simp -dsimp -implicitDefEqProofs only[go_sem,seval,g,hw];refine⟨AV,by simp -dsimp -implicitDefEqProofs only[go_sem,seval],?_⟩;simp -dsimp -implicitDefEqProofs only[go_sem,seval];exact rep s3 f3.m (by(try simp -dsimp -implicitDefEqProofs only[go_sem,seval]);(try omega))
 have c4':((a.kids.length:Int)=(p.params.length:Int))=True:=eq_true (by omega);have Vp:=Nd.size_eq a
 have TN:a.kids.length<=(a.kids.map Nd.size).sum:=by
  generalize a.kids=l
  induction l with
  | nil=>simp
  | cons b l ih=>have:=b.size_pos;simp only[List.map_cons,List.sum_cons,List.length_cons];omega
 simp -dsimp -implicitDefEqProofs only[go_sem,seval,c4',hc,M0,Ap,w1,u1,u2];refine zaq 87112285607241692988197172719376641571840 a.kids.length (fun c f' h' x'=>(f' 108).v=vi c/\(f' 11).v=vi (-1)/\(f' 10).v= .lb/\ ∃v,(f' 10).box=some [.t (.str a.name),.t (ti j),v,.t (tb (decide (a.n=1))),.t (ti a.pos)]/\zaF h' x' v 1 (zGk ((a.kids.take c).map fun q=>[ti q.n]))/\x1<=x'/\(∀j,j<x1->h' j=H2 j)/\(∀j,j<x1->zbg v j)/\ ∀(j:Nat) (q:Nd) (v:Va),j<c->a.kids[j]? =some q->p.params[j]? =some v->zIO (q,v)=true) rfl ?_ ?_
 ·refine⟨by simp -dsimp -implicitDefEqProofs only[go_sem,seval],by simp -dsimp -implicitDefEqProofs only[go_sem,seval],by simp -dsimp -implicitDefEqProofs only[go_sem,seval],.t .nils,by simp -dsimp -implicitDefEqProofs only[go_sem,seval];(try rfl),.inl ⟨rfl,rfl⟩,by(try simp -dsimp -implicitDefEqProofs only[go_sem,seval]);(try omega),fun _ _=>rfl,fun j _ i n e=>(by cases e),fun j q v hj=>by omega⟩
 rintro c f' u' H3 x3 b3 Oi ⟨j108,j11,j10,v,jb,hO,S1,B4,Bn,Bm⟩;have Bz:H3 ck.c=_:=(B4 _ s1.lt.1).trans hc;have s3:=s1.loc S1 fun j hj _=>B4 j hj
 by_cases By:c<a.kids.length
 rotate_left
 ·have e3:=eq_false By;have O1:c=a.kids.length:=by omega
  subst O1;rw[List.take_length]at hO;have Aa:zHq a p=none:=zKB fun j q v hq hv=>Bm j q v (zH.1 hq).1 hq hv
  have FY:=Tx _ (by rw[Aa]) c4;have Ud:H3 (x+1+0)=_:=(B4 _ Ad).trans Ho;have Gy:=zLr zGZ a.name st.2 c1';have FG:(ck.c=x+1+0)=False:=eq_false fun e=>t1 (by rw[<- e];exact .inl rfl)
  have q3:=q1.keep S1 fun j j1 _=>B4 j j1
  have K0:zbg cv1.th (x+1+0):=zHH q1 Ho
  have q3m: ∀z,zaF (updC H3 (x+1+0) z) x3 cv1.th 5 rt:=fun z=>q3.keep (Nat.le_refl _) fun j j1 j2=>by
   rw[zaa,if_neg];rintro rfl;exact j2 K0
  have y1:=hO.valOf;have y3: ∀z (b c d e:Nat) z',Rg.rowsS (updC (updC H3 (x+1+0) z) (x3+b+c+d+e) z') cv1.th=some rt:=fun z b c d e z'=>((q3m z).upd (by omega) z').rowsS
  simp -dsimp -implicitDefEqProofs only[go_sem,seval,j108,e3,j11,Ud,Gy,FG,Bz,v5,j10,jb,y1,y3];have O2:zaF H3 x3 v 1 (zGk ((a.kids.map Nd.n).map fun n=>[ti n])):=by rw[List.map_map];exact hO
  have DM:=q2.len fun _ _ o=>o.len
  refine zav ((q3m _).upd (by omega) _) (by omega) (by rw[q2.1];omega) (by decide) rfl (List.all_eq_true.2 fun r hr=>by simp[DM r hr]) ?_;intro v9 Ta G1 Bp Aq;have z1:=G1.valOf;have z2:=zGv G1;unfold V.cells at z2;have lc:=s1.lt.1;have Ky:zbg cv1.th ck.c:=zGA q1 hc (by decide);have M5:=Aq ck.c (by omega) Ky;rw[zaa,if_neg (by omega),zaa,if_neg (fun e=>by simp[FG]at e),Bz]at M5;simp -dsimp -implicitDefEqProofs only[go_sem,seval,z1,z2,M5,g,hw];refine⟨AV,by simp -dsimp -implicitDefEqProofs only[go_sem,seval],?_⟩;simp -dsimp -implicitDefEqProofs only[go_sem,seval];rw[FY]
  have sm:CS ck (updC H2 (x+1+0) (some (.map (zHu T.str (st.2++[a.name]))))) x1 N1 cv1 st.1:=s1.loc (Nat.le_refl _) fun j _ hj=>by
   rw[zaa,if_neg];rintro rfl;exact hj.elim t1 t2
  have fin: ∀{hF:Nat->Option O} {xF:Nat} {v9:V} {ct2:Ct},CS ck hF xF (fun j=>N1 j\/ ¬zbg v j) { cv1 with th:=v9 } ct2/\FrC ck (updC H2 (x+1+0) (some (.map (zHu T.str (st.2++[a.name]))))) x1 N1 cv1 hF xF (fun j=>N1 j\/ ¬zbg v j) { cv1 with th:=v9 }->
   MsI ck h x N cv (x+1+0) (ct2,st.2++[a.name]) hF xF:=fun⟨s4,f4⟩=>
   ⟨⟨_,_,s4,(f1.loc (Nat.le_refl _) fun j hj=>by rw[zaa,if_neg (by omega)]).trans f4.m,fun ht=>t1 (f4.tp _ Ad ht),fun hn=>t2 (f4.nn _ Ad hn)⟩,by rw[f4.kp _ Ad t1,zaa,if_pos rfl],by have:=f4.le;omega⟩
  have CJ:=fun(j:Nat) (j1:j<x3) (j2:j≠x+1+0) (j3:zbg cv1.th j)=>(Aq j (by omega) j3).trans (by rw[zaa,if_neg (by omega),zaa,if_neg j2])
  refine fin (sm.setth ?_ ?_ ⟨_,zaF.keep (rows:=_) G1 ?_ fun q z1 z2=> ?_,(q2.imp fun _ _ o=>o.keep ?_ fun j j1 j2=> ?_).snoc ⟨v,rfl,zHT (O2.keep ?_ fun j j1 j2=> ?_) fun j hj=> .inr hj⟩⟩ (fun j hj=>Bp j (by omega)) (fun j j1 j2 j3=> ?_) (fun j hj=>Or.inl hj) (fun j j1 hj=>hj.elim id fun e=>absurd (Bn j j1) e) (fun j hj=>⟨?_,Bp j ?_⟩))
  ·(try simp -dsimp -implicitDefEqProofs only[go_sem,seval]);(try omega)
  ·rw[zaa,if_pos rfl,A8]
  ·(try simp -dsimp -implicitDefEqProofs only[go_sem,seval]);(try omega)
  ·rw[zaa,if_neg];rintro rfl;exact z2 (Bp _ (by omega))
  ·(try simp -dsimp -implicitDefEqProofs only[go_sem,seval]);(try omega)
  ·have j3:j≠ck.c:=fun e=>s1.nt j j2 (.inl e)
   have j4:zbg cv1.th j:=zGt fun e=>s1.nt j j2 (by unfold Tp;simp[e])
   exact⟨by rw[zaa,if_neg j3,CJ j (by omega) (fun e=>t2 (e▸j2)) j4];exact B4 j j1,.inl j2⟩
  ·(try simp -dsimp -implicitDefEqProofs only[go_sem,seval]);(try omega)
  ·have jx:x1<=j:=Nat.le_of_not_lt fun h=>j2 (Bn j h)
   rw[zaa,if_neg (by omega),CJ j j1 (by omega) (q1.off jx)]
  ·rw[zaa,if_neg j2,Aq j (by omega) j3,zaa,if_neg (by omega),zaa,zaa];split
   ·rfl
   ·exact B4 j j1
  ·rcases hj with hj | hj
   ·have:=s1.nl j hj
    (try simp -dsimp -implicitDefEqProofs only[go_sem,seval]);(try omega)
   ·have:=(zGi hO hj).2
    (try simp -dsimp -implicitDefEqProofs only[go_sem,seval]);(try omega)
  ·rcases hj with hj | hj
   ·have:=s1.nl j hj;omega
   ·have:=(zGi hO hj).2;omega
 have e3:=eq_true By;obtain⟨q,hq,PZ⟩:=zai By;have SX:(a.kids.map Nd.enc)[c]? =some q.enc:=by rw[zJ,hq];rfl
 obtain⟨vv,Bs,Kg⟩:=zai (l:=p.params) (i:=c) (by omega);have Gl:=zan c (by omega)
 have bad:zIO (q,vv)=false->zGx st a=(st.1.report 50 q.pos,st.2):=fun ho=>Tx _ (by
  rw[zKA hq Bs ho Bm]
  simp[List.getD,hq]) c4
 by_cases k1:q.kind=1
 rotate_left
 ·have k1':=eq_false k1;rw[bad (by simp[zIO,k1])];simp -dsimp -implicitDefEqProofs only[go_sem,seval,j108,e3,SX,Nd.enc_eq,k1',j11,Bz];refine zas (zvH s3 (by omega) 50 q) ?_;rintro r h4 x4 ⟨d4,s4,f4⟩;simp -dsimp -implicitDefEqProofs only[go_sem,seval,g,hw];refine⟨AV,by simp -dsimp -implicitDefEqProofs only[go_sem,seval],?_⟩;simp -dsimp -implicitDefEqProofs only[go_sem,seval];exact rep s4 (f4.pre S1 B4).m (by(try simp -dsimp -implicitDefEqProofs only[go_sem,seval]);(try omega))
 have k1':=eq_true k1;rcases Tb with⟨_,he⟩ | ⟨kq,fq,rfl,Te,Uh,Td⟩
 ·have:=congrArg List.length he;simp only[List.length_map,List.length_nil]at this;omega
 have I4:=(B4 _ Te).trans Td;have DY:(zGk (p.params.map Va.enc))[c]? =some [.t (.str vv.name),.t (ti vv.w),.t (ti vv.len),.t (ti vv.init),.t (tb vv.ghost),.t (ti vv.module),.t (ti vv.pos)]:=by rw[zGk,zJ,zJ,Bs];rfl
 have w2:(c<p.params.length)=True:=eq_true (by omega);have Kb:=(UL p (by rw[<- e2];exact IV)).1 vv Kg;have Pp:=zJo q.n vv.w Kb.1 Kb.2
 by_cases hf:zhA q.n vv.w=true
 rotate_left
 ·have JO:=Bool.eq_false_iff.2 hf;rw[bad (by simp[zIO,JO])];simp -dsimp -implicitDefEqProofs only[go_sem,seval,j108,e3,SX,Nd.enc_eq,k1',I4,DY,w2,Pp,JO,j11,Bz];refine zas (zvH s3 (by omega) 50 q) ?_;rintro r h4 x4 ⟨d4,s4,f4⟩;simp -dsimp -implicitDefEqProofs only[go_sem,seval,g,hw];refine⟨AV,by simp -dsimp -implicitDefEqProofs only[go_sem,seval],?_⟩;simp -dsimp -implicitDefEqProofs only[go_sem,seval];exact rep s4 (f4.pre S1 B4).m (by(try simp -dsimp -implicitDefEqProofs only[go_sem,seval]);(try omega))
 have y1:=hO.valOf;have y2:=hO.r2;have y3:=hO.r3;have y4:=hO.r4;have y5:=hO.r5;simp -dsimp -implicitDefEqProofs only[go_sem,seval,j108,e3,SX,Nd.enc_eq,k1',I4,DY,w2,Pp,hf,j11,Bz,j10,jb,y1,y2,y3,y4,y5]
 refine zav (hO.upd (by omega) _) (by omega) (by simp only[zGk,List.length_map,List.length_take];omega) (by decide) rfl (List.all_eq_true.2 fun r hr=>by
  obtain⟨z,hz,rfl⟩:=List.mem_map.1 hr;obtain⟨z,hz,rfl⟩:=List.mem_map.1 hz
  rfl) ?_
 intro v9 Ta G1 Bp Aq;have z1:=G1.valOf;have z2:=zGv G1;unfold V.cells at z2;simp -dsimp -implicitDefEqProofs only[go_sem,seval,z1,z2,j108,Gl,j10,jb];refine⟨By,by simp -dsimp -implicitDefEqProofs only[go_sem,seval],by simp -dsimp -implicitDefEqProofs only[go_sem,seval,j11],by simp -dsimp -implicitDefEqProofs only[go_sem,seval,j10],v9,by simp -dsimp -implicitDefEqProofs only[go_sem,seval,jb];(try rfl),?_,?_,fun j hj=> ?_,fun j hj=>Bp j (by omega),fun j q' v' hj h1 h2=> ?_⟩
 ·rw[zaf hq,List.map_append,zGk,List.map_append];simp -dsimp -implicitDefEqProofs only[go_sem,seval];exact zaF.le G1 (by(try simp -dsimp -implicitDefEqProofs only[go_sem,seval]);(try omega))
 ·(try simp -dsimp -implicitDefEqProofs only[go_sem,seval]);(try omega)
 ·simp -dsimp -implicitDefEqProofs only[go_sem,seval];rw[Aq j (by omega) (Bn j hj),zaa,if_neg (by omega)];exact B4 j hj
 ·by_cases ST:j=c
  ·subst ST;rw[hq]at h1;rw[Bs]at h2;cases h1;cases h2;simp[zIO,k1,hf]
  ·exact Bm j q' v' (by omega) h1 h2
end Rg
end
section
namespace Rg
open Go
theorem zNE {α:Type} [DecidableEq α] {f:α->T} (hf: ∀a b,zeu (f a) (f b)=some (decide (a=b))) (a:α): ∀l:List α,zbF (f a) (vb true) (zHu f l)=some (zHu f (if zG5 l a=true then l else l++[a]))
 | []=>rfl
 | b::l=>by
   have ih:=zNE hf a l;rw[zHu]at ih;rw[zHu,List.map_cons,zbF,hf]
   by_cases h1:a=b
   ·subst h1;simp[zG5]
   ·have h2: ¬b=a:=fun e=>h1 e.symm
    have h3:zG5 (b::l) a=zG5 l a:=by simp[zG5,h2]
    rw[h3]
    by_cases h4:zG5 l a=true
    ·simp[h1,h4]at ih⊢;exact ih
    ·simp[h1,h4]at ih⊢;exact ih
def prw (p:Pr) (vP vL v:V):List V:=[.t (.str p.name),.t (ti p.module),vP,vL,.t (.str p.locked),.t (ti p.body.kind),.t (.str p.body.name),.t (.str p.body.other),.t (ti p.body.n),.t (ti p.body.len),.t (ti p.body.init),.t (tb p.body.ghost),.t (.sl (p.body.kids.map Nd.enc)),.t (ti p.body.pos),v,.t (ti p.pos)]
theorem PrR.row {h:Nat->Option O} {x:Nat} {N:Nat->Prop} {row:List V} {p:Pr} (o:PrR h x N row p): ∃vP vL vC,row=prw p vP vL vC/\Nst h x N vP 7 (p.params.map Va.enc)/\Nst h x N vL 7 (p.locals.map Va.enc)/\Nst h x N vC 1 (p.calls.map fun n=>[ti n])/\(p.calls=[]->vC= .t .nils):=by
 obtain⟨vP,vL,vC,h1,h2⟩:=o;exact⟨vP,vL,vC,by rw[h1];simp[prw,Nd.enc_eq],h2⟩
theorem PrR.of {h:Nat->Option O} {x:Nat} {N:Nat->Prop} {p:Pr} {vP vL vC:V} (h2:Nst h x N vP 7 (p.params.map Va.enc)/\Nst h x N vL 7 (p.locals.map Va.enc)/\Nst h x N vC 1 (p.calls.map fun n=>[ti n])/\(p.calls=[]->vC= .t .nils)):PrR h x N (prw p vP vL vC) p:=
 ⟨vP,vL,vC,by simp[prw,Nd.enc_eq],h2⟩
structure KI (ck:CK) (H:Nat->Option O) (xs ky ks kp i:Nat) (rp:List (List V)) (p:Pr) (vP vL:V) (l:List Int) (v:V) (h:Nat->Option O) (x:Nat):Prop where
 le:xs<=x
 pr:h kp=some (.rows 16 (rp.set i (prw p vP vL v)) false)
 fr: ∀j,j<xs->j≠kp->j≠ks->j≠ky->h j=H j
 ow:zaF h x v 1 (zGk (l.map fun n=>[ti n]))
 fv: ∀j,j<xs->zbg v j
 ms:h ks=some (.map (zHu ti l))
 nl:l=[]->v= .t .nils
theorem KI.keep {ck:CK} {H:Nat->Option O} {xs ky ks kp i:Nat} {rp:List (List V)} {p:Pr} {vP vL:V} {l:List Int} {v:V} {h h':Nat->Option O} {x x':Nat} (I:KI ck H xs ky ks kp i rp p vP vL l v h x) (hx:x<=x') (h1:kp<xs/\kp≠ky/\ks<xs/\ks≠ky) (hh: ∀j,(j<xs/\j≠ky)\/ ¬zbg v j->h' j=h j):KI ck H xs ky ks kp i rp p vP vL l v h' x':=
 ⟨Nat.le_trans I.le hx,by rw[hh _ (.inl ⟨h1.1,h1.2.1⟩)];exact I.pr,fun j j1 j2 j3 j4=>(hh j (.inl ⟨j1,j4⟩)).trans (I.fr j j1 j2 j3 j4),I.ow.keep hx fun j _ hj=>hh j (.inr hj),I.fv,by rw[hh _ (.inl ⟨h1.2.2.1,h1.2.2.2⟩)];exact I.ms,I.nl⟩
theorem zNB {rp:List (List V)} {ps:List Pr} {p:Pr} {h:Nat->Option O} {x:Nat} {N:Nat->Prop} {vP vL v:V} (h2:Pw (PrR h x N) rp ps) {i:Nat} (hp:ps[i]? =some p):
 Pw (fun row (k:Key)=> ∃rest,row= .t (.str k.2):: .t (ti k.1)::rest/\rest.length=14) (rp.set i (prw p vP vL v)) (ps.map fun p=>(p.module,p.name)):=by
 refine⟨by simp[h2.1],fun j row k hr hk=> ?_⟩;rw[zJ]at hk
 cases hq:ps[j]? with
 | none=>rw[hq]at hk;cases hk
 | some q=>
   rw[hq]at hk;cases hk
   by_cases Av:i=j
   ·subst Av;rw[hp]at hq;cases hq;rw[List.getElem?_set_self' ]at hr
    cases BC:rp[i]? with
    | none=>rw[BC]at hr;cases hr
    | some r0=>rw[BC]at hr;cases hr;exact⟨_,rfl,rfl⟩
   ·rw[List.getElem?_set_ne Av]at hr;obtain⟨a,b,c,h3,_⟩:=(h2.2 j row q hr hq).row;exact⟨_,h3,rfl⟩
theorem zM1 {rp:List (List V)} {ps:List Pr} {p:Pr} {h:Nat->Option O} {x:Nat} {N:Nat->Prop} {vP vL v:V} (h2:Pw (PrR h x N) rp ps) (i:Nat): ∀r∈rp.set i (prw p vP vL v),r.length=16:=fun r hr=>by
 rcases List.mem_or_eq_of_mem_set hr with hr | rfl
 ·exact h2.len (fun _ _ o=>o.len) r hr
 ·rfl
theorem zLp {ck:CK} {H:Nat->Option O} {x0 xs ky ks k1 k6 k7 kp i:Nat} {N:Nat->Prop} {cv:CV} {ct:Ct} {rp:List (List V)} {p:Pr} {vP vL:V} {l:List Int} {v:V} {h:Nat->Option O} {x:Nat} {env:Nat->V}
 (s:CS ck H x0 N cv ct) (Uy:x0<=xs) (A8:cv.pr= .ms kp 0 rp.length) (M0:H kp=some (.rows 16 rp false)) (Kk:Pw (PrR H x0 N) rp ct.procs) (hi:ct.procs[i]? =some p) (L2:ct.mods.length<2^40) (BL:ct.procs.length<2^40)
 (n1:k1<xs/\k1≠kp/\k1≠ks/\k1≠ky) (n6:k6<xs/\k6≠kp/\k6≠ks/\k6≠ky) (n7:k7<xs/\k7≠kp/\k7≠ks/\k7≠ky) (nk:x0<=ks/\ks<xs/\ks≠ky/\x0<=ky/\ky<xs)
 (g1:H k1=some (.rows 1 [[.mp ck.c 0 0]] false)) (g6:H k6=some (.rows 1 [[.mp kp i 0]] false)) (g7:H k7=some (.rows 1 [[.mm ks]] false)) (I:KI ck H xs ky ks kp i rp p vP vL l v h x)
 (DA:h ky=some (.loop env [79] zH8 .ready)) (e1:env 1= .mp k1 0 0) (e6:env 6= .mp k6 0 0) (e7:env 7= .mp k7 0 0) (a:Nd) (ha:a.okN) (hl:l.length<2^30):
 ∃r h2 x2,DenY Γ G ky [.t (.ip a.enc)] h x=some (r,h2,x2)/\(r=vb true/\h2 ky=some (.loop env [79] zH8 .ready)/\x<=x2/\ ∃v2,KI ck H xs ky ks kp i rp p vP vL (zGy ct.mn ct.pk p.module l a) v2 h2 x2/\(∀j,j<x->zbg v j->j≠kp->j≠ks->j≠ky->h2 j=h j)/\(∀j,j<x-> ¬zbg v2 j-> ¬zbg v j)):=by
 obtain⟨rp2,p1,p2⟩:=s.pr
 have kx:kp<x0/\kp≠ck.c/\zbg cv.mo kp:=by
  rw[A8]at p1;rcases p1 with⟨e,_⟩ | ⟨k,e,e2,e3⟩
  ·cases e
  ·injection e with e
   subst e;refine⟨by omega,fun e=> ?_,?_⟩
   ·rw[e,s.hc]at M0;cases M0
   ·obtain⟨rm,m1,_⟩:=s.mo;exact zGA m1 M0 (by decide)
 have kn:kp≠ky/\kp≠ks:=by omega
 have As:=I.fv ky (by omega);have A5:=I.le;have lc:=s.lt.1;have f1:(k1=ky)=False:=eq_false n1.2.2.2;have f6:(k6=ky)=False:=eq_false n6.2.2.2;have f7:(k7=ky)=False:=eq_false n7.2.2.2;have fp:(kp=ky)=False:=eq_false kn.1;have fc:(ck.c=ky)=False:=eq_false (by omega);have fs:(ks=ky)=False:=eq_false nk.2.2.1;have d1:=(I.fr k1 n1.1 n1.2.1 n1.2.2.1 n1.2.2.2).trans g1;have d6:=(I.fr k6 n6.1 n6.2.1 n6.2.2.1 n6.2.2.2).trans g6;have d7:=(I.fr k7 n7.1 n7.2.1 n7.2.2.1 n7.2.2.2).trans g7;have dc:=(I.fr ck.c (by omega) (fun e=>kx.2.1 e.symm) (by omega) (by omega)).trans s.hc;have dp:=I.pr;have ds:=I.ms;have AV:i<rp.length:=by rw[Kk.1];exact(zH.1 hi).1
 have Ap:(rp.set i (prw p vP vL v))[i]? =some (prw p vP vL v):=by rw[List.getElem?_set_self AV]
 obtain⟨R,hR⟩: ∃R,R=rp.set i (prw p vP vL v):=⟨_,rfl⟩
 rw[<- hR]at dp Ap;unfold prw at Ap;obtain⟨rm,m1,m2⟩:=s.mo;have v1:=m1.valOf;have v2:=s.va.valOf;have v3:=s.lo.valOf;have v4:=p1.valOf;have v5:valOf cv.th=some cv.th:=by obtain⟨rt,q1,_⟩:=s.th;exact q1.valOf
 have Un: ∀y z z',∃r h' x',DenR Γ G 604 [.agg [cv.mo,cv.va,cv.lo,cv.pr,cv.th],vi p.module,.t (.str a.name)] (updC (updC h ky z) ky z') y=some (r,h',x')/\(r= .tup [vi (ct.procOf p.module a.name).1,vi (ct.procOf p.module a.name).2]/\h'=updC (updC h ky z) ky z'/\y<=x'):=fun y z z'=>by
  have EG:zaF (updC (updC h ky z) ky z') x cv.mo 22 rm:=m1.keep (by have:=I.le;omega) fun k kk1 hv=>by
   rw[zaa,if_neg (by omega),zaa,if_neg (by omega)];exact I.fr k (by omega) (fun e=>hv (e▸kx.2.2)) (by omega) (by omega)
  have DN:zaF (updC (updC h ky z) ky z') x cv.pr 16 (rp.set i (prw p vP vL v)):=.inr ⟨kp,by rw[A8,List.length_set],by have:=I.le;omega,by rw[zaa,if_neg kn.1,zaa,if_neg kn.1,dp,hR]⟩
  exact zIX (zHh EG (m2.len fun _ _ o=>o.len)) (zHh DN (zM1 Kk i)) (m2.mapR fun row q o=>by
   obtain⟨v,rfl,_⟩:=o
   exact⟨_,rfl,by simp[zGz]⟩) (zNB Kk hi) (by rw[m2.1];omega) (by rw[List.length_set,Kk.1];omega) p.module a.name (by have:=ha.name;omega)
 have:=zjy (Γ:=Γ) (G:=G) (vs:=[.t (.ip a.enc)]) (n:=x) (P:=fun ex h2 n'=>ex= .normal/\h2 ky=some (.loop env [79] zH8 .busy)/\x<=n'/\ ∃v2,KI ck H xs ky ks kp i rp p vP vL (zGy ct.mn ct.pk p.module l a) v2 h2 n'/\(∀j,j<x->zbg v j->j≠kp->j≠ks->j≠ky->h2 j=h j)/\(∀j,j<x-> ¬zbg v2 j-> ¬zbg v j)) DA rfl (fun ex h2 n' hP=>⟨_,_,_,hP.2.1⟩) (by
  have same: ∀{z z':Option O} {y:Nat},zGy ct.mn ct.pk p.module l a=l->x<=y-> ∃v2,KI ck H xs ky ks kp i rp p vP vL (zGy ct.mn ct.pk p.module l a) v2 (updC (updC h ky z) ky z') y/\(∀j,j<x->zbg v j->j≠kp->j≠ks->j≠ky->updC (updC h ky z) ky z' j=h j)/\(∀j,j<x-> ¬zbg v2 j-> ¬zbg v j):=fun Bi hy=>by
   rw[Bi];refine⟨v,I.keep hy ⟨by omega,kn.1,nk.2.1,nk.2.2.1⟩ fun j hj=> ?_,fun j _ _ _ _ hj=> ?_,fun _ _ h=>h⟩
   ·have:j≠ky:=by
     rintro rfl;rcases hj with hj | hj
     ·exact hj.2 rfl
     ·exact hj As
    rw[zaa,if_neg this,zaa,if_neg this]
   ·rw[zaa,if_neg hj,zaa,if_neg hj]
  by_cases hk:a.kind=33
  rotate_left
  ·have AT:(a.kind=33)=False:=eq_false hk;simp -dsimp -implicitDefEqProofs only[go_sem,seval,Nd.enc_eq,AT];refine⟨rfl,?_,by(try simp -dsimp -implicitDefEqProofs only[go_sem,seval]);(try omega),?_⟩
   ·(try simp only[zaC,zaA])
    rw[zaa,if_pos rfl];rfl
   ·(try simp only[zaC,zaA])
    exact same (by unfold zGy;rw[if_neg (fun h=>hk h.1)]) (by(try simp -dsimp -implicitDefEqProofs only[go_sem,seval]);(try omega))
  have AT:(a.kind=33)=True:=eq_true hk;simp -dsimp -implicitDefEqProofs only[go_sem,seval,Nd.enc_eq,AT,e1,e6,e7,f1,f6,f7,fp,fc,fs,d1,d6,d7,dc,dp,Ap,v1,v2,v3,v4,v5];refine zas (Un _ _ _) ?_;rintro r h2 x2 ⟨rfl,rfl,ML⟩
  by_cases c1:(ct.procOf p.module a.name).2=0
  rotate_left
  ·have c1':=eq_false c1;simp -dsimp -implicitDefEqProofs only[go_sem,seval,c1',e7];refine⟨rfl,?_,by(try simp -dsimp -implicitDefEqProofs only[go_sem,seval]);(try omega),?_⟩
   ·(try simp only[zaC,zaA])
    rw[zaa,if_pos rfl];rfl
   ·(try simp only[zaC,zaA])
    exact same (by unfold zGy;rw[if_neg (fun h=>c1 h.2.1)]) (by(try simp -dsimp -implicitDefEqProofs only[go_sem,seval]);(try omega))
  have c1':=eq_true c1;have D2:=zIQ zHd (ct.procOf p.module a.name).1 l
  by_cases c2:zG5 l (ct.procOf p.module a.name).1=true
  ·rw[c2]at D2;simp -dsimp -implicitDefEqProofs only[go_sem,seval,c1',e7,f7,d7,fs,ds,D2,if_true,Option.getD_some];refine⟨rfl,?_,by(try simp -dsimp -implicitDefEqProofs only[go_sem,seval]);(try omega),?_⟩
   ·(try simp only[zaC,zaA])
    rw[zaa,if_pos rfl];rfl
   ·(try simp only[zaC,zaA])
    exact same (by unfold zGy;rw[if_neg (fun h=>by have:=h.2.2;rw[show(zG1 ct.mn ct.pk p.module a.name).1=(ct.procOf p.module a.name).1 from rfl,c2]at this;cases this)]) (by(try simp -dsimp -implicitDefEqProofs only[go_sem,seval]);(try omega))
  have c2':=Bool.eq_false_iff.2 c2;rw[c2']at D2;have Gy:=zLr zHd (ct.procOf p.module a.name).1 l c2';have y1:=I.ow.valOf;have Dn:=I.fv ks nk.2.1
  have UC: ∀z z' m y,x<=y->zaF (updC (updC (updC h ky z) ky z') ks m) y v 1 (zGk (l.map fun n=>[ti n])):=fun z z' m y hy=>I.ow.keep hy fun q q1 q2=>by
   have j1:q≠ky:=by rintro rfl;exact q2 As
   have j2:q≠ks:=by rintro rfl;exact q2 Dn
   rw[zaa,if_neg j2,zaa,if_neg j1,zaa,if_neg j1]
  have y2: ∀z z' m (b c d:Nat) z2,Rg.rowsS (updC (updC (updC (updC h ky z) ky z') ks m) (x2+b+c+d) z2) v=some (zGk (l.map fun n=>[ti n])):=fun z z' m b c d z2=>((UC z z' m x2 (by omega)).upd (by omega) z2).rowsS
  have f6s:(k6=ks)=False:=eq_false n6.2.2.1;have fps:(kp=ks)=False:=eq_false kn.2;simp -dsimp -implicitDefEqProofs only[go_sem,seval,c1',e7,f7,d7,fs,ds,D2,zG,if_false,Option.getD_none,Gy,e6,f6,f6s,d6,fp,fps,dp,Ap,y1,y2];have C7:(zGk (l.map fun n=>[ti n])).length<2^30:=by simpa using hl
  refine zav ((UC _ _ _ x2 (by omega)).upd (by omega) _) (by omega) (by omega) (by decide) rfl (List.all_eq_true.2 fun r hr=>by
   obtain⟨z,hz,rfl⟩:=List.mem_map.1 hr;obtain⟨z,hz,rfl⟩:=List.mem_map.1 hz
   rfl) ?_
  intro v9 Ta G1 Bp Aq;have z1:=G1.valOf;have z2:=zGv G1;unfold V.cells at z2;have Ky:=I.fv kp (by omega);have M5:=Aq kp (by omega) Ky;rw[zaa,if_neg (by omega),zaa,if_neg kn.2,zaa,if_neg kn.1,zaa,if_neg kn.1,dp]at M5;simp -dsimp -implicitDefEqProofs only[go_sem,seval,z1,z2,M5,Ap];have UG:=I.fv k6 n6.1;refine⟨?_,?_⟩
  ·simp only[zgO,List.all_cons,List.all_nil,List.getElem?_cons_succ,List.getElem?_cons_zero,sep,AOp.looksL,AOp.looks,AOp.isSt,AOp.keeps,AOp.opds,AOp.wopd,zid,za2,List.flatMap_cons,List.flatMap_nil];simp -dsimp -implicitDefEqProofs only[go_sem,seval,y1,V.top,e6];rcases I.ow with⟨e,_⟩ | ⟨q,e,_,_⟩
   ·rw[e];rfl
   ·rw[e]at UG⊢;have : ¬(k6=q):=fun e=>UG _ _ (by rw[e])
    simpa using this
  refine⟨rfl,?_,?_,v9,?_,fun j j1 j2 j3 j4 j5=> ?_,fun j j1 j2=> ?_⟩
  ·simp only[zaC,zaA];rw[zaa,if_neg kn.1.symm,Aq ky (by omega) As,zaa,if_neg (by omega),zaa,if_neg nk.2.2.1.symm,zaa,if_pos rfl];rfl
  ·(try simp -dsimp -implicitDefEqProofs only[go_sem,seval]);(try omega)
  ·have TB:zGy ct.mn ct.pk p.module l a=l++[(ct.procOf p.module a.name).1]:=by
    unfold zGy;rw[if_pos ⟨hk,c1,c2'⟩];rfl
   rw[TB];refine⟨by(try simp -dsimp -implicitDefEqProofs only[go_sem,seval]);(try omega),?_,fun j j1 j2 j3 j4=> ?_,?_,fun j hj=>Bp j (by omega),?_,fun e=>by simp at e⟩
   ·simp only[zaC,zaA];rw[zaa,if_pos rfl,hR,List.set_set];rfl
   ·simp only[zaC,zaA];rw[zaa,if_neg j2,Aq j (by omega) (I.fv j j1),zaa,if_neg (by omega),zaa,if_neg j3,zaa,if_neg j4,zaa,if_neg j4];exact I.fr j j1 j2 j3 j4
   ·rw[List.map_append,zGk,List.map_append];simp only[zaC,zaA];refine zaF.keep G1 (by(try simp -dsimp -implicitDefEqProofs only[go_sem,seval]);(try omega)) fun q q1 q2=> ?_
    rw[zaa,if_neg];rintro rfl;exact q2 (Bp _ (by omega))
   ·simp only[zaC,zaA];rw[zaa,if_neg kn.2.symm,Aq ks (by omega) Dn,zaa,if_neg (by omega),zaa,if_pos rfl]
  ·simp only[zaC,zaA];rw[zaa,if_neg j3,Aq j (by omega) j2,zaa,if_neg (by omega),zaa,if_neg j4,zaa,if_neg j5,zaa,if_neg j5]
  ·exact absurd (Bp j (by omega)) j2)
 obtain⟨ex,h2,n2,⟨rfl,q1,q2,v2,q3,q4,q5⟩,env',ps',bd',q7,q8⟩:=this;rw[q1]at q7;simp only[zA,O.loop.injEq]at q7;obtain⟨rfl,rfl,rfl,_⟩:=q7;refine⟨_,_,n2,q8,rfl,by rw[zaa,if_pos rfl];rfl,q2,v2,q3.keep (Nat.le_refl _) ⟨by omega,kn.1,nk.2.1,nk.2.2.1⟩ fun j hj=> ?_,fun j j1 j2 j3 j4 j5=> ?_,q5⟩
 ·have:j≠ky:=by
   rintro rfl;rcases hj with hj | hj
   ·exact hj.2 rfl
   ·exact hj (q3.fv _ (by omega))
  rw[zaa,if_neg this]
 ·rw[zaa,if_neg j5];exact q4 j j1 j2 j3 j4 j5
theorem zME {h:Nat->Option O} {k i:Nat} {R:List (List V)} {p:Pr} {vP vL v:V} (hk:h k=some (.rows 16 R false)) (hr:R[i]? =some (prw p vP vL v)):zNo h (.mp k i 5) (ipK p.body):=by
 refine⟨.mp k i 5,.mp k i 12,.t (.sl (p.body.kids.map Nd.enc)),by simp only[zBw,hk],by simp only[zsM,hk],by simp[zuA,hk,hr,prw,rd,zb9],by simp[lenS],rfl,rfl,rfl,zL5 _⟩
theorem zMi {ck:CK} {H:Nat->Option O} {xs ky ks kp i:Nat} {rp:List (List V)} {p:Pr} {vP vL:V} {l:List Int} {v:V} {h:Nat->Option O} {x:Nat} {env:Nat->V}
 (nk:ks<xs/\ks≠ky/\ky<xs) (np:kp<xs/\kp≠ky) (AV:i<rp.length) (I:KI ck H xs ky ks kp i rp p vP vL l v h x)
 (DA:h ky=some (.loop env [79] zH8 .ready)) (hb:p.body.kind≠33):
 ∃r h2 x2,DenY Γ G ky [.mp kp i 5] h x=some (r,h2,x2)/\(r=vb true/\h2 ky=some (.loop env [79] zH8 .ready)/\x<=x2/\KI ck H xs ky ks kp i rp p vP vL l v h2 x2/\ ∀j,j≠ky->h2 j=h j):=by
 have AT:(p.body.kind=33)=False:=eq_false hb;have fp:(kp=ky)=False:=eq_false np.2;have dp:=I.pr;have Ap:(rp.set i (prw p vP vL v))[i]? =some (prw p vP vL v):=by rw[List.getElem?_set_self AV]
 have As:=I.fv ky nk.2.2;obtain⟨R,hR⟩: ∃R,R=rp.set i (prw p vP vL v):=⟨_,rfl⟩
 rw[<- hR]at dp Ap;unfold prw at Ap
 have:=zjy (Γ:=Γ) (G:=G) (vs:=[.mp kp i 5]) (n:=x) (P:=fun ex h2 n'=>ex= .normal/\h2 ky=some (.loop env [79] zH8 .busy)/\x<=n'/\ ∀j,j≠ky->h2 j=h j) DA rfl (fun ex h2 n' hP=>⟨_,_,_,hP.2.1⟩) (by
  simp -dsimp -implicitDefEqProofs only[go_sem,seval,AT,fp,dp,Ap];refine⟨rfl,?_,by(try simp -dsimp -implicitDefEqProofs only[go_sem,seval]);(try omega),fun j hj=> ?_⟩
  ·(try simp only[zaC,zaA])
   rw[zaa,if_pos rfl];rfl
  ·(try simp only[zaC,zaA])
   rw[zaa,if_neg hj,zaa,if_neg hj])
 obtain⟨ex,h2,n2,⟨rfl,q1,q2,q3⟩,env',ps',bd',q7,q8⟩:=this;rw[q1]at q7;simp only[zA,O.loop.injEq]at q7;obtain⟨rfl,rfl,rfl,_⟩:=q7;refine⟨_,_,n2,q8,rfl,by rw[zaa,if_pos rfl];rfl,q2,I.keep q2 ⟨np.1,np.2,nk.1,nk.2.1⟩ fun j hj=> ?_,fun j hj=> ?_⟩
 ·have:j≠ky:=by
   rintro rfl;rcases hj with hj | hj
   ·exact hj.2 rfl
   ·exact hj As
  rw[zaa,if_neg this];exact q3 j this
 ·rw[zaa,if_neg hj];exact q3 j hj
theorem zGP (mn:List ByteArray) (pk:List Key) (m:Int): ∀(L:List Nd) (l:List Int),(L.foldl (zGy mn pk m) l).length<=l.length+L.length
 | [],l=>by simp
 | a::L,l=>by
   have h1:=zGP mn pk m L (zGy mn pk m l a);have h2:(zGy mn pk m l a).length<=l.length+1:=by unfold zGy;split<;>simp
   simp only[List.foldl_cons,List.length_cons];omega
def CLI (ck:CK) (H:Nat->Option O) (ky ks kp i:Nat) (ct:Ct) (rp:List (List V)) (p:Pr) (vP vL:V) (W:List (V×Nd)) (F:Nat->Prop) (h:Nat->Option O) (x:Nat):Prop:=
 ∃v L,KI ck H (ky+1) ky ks kp i rp p vP vL (L.foldl (zGy ct.mn ct.pk p.module) []) v h x/\F=(fun j=>(j<ky+1/\j≠ky)\/ ¬zbg v j)/\L++W.reverse.flatMap (fun a=>a.2.flat)=p.body.flat/\(W=[(.mp kp i 5,p.body)]\/ ∀a∈W,a.1= .t (.ip a.2.enc))
theorem zJf {H:Nat->Option O} {x n:Nat} {v:V} {l:List Int} (ho:zaF H x v 1 (zGk (l.map fun n=>[ti n]))) (hl:l.length<2^40):
 ∃r h' n',DenR Γ G 74 [v] H n=some (r,h',n')/\(zaF h' x v 1 (zGk ((sortI l).map fun n=>[ti n]))/\n<=n'/\ ∀j,zbg v j->h' j=H j):=by
 have hr: ∀l:List Int,zGk (l.map fun n=>[ti n])=zae l:=fun l=>by simp[zGk,zae]
 rw[hr]at ho⊢;rcases ho with⟨rfl,he⟩ | ⟨k,rfl,hk,hh⟩
 ·have SK:l=[]:=by
   have:=congrArg List.length he;rw[zab]at this;exact List.eq_nil_of_length_eq_zero this
  subst SK;exact⟨_,_,_,zf6 Γ74 rfl rfl rfl,.inl ⟨rfl,by simp[sortI,zae]⟩,Nat.le_refl _,fun _ _=>rfl⟩
 ·rw[zab]
  have iof: ∀l:List Int,zd2 (zae l)=some l:=fun l=>by
   induction l with
   | nil=>rfl
   | cons a l ih=>
     have:zae (a::l)=[.t (.int .i64 a)]::zae l:=rfl;rw[this,zd2,ih];rfl
  have ofi: ∀l:List Int,za9 l=zae l:=fun l=>by simp[za9,zae]
  refine⟨_,upd H k (some (.rows 1 (zae (sortI l)) false)),n,zf6 Γ74 rfl rfl (by
   simp only[zd3,hh,iof,zD,ofi]
   rw[if_pos (by exact⟨trivial,by omega⟩)];rfl),.inr ⟨k,?_,hk,by rw[zaz]⟩,Nat.le_refl _,fun j hj=> ?_⟩
  ·rw[zab,sortI,List.length_mergeSort]
  ·have:j≠k:=by rintro rfl;exact hj _ _ rfl
   rw[<- zaL,zaa,if_neg this]
theorem CS.setrow {ck:CK} {h h':Nat->Option O} {x x':Nat} {N N':Nat->Prop} {cv:CV} {ct:Ct} (s:CS ck h x N cv ct) (hx:x<=x') {rp:List (List V)} {kp i:Nat} {row:List V} {p':Pr} (A8:cv.pr= .ms kp 0 rp.length) (hh:h kp=some (.rows 16 rp false)) (Kk:Pw (PrR h x N) rp ct.procs) (AV:i<rp.length) (hR:PrR h' x' N' row p') (h1:h' kp=some (.rows 16 (rp.set i row) false))
 (hk: ∀j,Tp ck cv j\/N j->j≠kp->h' j=h j) (n1: ∀j,N j->N' j) (n2: ∀j,N' j-> ¬Tp ck cv j) (n3: ∀j,N' j->j<x'):CS ck h' x' N' cv { ct with procs:=ct.procs.set i p' }:=by
 obtain⟨l1,l2,l3,l4⟩:=s.lt;obtain⟨es,r1,r2⟩:=s.hr;obtain⟨rm,m1,m2⟩:=s.mo;obtain⟨rp2,p1,p2⟩:=s.pr;obtain⟨rt,t1,t2⟩:=s.th
 have kt:Tp ck cv kp:=by
  have : ¬zbg cv.pr kp:=fun e=>by rw[A8]at e;exact e _ _ rfl
  unfold Tp;simp[this]
 have kx:kp<x:=(s.at kt).2;have key: ∀j,Tp ck cv j->(∀r,h j≠some (.rows 16 r false))->h' j=h j:=fun j hj a2=>hk j (.inl hj) fun e=>a2 _ (e▸hh)
 have EI: ∀j,j<x->N j->h' j=h j/\N' j:=fun j hj hn=>⟨hk j (.inr hn) (fun e=>s.nt j hn (e▸kt)),n1 j hn⟩
 refine⟨by rw[key _ (by unfold Tp;simp) (by simp[s.hc])];exact s.hc,by rw[key _ (by unfold Tp;simp) (by simp[s.hd])];exact s.hd,by rw[key _ (by unfold Tp;simp) (by simp[s.hn])];exact s.hn,⟨es,by rw[key _ (by unfold Tp;simp) (by simp[r1])];exact r1,r2.imp fun _ _ o=>o.keep hx EI⟩,
  s.od.keep hx fun k AF hv=>key k (by unfold Tp;simp[hv]) (by simp[(zGi s.od hv).1]),⟨rm,m1.keep hx fun k AF hv=>key k (by unfold Tp;simp[hv]) (by simp[(zGi m1 hv).1]),m2.imp fun _ _ o=>o.keep hx EI⟩,s.va.keep hx fun k AF hv=>key k (by unfold Tp;simp[hv]) (by simp[(zGi s.va hv).1]),
  s.lo.keep hx fun k AF hv=>key k (by unfold Tp;simp[hv]) (by simp[(zGi s.lo hv).1]),⟨rp.set i row,.inr ⟨kp,by rw[A8,List.length_set],by omega,h1⟩,?_⟩,⟨rt,t1.keep hx fun k AF hv=>key k (by unfold Tp;simp[hv]) (by simp[(zGi t1 hv).1]),t2.imp fun _ _ o=>o.keep hx EI⟩,s.bo.keep hx fun k AF hv=>key k (by unfold Tp;simp[hv]) (by simp[(zGi s.bo hv).1]),⟨by omega,by omega,by omega,by omega⟩,s.ne,s.bc,n2,n3⟩
 refine⟨by simp[Kk.1],fun j a b ha hb=> ?_⟩
 by_cases Av:i=j
 ·subst Av;rw[List.getElem?_set_self AV]at ha;rw[List.getElem?_set_self (by rw[<- Kk.1];exact AV)]at hb;cases ha;cases hb;exact hR
 ·rw[List.getElem?_set_ne Av]at ha hb;exact(Kk.2 j a b ha hb).keep hx EI
theorem zIk {ck:CK} {H:Nat->Option O} {x0 ky ks k1 k6 k7 kp kr i:Nat} {N:Nat->Prop} {cv:CV} {ct:Ct} {rp:List (List V)} {p:Pr} {vP vL:V} {env:Nat->V} {C:Ex->(Nat->Option O)->Nat->Prop} {wk:WK C}
 (s:CS ck H x0 N cv ct) (A8:cv.pr= .ms kp 0 rp.length) (M0:H kp=some (.rows 16 rp false)) (Kk:Pw (PrR H x0 N) rp ct.procs) (hi:ct.procs[i]? =some p) (Ap:rp[i]? =some (prw p vP vL (.t .nils))) (L2:ct.mods.length<2^40) (BL:ct.procs.length<2^40)
 (n1:k1<ky/\k1≠kp/\k1≠ks) (n6:k6<ky/\k6≠kp/\k6≠ks) (n7:k7<ky/\k7≠kp/\k7≠ks) (nk:x0<=ks/\ks<ky) (ND:kp<x0)
 (g1:H k1=some (.rows 1 [[.mp ck.c 0 0]] false)) (g6:H k6=some (.rows 1 [[.mp kp i 0]] false)) (g7:H k7=some (.rows 1 [[.mm ks]] false)) (gs:H ks=some (.map []))
 (DA:H ky=some (.loop env [79] zH8 .ready)) (Hz:H kr=some (.rows 1 [[.mp kp i 5]] false)) (Tc:kr<ky) (e1:env 1= .mp k1 0 0) (e6:env 6= .mp k6 0 0) (e7:env 7= .mp k7 0 0) (hb:p.body.kind≠33) (AS:p.body.size<900) (Ff:p.body.sane)
 (hC: ∀v h' n',KI ck H (ky+1) ky ks kp i rp p vP vL (p.body.flat.foldl (zGy ct.mn ct.pk p.module) []) v h' n'->C .normal (updC h' ky (some .dead)) n'):
 zBm (DenR Γ G 637 [.yl ky,.mp kr 0 0] H (ky+1)) ky C wk:=by
 have AV:i<rp.length:=(zH.1 Ap).1
 have E8:rp.set i (prw p vP vL (.t .nils))=rp:=by
  have h:=(zH.1 Ap).2;rw[<- h,List.set_getElem_self]
 refine zIj (I:=CLI ck H ky ks kp i ct rp p vP vL) (p0:=.mp kp i 5) (t0:=p.body) (F0:=fun j=>(j<ky+1/\j≠ky)\/ ¬zbg (.t .nils) j) DA Hz Tc ?_ ?_ ?_ (by omega) (.inl ⟨_,_,_,rfl⟩) ?_ ?_
 ·rintro W F h3 x3 h4 x4 ⟨v,L,hK,rfl,hL,hW⟩ hx hh;exact⟨v,L,hK.keep hx (by omega) hh,rfl,hL,hW⟩
 ·rintro W F h3 x3 ⟨v,L,hK,rfl,hL,hW⟩ j hj;have:=hK.le;rcases hj with hj | hj
  ·omega
  ·exact⟨(zGi hK.ow hj).2,fun e=>hj (hK.fv j (by omega))⟩
 ·rintro W q t F h3 x3 ⟨v,L,hK,rfl,hL,hW⟩ Rx SD;have hZ:=zMn hL
  have Pu:L.length<=p.body.size:=by
   rw[<- Nd.flat_len,<- hL,zM];omega
  rcases hW with hW | hW
  ·have Ur:W=[]/\(q,t)=(V.mp kp i 5,p.body):=by
    cases W with
    | nil=>simpa using hW
    | cons a W=>simp at hW
   obtain⟨rfl,Fg⟩:=Ur;cases Fg;obtain⟨r,h5,x5,CF,rfl,g1,g2,g3,g4⟩:=zMi (by omega) (by omega) AV hK SD hb
   have Bi:(L++[p.body]).foldl (zGy ct.mn ct.pk p.module) []=L.foldl (zGy ct.mn ct.pk p.module) []:=by
    rw[List.foldl_append,List.foldl_cons,List.foldl_nil,zGy,if_neg (fun h=>hb h.1)]
   refine⟨_,h5,x5,CF,rfl,fun j=>(j<ky+1/\j≠ky)\/ ¬zbg v j,ipK p.body,⟨v,L++[p.body],by rw[Bi];exact g3,rfl,hZ,.inr fun a ha=> ?_⟩,by simp,fun h'' hh=>zME (R:=rp.set i (prw p vP vL v)) ?_ (by rw[List.getElem?_set_self AV]),g2,g1,fun j _ _ hj=>g4 j hj,fun _ _ h=>h⟩
   ·exact zKU _ a (by simpa using ha)
   ·rw[hh _ (.inl (by omega))];exact g3.pr
  ·have hp:=hW (q,t) (by simp);simp only at hp;subst hp
   have IW:t∈p.body.flat:=by
    rw[<- hL];simp only[List.reverse_append,List.reverse_cons,List.reverse_nil,List.nil_append,List.flatMap_append,List.flatMap_cons,List.flatMap_nil,List.append_nil,List.mem_append];exact .inr (.inl (Nd.flat_self t))
   have By:=zGP ct.mn ct.pk p.module L [];simp only[List.length_nil]at By;obtain⟨r,h5,x5,CF,rfl,g1',g2',v5,g3',g4',g5'⟩:=zLp s (by omega) A8 M0 Kk hi L2 BL (by omega) (by omega) (by omega) (by omega) g1 g6 g7 hK SD e1 e6 e7 t (Ff t IW) (by omega);refine⟨_,h5,x5,CF,rfl,fun j=>(j<ky+1/\j≠ky)\/ ¬zbg v5 j,ipK t,⟨v5,L++[t],?_,rfl,hZ,.inr fun a ha=> ?_⟩,by simp,fun h'' hh=>zL2 t,g2',g1',fun j j1 j2 j3=> ?_,fun j j1 j2=> ?_⟩
   ·rw[List.foldl_append];exact g3'
   ·rcases List.mem_append.1 ha with ha | ha
    ·exact hW a (List.mem_append_left _ ha)
    ·exact zKU _ a (by simpa using ha)
   ·have j4:zbg v j:=zGt fun e=>j2 (.inr e)
    have j5: ¬(j<ky+1):=fun e=>j2 (.inl ⟨e,j3⟩)
    exact g4' j j1 j4 (by omega) (by omega) j3
   ·exact j2.imp id (g5' j j1)
 ·refine⟨.t .nils,[],⟨Nat.le_refl _,by rw[E8];exact M0,fun _ _ _ _ _=>rfl,.inl ⟨rfl,rfl⟩,fun j _ i n e=>(by cases e),gs,fun _=>rfl⟩,rfl,by simp,.inl rfl⟩
 ·rintro F h3 n3 ⟨v,L,hK,rfl,hL,hW⟩ Tt T7 Vt;have O7:L=p.body.flat:=by simpa using hL
  subst O7;exact hC v h3 n3 hK
theorem zIE {ck:CK} {H:Nat->Option O} {x0 ky ks kp i:Nat} {N:Nat->Prop} {cv:CV} {ct:Ct} {rp:List (List V)} {p:Pr} {vP vL:V} (s:CS ck H x0 N cv ct) (A8:cv.pr= .ms kp 0 rp.length) (M0:H kp=some (.rows 16 rp false)) (Kk:Pw (PrR H x0 N) rp ct.procs) (hi:ct.procs[i]? =some p) (Ap:rp[i]? =some (prw p vP vL (.t .nils)))
 (nk:x0<=ks/\ks<ky) (ND:kp<x0) {v:V} {l:List Int} {h' h7:Nat->Option O} {n' n7:Nat} (I:KI ck H (ky+1) ky ks kp i rp p vP vL l v h' n') (hn:n'<=n7) (hO:zaF h7 n' v 1 (zGk ((sortI l).map fun n=>[ti n]))) (hf: ∀j,zbg v j->j≠ky->h7 j=h' j):
 CS ck h7 n7 (fun j=>N j\/ ¬zbg v j) cv { ct with procs:=ct.procs.set i { p with calls:=sortI l } }/\(∀j,j<ky->j≠kp->j≠ks->h7 j=H j)/\(∀j,j<ky-> ¬(N j\/ ¬zbg v j)\/N j)/\x0<=n7:=by
 have AV:i<rp.length:=(zH.1 Ap).1;have A5:=I.le;have As: ∀j,¬zbg v j->ky+1<=j:=fun j hj=>Nat.le_of_not_lt fun h=>hj (I.fv j h)
 have AG: ∀j,j<ky->j≠kp->j≠ks->h7 j=H j:=fun j j1 j2 j3=>(hf j (I.fv j (by omega)) (by omega)).trans (I.fr j (by omega) j2 j3 (by omega))
 have hN: ∀j,j<x0->N j->h7 j=H j/\(N j\/ ¬zbg v j):=fun j j1 j2=>by
  have kt:Tp ck cv kp:=by
   have : ¬zbg cv.pr kp:=fun e=>by rw[A8]at e;exact e _ _ rfl
   unfold Tp;simp[this]
  exact⟨AG j (by omega) (fun e=>s.nt j j2 (e▸kt)) (by omega),.inl j2⟩
 refine⟨s.setrow (by omega) A8 M0 Kk AV (row:=prw p vP vL v) ?_ ?_ (fun j hj j1=> ?_) (fun _ h=> .inl h) (fun j hj=> ?_) (fun j hj=> ?_),AG,fun j hj=> ?_,by omega⟩
 ·obtain⟨a,b,c,hr,h1,h2,h3⟩:=(Kk.2 i _ p Ap hi).row;unfold prw at hr;simp only[List.cons.injEq,and_true,true_and]at hr;obtain⟨rfl,rfl,_⟩:=hr;refine PrR.of (p:={ p with calls:=sortI l }) ⟨h1.keep (by omega) hN,h2.keep (by omega) hN,zHT (hO.le hn) fun j hj=> .inr hj,fun e=>I.nl ?_⟩;have:=congrArg List.length e;rw[sortI,List.length_mergeSort]at this;exact List.eq_nil_of_length_eq_zero this
 ·rw[hf kp (I.fv kp (by omega)) (by omega)];exact I.pr
 ·have j2:j<x0:=by
   rcases hj with hj | hj
   ·exact(s.at hj).2
   ·exact s.nl j hj
  exact AG j (by omega) j1 (by omega)
 ·rcases hj with hj | hj
  ·exact s.nt j hj
  ·exact s.below (by have:=As j hj;omega)
 ·rcases hj with hj | hj
  ·have:=s.nl j hj;omega
  ·have:=(zGi hO hj).2;omega
 ·by_cases h:N j
  ·exact .inr h
  ·exact .inl fun h2=>h2.elim h fun e=>by have:=As j e;omega
def zNs {α:Type} [DecidableEq α] (l:List α) (a:α):List α:=if zG5 l a=true then l else l++[a]
theorem zKT {α:Type} [DecidableEq α] (k:α): ∀(ks l:List α),zG5 (ks.foldl zNs l) k=(zG5 l k||zG5 ks k)
 | [],l=>by simp[zG5]
 | a::ks,l=>by
   rw[List.foldl_cons,zKT k ks]
   have h1:zG5 (zNs l a) k=(zG5 l k||decide (a=k)):=by
    unfold zNs;split
    ·rename_i h
     by_cases TN:a=k
     ·subst TN;simp[h]
     ·simp[TN]
    ·simp[zG5]
   rw[h1];simp[zG5,Bool.or_assoc]
theorem zMv {ck:CK} {h:Nat->Option O} {x:Nat} {N:Nat->Prop} {cv:CV} {ct:Ct} (s:CS ck h x N cv ct) (e pos:Int):
 ∃r h' x',DenR Γ G 607 [vi e,.agg [vi 0,.t (.str (bs [])),.t (.str (bs [])),vi 0,vi 0,vi 0,vb false,.t .nils,vi pos],.mp ck.d 0 0] h x=some (r,h',x')/\ ∃v',CS ck h' x' N { cv with d:=v' } (ct.report e pos)/\FrC ck h x N cv h' x' N { cv with d:=v' }:=by
 have hd:=s.hd;have v1:=s.od.valOf;have v2:=s.od.lenS;rw[show(zGk (dgT ct.diags)).length=ct.diags.length by simp]at v2
 (refine zay Γ607 rfl ?_;dsimp only[zNN])
 by_cases hl:ct.diags.length<20
 ·have h1:((ct.diags.length:Int)<20)=True:=eq_true (by omega);have r1:=s.od.r3;simp -dsimp -implicitDefEqProofs only[go_sem,seval,hd,v1,v2,h1,r1];refine zav (s.od.upd (by omega) _) (by omega) (by simp;omega) (by decide) rfl (by simp) ?_;intro v hp hP Bp Aq;have z1:=hP.valOf;have z2:=zGv hP;unfold V.cells at z2;have RV:zbg cv.d ck.d:=zGA s.od hd (by decide);have GX:=Aq ck.d (by have:=s.lt.2.1;omega) RV;rw[zaa,if_neg (by have:=s.lt.2.1;omega),hd]at GX;simp -dsimp -implicitDefEqProofs only[go_sem,seval,z1,z2,GX];unfold Ct.report;rw[if_pos hl];have ld:=s.lt.2.1;refine⟨v,s.setD ?_ ?_ ?_ (fun j hj=>Bp j (by omega)) (fun j hj j1 j2=> ?_)⟩
  ·(try simp -dsimp -implicitDefEqProofs only[go_sem,seval]);(try omega)
  ·simp only[zaC,zaA];rw[zaa,if_pos rfl]
  ·rw[dgT,List.map_append,zGk,List.map_append];simp only[zaC,zaA];refine zaF.keep (rows:=_) hP (by(try simp -dsimp -implicitDefEqProofs only[go_sem,seval]);(try omega)) fun q q1 q2=> ?_
   have:q≠ck.d:=by rintro rfl;exact q2 (Bp _ (by omega))
   rw[zaa,if_neg this]
  ·simp only[zaC,zaA];rw[zaa,if_neg j1,Aq j (by omega) j2,zaa,if_neg (by omega)]
 ·have h1:((ct.diags.length:Int)<20)=False:=eq_false (by omega);simp -dsimp -implicitDefEqProofs only[go_sem,seval,hd,v1,v2,h1];unfold Ct.report;rw[if_neg hl];have hx: ∀a b,x<=addC (addC x a) b:=fun a b=>Nat.le_trans (zhI _ _) (zhI _ _)
  refine⟨cv.d,s.keep (hx _ _) (fun _ _ _=>rfl) (fun _ _ h=>h) s.nt (fun j h=>Nat.lt_of_lt_of_le (s.nl j h) (hx _ _)),hx _ _,fun _ _ _=>rfl,fun _ _ h=>h,fun _ _ h=>h,fun _ h=>h,rfl⟩
theorem zLD {ck:CK} {h:Nat->Option O} {x y:Nat} {N:Nat->Prop} {cv:CV} {ct:Ct} (s:CS ck h x N cv ct) (hy:x<=y) (e pos:Int):
 ∃r h' x',DenR Γ G 607 [vi e,.agg [vi 0,.t (.str (bs [])),.t (.str (bs [])),vi 0,vi 0,vi 0,vb false,.t .nils,vi pos],.mp ck.d 0 0] h y=some (r,h',x')/\ ∃v',CS ck h' x' N { cv with d:=v' } (ct.report e pos)/\FrC ck h x N cv h' x' N { cv with d:=v' }/\y<=x'/\ ∀j,x<=j->j<y->h' j=h j:=by
 obtain⟨r,h',x',h1,cv',h2,h3⟩:=zMv (s.le hy) e pos;exact⟨r,h',x',h1,cv',h2,h3.lo hy,h3.le,fun j j1 j2=>h3.kp j j2 (s.below j1)⟩
theorem CS.prow {ck:CK} {h:Nat->Option O} {x:Nat} {N:Nat->Prop} {cv:CV} {ct:Ct} (s:CS ck h x N cv ct) {i:Nat} {p:Pr} (hi:ct.procs[i]? =some p) (hc:p.calls=[]):
 ∃kp rp vP vL,cv.pr= .ms kp 0 rp.length/\kp<x/\h kp=some (.rows 16 rp false)/\Pw (PrR h x N) rp ct.procs/\rp[i]? =some (prw p vP vL (.t .nils)):=by
 obtain⟨rp,p1,p2⟩:=s.pr;have AV:=(zH.1 hi).1;rcases p1 with⟨_,D7⟩ | ⟨kp,A8,RK,M0⟩
 ·have:=p2.1;rw[D7]at this;simp at this;omega
 obtain⟨row,Ap,_⟩:=zai (l:=rp) (i:=i) (by rw[p2.1];exact AV);obtain⟨vP,vL,vC,hR,Tb,T2,Ts,Dm⟩:=(p2.2 i _ p Ap hi).row;have Fc:=Dm hc;subst Fc;subst hR;exact⟨kp,rp,vP,vL,A8,RK,M0,p2,Ap⟩
structure Ct.bok (ct:Ct):Prop where
 k: ∀p∈ct.procs,p.body.kind≠33
 s: ∀p∈ct.procs,p.body.size<900/\p.body.sane
 c: ∀p∈ct.procs,p.calls=[]
theorem zMh (ct:Ct) (i:Nat):(zGq ct i).pk=ct.pk:=by
 unfold zGq Ct.pk;simp only[List.map_append,List.map_map]
 conv=>rhs;rw[<- List.take_append_drop i ct.procs,List.map_append]
 rfl
theorem zKx {ct:Ct} {i:Nat} {p:Pr} (hp:ct.procs[i]? =some p): { zGq ct i with diags:=zHB ct.locks (zGq ct i).diags p,procs:=(zGq ct i).procs.set i { p with calls:=zGG ct.mn ct.pk p } }=zGq ct (i+1):=by
 have AV:=(zH.1 hp).1;unfold zGq;simp only[Ct.mk.injEq,true_and,and_true];refine⟨?_,?_⟩
 ·rw[zaf hp,List.map_append,List.set_append_right _ _ (by simp;omega)];simp only[List.length_map,List.length_take,Nat.min_eq_left (Nat.le_of_lt AV),Nat.sub_self];rw[List.drop_eq_getElem_cons AV,List.set_cons_zero,zQ];have h2:=(zH.1 hp).2;simp
 ·rw[zaf hp,List.foldl_append];rfl
theorem zMg {ck:CK} {h:Nat->Option O} {x:Nat} {N:Nat->Prop} {cv:CV} {ct:Ct} (s:CS ck h x N cv ct) (L2:ct.mods.length<2^40) (BL:ct.procs.length<2^30) (FZ:ct.locks.length<2^30) (Ss:ct.bok):
 ∃r h' x',DenR Γ G 611 [.mp ck.c 0 0] h x=some (r,h',x')/\ ∃N' cv',CS ck h' x' N' cv' ct.callsM/\FrC ck h x N cv h' x' N' cv':=by
 have hc:=s.hc;have v1:=s.lo.valOf;have lc:=s.lt.1;have na:(x+0=x+1+0)=False:=eq_false (by omega);have nc0:(ck.c=x+0)=False:=eq_false (by omega);have nc1:(ck.c=x+1+0)=False:=eq_false (by omega);have lk12: ∀l:Lk,l.enc.map V.t=[.t (.str l.name),.t (ti l.module),.t (ti l.inv.kind),.t (.str l.inv.name),.t (.str l.inv.other),.t (ti l.inv.n),.t (ti l.inv.len),.t (ti l.inv.init),.t (tb l.inv.ghost),.t (.sl (l.inv.kids.map Nd.enc)),.t (ti l.inv.pos),.t (ti l.pos)]:=fun l=>by simp[Lk.enc,Nd.enc_eq]
 have slo:=zHh s.lo (fun r hr=>by
  obtain⟨z,hz,rfl⟩:=List.mem_map.1 hr;obtain⟨z,hz,rfl⟩:=List.mem_map.1 hz
  simp[zL0])
 (refine zay Γ611 rfl ?_;dsimp only[zOo])
 have v3: ∀z z',Rg.lenS (updC (updC h (x+0) z) (x+1+0) z') cv.lo=some ct.locks.length:=fun z z'=>by
  rw[((s.lo.upd (q:=x+0) (by omega) z).upd (q:=x+1+0) (by omega) z').lenS];simp
 simp -dsimp -implicitDefEqProofs only[go_sem,seval,hc,v1,v3,na,nc0,nc1];refine zaq 536608784 ct.locks.length (fun i f h' x'=>(f 18).v=vi i/\h' (x+1+0)=some (.map (zHu zJM (((ct.locks.take i).map fun l=>(l.module,l.name)).foldl zNs [])))/\h' (x+0)=some (.rows 1 [[.mp ck.c 0 0]] false)/\(∀j,j<x->h' j=h j)/\x+2<=x') rfl ?_ ?_
 ·refine⟨by simp -dsimp -implicitDefEqProofs only[go_sem,seval],?_,?_,fun j hj=> ?_,by(try simp -dsimp -implicitDefEqProofs only[go_sem,seval]);(try omega)⟩
  ·simp only[zaC,zaA];rw[zaa,if_pos rfl];rfl
  ·simp only[zaC,zaA];rw[zaa,if_neg (by omega),zaa,if_pos rfl]
  ·simp only[zaC,zaA];rw[zaa,if_neg (by omega),zaa,if_neg (by omega)]
 rintro i f u H1 x1 bb hi ⟨g,EG,SO,AT,KA⟩;have s1:=s.loc (h'':=H1) (x'':=x1) (by omega) fun j hj _=>AT j hj
 have slo1:=zHh s1.lo (fun r hr=>by
  obtain⟨z,hz,rfl⟩:=List.mem_map.1 hr;obtain⟨z,hz,rfl⟩:=List.mem_map.1 hz
  simp[zL0])
 by_cases AV:i<ct.locks.length
 ·have h1:=eq_true AV;obtain⟨a,ha,Cp⟩:=zai AV;have hw:=zan i (by omega);have Bj:(zGk (ct.locks.map Lk.enc))[i]? =some (a.enc.map V.t):=by rw[zGk,zJ,zJ,ha];rfl
  obtain⟨p,k1,k2,k3⟩:=slo1.at_ i _ Bj;rw[lk12]at k3;have Gy:=zNE zGR (a.module,a.name) (((ct.locks.take i).map fun l=>(l.module,l.name)).foldl zNs []);simp -dsimp -implicitDefEqProofs only[go_sem,seval,g,h1,v1,↓k1,k2,↓k3,EG,Gy,hw];refine⟨AV,by simp -dsimp -implicitDefEqProofs only[go_sem,seval],?_,?_,fun j hj=> ?_,by(try simp -dsimp -implicitDefEqProofs only[go_sem,seval]);(try omega)⟩
  ·simp -dsimp -implicitDefEqProofs only[go_sem,seval];rw[zaf ha,List.map_append,List.foldl_append];rfl
  ·simp -dsimp -implicitDefEqProofs only[go_sem,seval];rw[if_neg (by omega)];exact SO
  ·simp -dsimp -implicitDefEqProofs only[go_sem,seval];rw[if_neg (by omega)];exact AT j hj
 have h1:=eq_false AV;have:i=ct.locks.length:=by omega
 subst this;rw[List.take_length]at EG
 generalize hL:(ct.locks.map fun l=>(l.module,l.name)).foldl zNs []=L at EG
 have Vr: ∀k,zG5 L k=zG5 (ct.locks.map fun l=>(l.module,l.name)) k:=fun k=>by
  rw[<- hL,zKT];simp[zG5]
 obtain⟨rp0,p1,p2⟩:=s1.pr;have v4:=p1.valOf;have v5:=p1.lenS;rw[p2.1]at v5;have Dr:H1 ck.c=_:=(AT _ lc).trans hc;simp -dsimp -implicitDefEqProofs only[go_sem,seval,g,h1,SO,Dr,v4,v5];have Ut:zGq ct 0=ct:=by unfold zGq;simp
 have UD: ∀i,(zGq ct i).procs.length=ct.procs.length:=fun i=>by simp[zGq];omega
 refine zaq 167482727468900004448789496875551031520 ct.procs.length (fun i f h' x'=>(f 35).v=vi i/\ ∃N' d,CS ck h' x' N' { cv with d:=d } (zGq ct i)/\FrC ck h x N cv h' x' N' { cv with d:=d }/\h' (x+0)=some (.rows 1 [[.mp ck.c 0 0]] false)/\h' (x+1+0)=some (.map (zHu zJM L))/\(∀j,x<=j->j<x+2-> ¬Tp ck { cv with d:=d } j/\ ¬N' j)/\x+2<=x') rfl ?_ ?_
 ·refine⟨by simp -dsimp -implicitDefEqProofs only[go_sem,seval],N,cv.d,?_,?_,SO,EG,fun j j1 j2=>⟨s.below j1,fun h=>by have:=s.nl _ h;omega⟩,by(try simp -dsimp -implicitDefEqProofs only[go_sem,seval]);(try omega)⟩
  ·rw[Ut];exact s1.le (by(try simp -dsimp -implicitDefEqProofs only[go_sem,seval]);(try omega))
  ·exact FrC.refl.loc (by(try simp -dsimp -implicitDefEqProofs only[go_sem,seval]);(try omega)) fun j hj=>AT j hj
 clear EG SO s1 slo1 AT Dr;rintro i f u H2 x2 b2 hi ⟨g2,N2,d2,s2,f2,SO,EG,Fh,ML⟩;have TW:=UD i;have CG:=s2.hc
 by_cases AV:i<ct.procs.length
 rotate_left
 ·have h1:=eq_false AV;have:i=ct.procs.length:=by omega
  subst this;simp -dsimp -implicitDefEqProofs only[go_sem,seval,g2,h1];have G1:zGq ct ct.procs.length=ct.callsM:=by unfold zGq Ct.callsM;simp
  rw[G1]at s2;exact⟨N2,_,s2.le (by(try simp -dsimp -implicitDefEqProofs only[go_sem,seval]);(try omega)),f2.loc (by(try simp -dsimp -implicitDefEqProofs only[go_sem,seval]);(try omega)) fun _ _=>rfl⟩
 have h1:=eq_true AV;obtain⟨p,hp,IV⟩:=zai AV
 have TX:(zGq ct i).procs[i]? =some p:=by
  unfold zGq;rw[List.getElem?_append_right (by simp;omega)];simp[hp,Nat.min_eq_left (Nat.le_of_lt AV)]
 have hw:=zan i (by omega);obtain⟨kp,rp,vP,vL,A8,RK,M0,p2,Ap⟩:=s2.prow TX (Ss.c p IV);simp only at A8;have Bb:rp.length=ct.procs.length:=by rw[p2.1,TW]
 have w1:((i:Int)<(rp.length:Int))=True:=eq_true (by omega);have Gw:=Ap;unfold prw at Gw;have v4:valOf (V.ms kp 0 rp.length)=some (V.ms kp 0 rp.length):=rfl;rw[A8]at CG;have lc2:=s2.lt.1;have m1:(ck.c=x2+1+2+7)=False:=eq_false (by omega);have m2:(kp=x2+1+2+7)=False:=eq_false (by omega);have m3:(x+0=x2+1+2+7)=False:=eq_false (by omega);have m4:(x+1+0=x2+1+2+7)=False:=eq_false (by omega);have m5: ∀y:Nat,(y=y+22)=False:=fun y=>eq_false (by omega)
 have m6: ∀y:Nat,(y=y+21)=False:=fun y=>eq_false (by omega)
 have m7:(kp=x2+1+2+9+19+1)=False:=eq_false (by omega);have m8:(kp=x2+1+2+9+19+0)=False:=eq_false (by omega);have D2:=zIQ zGR (p.module,p.locked) L;rw[Vr]at D2;have sA:CS ck (updC (updC H2 (x2+1+2+7) (some (.rows 1 [[.t .nilp]] false))) (x2+1+2+7) (some (.rows 1 [[.mp kp i 0]] false))) x2 N2 { cv with d:=d2 } (zGq ct i):=s2.loc (Nat.le_refl _) fun j hj _=>by rw[zaa,if_neg (by omega),zaa,if_neg (by omega)]
 have fA:FrC ck h x N cv (updC (updC H2 (x2+1+2+7) (some (.rows 1 [[.t .nilp]] false))) (x2+1+2+7) (some (.rows 1 [[.mp kp i 0]] false))) x2 N2 { cv with d:=d2 }:=f2.loc (Nat.le_refl _) fun j hj=>by rw[zaa,if_neg (by omega),zaa,if_neg (by omega)]
 have A6:(updC (updC H2 (x2+1+2+7) (some (.rows 1 [[.t .nilp]] false))) (x2+1+2+7) (some (.rows 1 [[.mp kp i 0]] false))) (x2+1+2+7)=some (.rows 1 [[.mp kp i 0]] false):=by rw[zaa,if_pos rfl]
 have A0:(updC (updC H2 (x2+1+2+7) (some (.rows 1 [[.t .nilp]] false))) (x2+1+2+7) (some (.rows 1 [[.mp kp i 0]] false))) (x+0)=some (.rows 1 [[.mp ck.c 0 0]] false):=by rw[zaa,if_neg (by omega),zaa,if_neg (by omega)];exact SO
 have Am:(updC (updC H2 (x2+1+2+7) (some (.rows 1 [[.t .nilp]] false))) (x2+1+2+7) (some (.rows 1 [[.mp kp i 0]] false))) (x+1+0)=some (.map (zHu zJM L)):=by rw[zaa,if_neg (by omega),zaa,if_neg (by omega)];exact EG
 have L3:=TX;have SZ:=UD i;have Fe:=zKx hp
 have kTp0:Tp ck { cv with d:=d2 } kp:=by
  have : ¬zbg ({ cv with d:=d2 }:CV).pr kp:=fun e=>by simp only[A8]at e;exact e _ _ rfl
  unfold Tp;simp[this]
 have kpn:kp≠x+0/\kp≠x+1+0:=⟨fun e=>(Fh _ (by omega) (by omega)).1 (e▸kTp0),fun e=>(Fh _ (by omega) (by omega)).1 (e▸kTp0)⟩
 have Tk:zGG ct.mn ct.pk p=sortI (p.body.flat.foldl (zGy (zGq ct i).mn (zGq ct i).pk p.module) []):=by rw[zMh];rfl
 by_cases e1:p.locked=bs []
 ·have e1':=eq_true e1;have Hx: ¬zHx ct.locks p=true:=by simp[zHx,e1]
  simp -dsimp -implicitDefEqProofs only[go_sem,seval,g2,h1,SO,CG,M0,Gw,w1,e1',m1,m2,m3,m4,m5,m6,m7,m8];have SU:=A0;have SN:=A6;have TF:=Am;refine zas (zHn (.inl ⟨kp,i,5,rfl⟩)) ?_;rintro r h5 x5 ⟨rfl,Sw,Ux⟩;simp -dsimp -implicitDefEqProofs only[go_sem,seval];obtain⟨kp2,rq,vP2,vL2,q1,q2,q3,q4,q5⟩:=sA.prow L3 (Ss.c p IV);simp only at q1;rw[A8]at q1;injection q1 with q1 _ q1l
  subst q1
  have Tv: ∀j,j<(x2+1+2+9+19)->h5 j=(updC (updC H2 (x2+1+2+7) (some (.rows 1 [[.t .nilp]] false))) (x2+1+2+7) (some (.rows 1 [[.mp kp i 0]] false))) j:=fun j hj=>by
   rw[Sw,zaa,if_neg (by omega),zaa,if_neg (by omega),zaa,if_neg (by omega),zaa,if_neg (by omega)]
  have FX: ∀(z:Option O) (j:Nat),j<(x2+1+2+9+19)->updC h5 x5 z j=(updC (updC H2 (x2+1+2+7) (some (.rows 1 [[.t .nilp]] false))) (x2+1+2+7) (some (.rows 1 [[.mp kp i 0]] false))) j:=fun z j hj=>by rw[zaa,if_neg (by omega)];exact Tv j hj
  have sY: ∀z,CS ck (updC h5 x5 z) x2 N2 { cv with d:=d2 } (zGq ct i):=fun z=>sA.loc (Nat.le_refl _) fun j hj _=>FX z j (by omega)
  have SQ: ∀z,Pw (PrR (updC h5 x5 z) x2 N2) rq ((zGq ct i)).procs:=fun z=>q4.imp fun _ _ o=>o.keep (Nat.le_refl _) fun j j1 j2=>⟨FX z j (by omega),j2⟩
  have SS: ∀z,updC h5 x5 z kp=some (.rows 16 rq false):=fun z=>by rw[FX z kp (by omega)];exact q3
  have NF:({ cv with d:=d2 }:CV).pr= .ms kp 0 rq.length:=by rw[<- q1l];exact A8
  refine zIk (ck:=ck) (x0:=x2) (ks:=(x2+1+2+9+19)+0) (k1:=x+0) (k6:=x2+1+2+7) (k7:=(x2+1+2+9+19)+1) (kp:=kp) (cv:={ cv with d:=d2 }) (ct:=(zGq ct i)) (p:=p) (vP:=vP2) (vL:=vL2) (rp:=rq) (sY _) NF (SS _) (SQ _) L3 q5 L2 (by rw[SZ];omega) (by omega) (by omega) (by omega) (by omega) (by omega) ?_ ?_ ?_ ?_ (by rw[zaa,if_pos rfl]) ?_ (by omega) (by simp -dsimp -implicitDefEqProofs only[go_sem,seval]) (by simp -dsimp -implicitDefEqProofs only[go_sem,seval]) (by simp -dsimp -implicitDefEqProofs only[go_sem,seval]) (Ss.k p IV) (Ss.s p IV).1 (Ss.s p IV).2 ?_
  ·rw[FX _ _ (by omega)];exact SU
  ·rw[FX _ _ (by omega)];exact SN
  ·rw[zaa,if_neg (by omega),Sw,zaa,if_neg (by omega),zaa,if_pos rfl]
  ·rw[zaa,if_neg (by omega),Sw,zaa,if_neg (by omega),zaa,if_neg (by omega),zaa,if_neg (by omega),zaa,if_pos rfl]
  ·rw[zaa,if_neg (by omega),Sw,zaa,if_pos rfl]
  rintro v h6 n6 hK;have Tu:h6 (x2+1+2+7)=some (.rows 1 [[.mp kp i 0]] false):=(hK.fr _ (by omega) (by omega) (by omega) (by omega)).trans (by rw[FX _ _ (by omega)];exact SN);have P0:=hK.pr;have z6:(x2+1+2+7=x5)=False:=eq_false (by omega);have zp:(kp=x5)=False:=eq_false (by omega);have Hi:i<rq.length:=(zH.1 q5).1;have zr:(rq.set i (prw p vP2 vL2 v))[i]? =some (prw p vP2 vL2 v):=by rw[List.getElem?_set_self Hi]
  obtain⟨R,hR⟩: ∃R,R=rq.set i (prw p vP2 vL2 v):=⟨_,rfl⟩
  rw[<- hR]at P0 zr;unfold prw at zr;have zv:=hK.ow.valOf;simp -dsimp -implicitDefEqProofs only[go_sem,seval,z6,zp,Tu,P0,zr,zv];have TI:=hK.fv x5 (by omega);have AS:=(Ss.s p IV).1
  refine zas (zJf (x:=n6) (hK.ow.keep (h':=updC h6 x5 (some .dead)) (Nat.le_refl _) fun q _ z2=>by
   rw[zaa,if_neg];rintro rfl
   exact z2 TI) (Nat.lt_of_le_of_lt (zGP _ _ _ _ _) (by rw[Nd.flat_len,List.length_nil];omega))) ?_
  rintro r h7 n7 ⟨TH,T3,T8⟩;obtain⟨s8,f8,t8,l8⟩:=zIE (sY _) NF (SS _) (SQ _) L3 q5 (by omega) (by omega) hK (Nat.le_trans (by(try simp -dsimp -implicitDefEqProofs only[go_sem,seval]);(try omega)) T3) TH (fun j j1 j2=>by rw[T8 j j1,zaa,if_neg j2]);simp -dsimp -implicitDefEqProofs only[go_sem,seval,g2,hw]
  have Ez:({ (zGq ct i)with procs:=((zGq ct i)).procs.set i { p with calls:=sortI (p.body.flat.foldl (zGy ((zGq ct i):Ct).mn ((zGq ct i):Ct).pk p.module) []) } }:Ct)=zGq ct (i+1):=by
   rw[<- Fe,Tk];have Be:zHB ct.locks (zGq ct i).diags p=(zGq ct i).diags:=by unfold zHB;rw[if_neg Hx]
   rw[Be]
  rw[Ez]at s8
  have kTp:Tp ck { cv with d:=d2 } kp:=by
   have : ¬zbg ({ cv with d:=d2 }:CV).pr kp:=fun e=>by rw[NF]at e;exact e _ _ rfl
   unfold Tp;simp[this]
  refine⟨AV,by simp -dsimp -implicitDefEqProofs only[go_sem,seval],(fun j=>N2 j\/ ¬zbg v j),_,s8.le (by(try simp -dsimp -implicitDefEqProofs only[go_sem,seval]);(try omega)),⟨?_,fun j j1 j2=> ?_,fA.tp,fun j j1 j2=>fA.nn j j1 ((t8 j (by omega)).elim (fun e=>absurd j2 e) id),fun j hj=> .inl (fA.nm j hj),rfl⟩,?_,?_,fun j j1 j2=>⟨(Fh j j1 j2).1,fun e=>(t8 j (by omega)).elim (fun e2=>e2 e) (Fh j j1 j2).2⟩,?_⟩
  ·(try simp -dsimp -implicitDefEqProofs only[go_sem,seval]);(try omega)
  ·by_cases jk:j=kp
   ·subst jk;exact absurd (fA.tp j j1 kTp) j2
   ·simp -dsimp -implicitDefEqProofs only[go_sem,seval];rw[f8 j (by omega) jk (by omega),FX _ _ (by omega)];exact fA.kp j j1 j2
  ·simp -dsimp -implicitDefEqProofs only[go_sem,seval];rw[f8 _ (by omega) (by omega) (by omega),FX _ _ (by omega)];exact SU
  ·simp -dsimp -implicitDefEqProofs only[go_sem,seval];rw[f8 _ (by omega) (by omega) (by omega),FX _ _ (by omega)];exact TF
  ·(try simp -dsimp -implicitDefEqProofs only[go_sem,seval]);(try omega)
 have e1':=eq_false e1
 by_cases e2:zG5 (ct.locks.map fun l=>(l.module,l.name)) (p.module,p.locked)=true
 ·rw[e2]at D2;have Hx: ¬zHx ct.locks p=true:=by simp[zHx,e2]
  simp -dsimp -implicitDefEqProofs only[go_sem,seval,g2,h1,SO,CG,M0,Gw,w1,e1',m1,m2,m3,m4,EG,D2,if_true,Option.getD_some,m5,m6,m7,m8];have SU:=A0;have SN:=A6;have TF:=Am;refine zas (zHn (.inl ⟨kp,i,5,rfl⟩)) ?_;rintro r h5 x5 ⟨rfl,Sw,Ux⟩;simp -dsimp -implicitDefEqProofs only[go_sem,seval];obtain⟨kp2,rq,vP2,vL2,q1,q2,q3,q4,q5⟩:=sA.prow L3 (Ss.c p IV);simp only at q1;rw[A8]at q1;injection q1 with q1 _ q1l
  subst q1
  have Tv: ∀j,j<(x2+1+2+9+19)->h5 j=(updC (updC H2 (x2+1+2+7) (some (.rows 1 [[.t .nilp]] false))) (x2+1+2+7) (some (.rows 1 [[.mp kp i 0]] false))) j:=fun j hj=>by
   rw[Sw,zaa,if_neg (by omega),zaa,if_neg (by omega),zaa,if_neg (by omega),zaa,if_neg (by omega)]
  have FX: ∀(z:Option O) (j:Nat),j<(x2+1+2+9+19)->updC h5 x5 z j=(updC (updC H2 (x2+1+2+7) (some (.rows 1 [[.t .nilp]] false))) (x2+1+2+7) (some (.rows 1 [[.mp kp i 0]] false))) j:=fun z j hj=>by rw[zaa,if_neg (by omega)];exact Tv j hj
  have sY: ∀z,CS ck (updC h5 x5 z) x2 N2 { cv with d:=d2 } (zGq ct i):=fun z=>sA.loc (Nat.le_refl _) fun j hj _=>FX z j (by omega)
  have SQ: ∀z,Pw (PrR (updC h5 x5 z) x2 N2) rq ((zGq ct i)).procs:=fun z=>q4.imp fun _ _ o=>o.keep (Nat.le_refl _) fun j j1 j2=>⟨FX z j (by omega),j2⟩
  have SS: ∀z,updC h5 x5 z kp=some (.rows 16 rq false):=fun z=>by rw[FX z kp (by omega)];exact q3
  have NF:({ cv with d:=d2 }:CV).pr= .ms kp 0 rq.length:=by rw[<- q1l];exact A8
  refine zIk (ck:=ck) (x0:=x2) (ks:=(x2+1+2+9+19)+0) (k1:=x+0) (k6:=x2+1+2+7) (k7:=(x2+1+2+9+19)+1) (kp:=kp) (cv:={ cv with d:=d2 }) (ct:=(zGq ct i)) (p:=p) (vP:=vP2) (vL:=vL2) (rp:=rq) (sY _) NF (SS _) (SQ _) L3 q5 L2 (by rw[SZ];omega) (by omega) (by omega) (by omega) (by omega) (by omega) ?_ ?_ ?_ ?_ (by rw[zaa,if_pos rfl]) ?_ (by omega) (by simp -dsimp -implicitDefEqProofs only[go_sem,seval]) (by simp -dsimp -implicitDefEqProofs only[go_sem,seval]) (by simp -dsimp -implicitDefEqProofs only[go_sem,seval]) (Ss.k p IV) (Ss.s p IV).1 (Ss.s p IV).2 ?_
  ·rw[FX _ _ (by omega)];exact SU
  ·rw[FX _ _ (by omega)];exact SN
  ·rw[zaa,if_neg (by omega),Sw,zaa,if_neg (by omega),zaa,if_pos rfl]
  ·rw[zaa,if_neg (by omega),Sw,zaa,if_neg (by omega),zaa,if_neg (by omega),zaa,if_neg (by omega),zaa,if_pos rfl]
  ·rw[zaa,if_neg (by omega),Sw,zaa,if_pos rfl]
  rintro v h6 n6 hK;have Tu:h6 (x2+1+2+7)=some (.rows 1 [[.mp kp i 0]] false):=(hK.fr _ (by omega) (by omega) (by omega) (by omega)).trans (by rw[FX _ _ (by omega)];exact SN);have P0:=hK.pr;have z6:(x2+1+2+7=x5)=False:=eq_false (by omega);have zp:(kp=x5)=False:=eq_false (by omega);have Hi:i<rq.length:=(zH.1 q5).1;have zr:(rq.set i (prw p vP2 vL2 v))[i]? =some (prw p vP2 vL2 v):=by rw[List.getElem?_set_self Hi]
  obtain⟨R,hR⟩: ∃R,R=rq.set i (prw p vP2 vL2 v):=⟨_,rfl⟩
  rw[<- hR]at P0 zr;unfold prw at zr;have zv:=hK.ow.valOf;simp -dsimp -implicitDefEqProofs only[go_sem,seval,z6,zp,Tu,P0,zr,zv];have TI:=hK.fv x5 (by omega);have AS:=(Ss.s p IV).1
  refine zas (zJf (x:=n6) (hK.ow.keep (h':=updC h6 x5 (some .dead)) (Nat.le_refl _) fun q _ z2=>by
   rw[zaa,if_neg];rintro rfl
   exact z2 TI) (Nat.lt_of_le_of_lt (zGP _ _ _ _ _) (by rw[Nd.flat_len,List.length_nil];omega))) ?_
  rintro r h7 n7 ⟨TH,T3,T8⟩;obtain⟨s8,f8,t8,l8⟩:=zIE (sY _) NF (SS _) (SQ _) L3 q5 (by omega) (by omega) hK (Nat.le_trans (by(try simp -dsimp -implicitDefEqProofs only[go_sem,seval]);(try omega)) T3) TH (fun j j1 j2=>by rw[T8 j j1,zaa,if_neg j2]);simp -dsimp -implicitDefEqProofs only[go_sem,seval,g2,hw]
  have Ez:({ (zGq ct i)with procs:=((zGq ct i)).procs.set i { p with calls:=sortI (p.body.flat.foldl (zGy ((zGq ct i):Ct).mn ((zGq ct i):Ct).pk p.module) []) } }:Ct)=zGq ct (i+1):=by
   rw[<- Fe,Tk];have Be:zHB ct.locks (zGq ct i).diags p=(zGq ct i).diags:=by unfold zHB;rw[if_neg Hx]
   rw[Be]
  rw[Ez]at s8
  have kTp:Tp ck { cv with d:=d2 } kp:=by
   have : ¬zbg ({ cv with d:=d2 }:CV).pr kp:=fun e=>by rw[NF]at e;exact e _ _ rfl
   unfold Tp;simp[this]
  refine⟨AV,by simp -dsimp -implicitDefEqProofs only[go_sem,seval],(fun j=>N2 j\/ ¬zbg v j),_,s8.le (by(try simp -dsimp -implicitDefEqProofs only[go_sem,seval]);(try omega)),⟨?_,fun j j1 j2=> ?_,fA.tp,fun j j1 j2=>fA.nn j j1 ((t8 j (by omega)).elim (fun e=>absurd j2 e) id),fun j hj=> .inl (fA.nm j hj),rfl⟩,?_,?_,fun j j1 j2=>⟨(Fh j j1 j2).1,fun e=>(t8 j (by omega)).elim (fun e2=>e2 e) (Fh j j1 j2).2⟩,?_⟩
  ·(try simp -dsimp -implicitDefEqProofs only[go_sem,seval]);(try omega)
  ·by_cases jk:j=kp
   ·subst jk;exact absurd (fA.tp j j1 kTp) j2
   ·simp -dsimp -implicitDefEqProofs only[go_sem,seval];rw[f8 j (by omega) jk (by omega),FX _ _ (by omega)];exact fA.kp j j1 j2
  ·simp -dsimp -implicitDefEqProofs only[go_sem,seval];rw[f8 _ (by omega) (by omega) (by omega),FX _ _ (by omega)];exact SU
  ·simp -dsimp -implicitDefEqProofs only[go_sem,seval];rw[f8 _ (by omega) (by omega) (by omega),FX _ _ (by omega)];exact TF
  ·(try simp -dsimp -implicitDefEqProofs only[go_sem,seval]);(try omega)
 have e2':=Bool.eq_false_iff.2 e2;rw[e2']at D2;have Hx:zHx ct.locks p=true:=by simp[zHx,e1,e2']
 ·simp -dsimp -implicitDefEqProofs only[go_sem,seval,g2,h1,SO,CG,M0,Gw,w1,e1',m1,m2,m3,m4,EG,D2,zG,if_false,Option.getD_none];refine zas (zLD sA (by omega) 40 p.pos) ?_;rintro r h3 x3 ⟨d3,s3',f3,S1,k3⟩;have s3:=s3';rw[zHF]at s3;have fC:=fA.trans f3;have nTp: ∀j,x<=j->j<x+2-> ¬Tp ck { cv with d:=d3 } j/\ ¬N2 j:=fun j j1 j2=>⟨fun e=>(Fh j j1 j2).1 (f3.tp j (by omega) e),(Fh j j1 j2).2⟩
  have SU:h3 (x+0)=_:=(f3.kp _ (by omega) (Fh _ (by omega) (by omega)).1).trans A0;have TF:h3 (x+1+0)=_:=(f3.kp _ (by omega) (Fh _ (by omega) (by omega)).1).trans Am;have SN:h3 (x2+1+2+7)=_:=(k3 _ (by omega) (by omega)).trans A6;have Oi:=s3.hc;obtain⟨kp3,rp3,vP3,vL3,u1,u2,u3,u4,u5⟩:=s3.prow TX (Ss.c p IV);simp only at u1;rw[A8]at u1;injection u1 with u1 _ u1l
  subst u1;have y1:(x2+1+2+7=x3+0)=False:=eq_false (by omega);have y2:(x2+1+2+7=x3+1)=False:=eq_false (by omega);have y3:(kp=x3+0)=False:=eq_false (by omega);have y4:(kp=x3+1)=False:=eq_false (by omega);simp -dsimp -implicitDefEqProofs only[go_sem,seval,SN,u3,y1,y2,y3,y4];refine zas (zHn (.inl ⟨kp,i,5,rfl⟩)) ?_;rintro r h5 x5 ⟨rfl,Sw,Ux⟩;simp -dsimp -implicitDefEqProofs only[go_sem,seval];obtain⟨kp2,rq,vP2,vL2,q1,q2,q3,q4,q5⟩:=s3.prow L3 (Ss.c p IV);simp only at q1;rw[A8]at q1;injection q1 with q1 _ q1l
  subst q1
  have Tv: ∀j,j<x3->h5 j=h3 j:=fun j hj=>by
   rw[Sw,zaa,if_neg (by omega),zaa,if_neg (by omega),zaa,if_neg (by omega),zaa,if_neg (by omega)]
  have FX: ∀(z:Option O) (j:Nat),j<x3->updC h5 x5 z j=h3 j:=fun z j hj=>by rw[zaa,if_neg (by omega)];exact Tv j hj
  have sY: ∀z,CS ck (updC h5 x5 z) x3 N2 { cv with d:=d3 } { zGq ct i with diags:=zJx (zGq ct i).diags 40 p.pos }:=fun z=>s3.loc (Nat.le_refl _) fun j hj _=>FX z j (by omega)
  have SQ: ∀z,Pw (PrR (updC h5 x5 z) x3 N2) rq ({ zGq ct i with diags:=zJx (zGq ct i).diags 40 p.pos }).procs:=fun z=>q4.imp fun _ _ o=>o.keep (Nat.le_refl _) fun j j1 j2=>⟨FX z j (by omega),j2⟩
  have SS: ∀z,updC h5 x5 z kp=some (.rows 16 rq false):=fun z=>by rw[FX z kp (by omega)];exact q3
  have NF:({ cv with d:=d3 }:CV).pr= .ms kp 0 rq.length:=by rw[<- q1l];exact A8
  refine zIk (ck:=ck) (x0:=x3) (ks:=x3+0) (k1:=x+0) (k6:=x2+1+2+7) (k7:=x3+1) (kp:=kp) (cv:={ cv with d:=d3 }) (ct:={ zGq ct i with diags:=zJx (zGq ct i).diags 40 p.pos }) (p:=p) (vP:=vP2) (vL:=vL2) (rp:=rq) (sY _) NF (SS _) (SQ _) L3 q5 L2 (by rw[SZ];omega) (by omega) (by omega) (by omega) (by omega) (by omega) ?_ ?_ ?_ ?_ (by rw[zaa,if_pos rfl]) ?_ (by omega) (by simp -dsimp -implicitDefEqProofs only[go_sem,seval]) (by simp -dsimp -implicitDefEqProofs only[go_sem,seval]) (by simp -dsimp -implicitDefEqProofs only[go_sem,seval]) (Ss.k p IV) (Ss.s p IV).1 (Ss.s p IV).2 ?_
  ·rw[FX _ _ (by omega)];exact SU
  ·rw[FX _ _ (by omega)];exact SN
  ·rw[zaa,if_neg (by omega),Sw,zaa,if_neg (by omega),zaa,if_pos rfl]
  ·rw[zaa,if_neg (by omega),Sw,zaa,if_neg (by omega),zaa,if_neg (by omega),zaa,if_neg (by omega),zaa,if_pos rfl]
  ·rw[zaa,if_neg (by omega),Sw,zaa,if_pos rfl]
  rintro v h6 n6 hK;have Tu:h6 (x2+1+2+7)=some (.rows 1 [[.mp kp i 0]] false):=(hK.fr _ (by omega) (by omega) (by omega) (by omega)).trans (by rw[FX _ _ (by omega)];exact SN);have P0:=hK.pr;have z6:(x2+1+2+7=x5)=False:=eq_false (by omega);have zp:(kp=x5)=False:=eq_false (by omega);have Hi:i<rq.length:=(zH.1 q5).1;have zr:(rq.set i (prw p vP2 vL2 v))[i]? =some (prw p vP2 vL2 v):=by rw[List.getElem?_set_self Hi]
  obtain⟨R,hR⟩: ∃R,R=rq.set i (prw p vP2 vL2 v):=⟨_,rfl⟩
  rw[<- hR]at P0 zr;unfold prw at zr;have zv:=hK.ow.valOf;simp -dsimp -implicitDefEqProofs only[go_sem,seval,z6,zp,Tu,P0,zr,zv];have TI:=hK.fv x5 (by omega);have AS:=(Ss.s p IV).1
  refine zas (zJf (x:=n6) (hK.ow.keep (h':=updC h6 x5 (some .dead)) (Nat.le_refl _) fun q _ z2=>by
   rw[zaa,if_neg];rintro rfl
   exact z2 TI) (Nat.lt_of_le_of_lt (zGP _ _ _ _ _) (by rw[Nd.flat_len,List.length_nil];omega))) ?_
  rintro r h7 n7 ⟨TH,T3,T8⟩;obtain⟨s8,f8,t8,l8⟩:=zIE (sY _) NF (SS _) (SQ _) L3 q5 (by omega) (by omega) hK (Nat.le_trans (by(try simp -dsimp -implicitDefEqProofs only[go_sem,seval]);(try omega)) T3) TH (fun j j1 j2=>by rw[T8 j j1,zaa,if_neg j2]);simp -dsimp -implicitDefEqProofs only[go_sem,seval,g2,hw]
  have Ez:({ { zGq ct i with diags:=zJx (zGq ct i).diags 40 p.pos }with procs:=({ zGq ct i with diags:=zJx (zGq ct i).diags 40 p.pos }).procs.set i { p with calls:=sortI (p.body.flat.foldl (zGy ({ zGq ct i with diags:=zJx (zGq ct i).diags 40 p.pos }:Ct).mn ({ zGq ct i with diags:=zJx (zGq ct i).diags 40 p.pos }:Ct).pk p.module) []) } }:Ct)=zGq ct (i+1):=by
   have Be:zHB ct.locks (zGq ct i).diags p=zJx (zGq ct i).diags 40 p.pos:=by unfold zHB;rw[if_pos Hx]
   rw[Be]at Fe;rw[<- Fe,Tk];rfl
  rw[Ez]at s8
  have kTp:Tp ck { cv with d:=d3 } kp:=by
   have : ¬zbg ({ cv with d:=d3 }:CV).pr kp:=fun e=>by rw[NF]at e;exact e _ _ rfl
   unfold Tp;simp[this]
  refine⟨AV,by simp -dsimp -implicitDefEqProofs only[go_sem,seval],(fun j=>N2 j\/ ¬zbg v j),_,s8.le (by(try simp -dsimp -implicitDefEqProofs only[go_sem,seval]);(try omega)),⟨?_,fun j j1 j2=> ?_,fC.tp,fun j j1 j2=>fC.nn j j1 ((t8 j (by omega)).elim (fun e=>absurd j2 e) id),fun j hj=> .inl (fC.nm j hj),rfl⟩,?_,?_,fun j j1 j2=>⟨(nTp j j1 j2).1,fun e=>(t8 j (by omega)).elim (fun e2=>e2 e) (nTp j j1 j2).2⟩,?_⟩
  ·(try simp -dsimp -implicitDefEqProofs only[go_sem,seval]);(try omega)
  ·by_cases jk:j=kp
   ·subst jk;exact absurd (fC.tp j j1 kTp) j2
   ·simp -dsimp -implicitDefEqProofs only[go_sem,seval];rw[f8 j (by omega) jk (by omega),FX _ _ (by omega)];exact fC.kp j j1 j2
  ·simp -dsimp -implicitDefEqProofs only[go_sem,seval];rw[f8 _ (by omega) (by omega) (by omega),FX _ _ (by omega)];exact SU
  ·simp -dsimp -implicitDefEqProofs only[go_sem,seval];rw[f8 _ (by omega) (by omega) (by omega),FX _ _ (by omega)];exact TF
  ·(try simp -dsimp -implicitDefEqProofs only[go_sem,seval]);(try omega)
theorem Way.snoc {g:List (List Int)} {i j k:Nat} (t:Way g i j) (h:(k:Int)∈g.getD j []):Way g i k:=by
 induction t with
 | one h1=>exact .cons h1 (.one h)
 | cons h1 t ih=>exact .cons h1 (ih h)
theorem Way.trans {g:List (List Int)} {i j k:Nat} (t:Way g i j) (h:Way g j k):Way g i k:=by
 induction t with
 | one h1=>exact .cons h1 h
 | cons h1 t ih=>exact .cons h1 (ih h)
structure RcI (g:List (List Int)) (n s:Nat) (seen work:List Nat):Prop where
 nd:seen.Nodup
 lt: ∀u∈seen,u<n
 ns:s∉ seen
 way: ∀u∈seen,Way g s u
 sub: ∀u∈work,u=s\/u∈seen
 cl: ∀u,u=s\/u∈seen->u∈work\/ ∀c:Nat,(c:Int)∈g.getD u []->c∈seen
theorem RcI.done {g:List (List Int)} {n s:Nat} {seen:List Nat} (I:RcI g n s seen []): ¬Way g s s:=by
 have key: ∀u v,Way g u v->(u=s\/u∈seen)->v∈seen:=fun u v w=>by
  induction w with
  | one h=>intro hu;exact((I.cl _ hu).resolve_left (by simp)) _ h
  | cons h t ih=>intro hu;exact ih (.inr (((I.cl _ hu).resolve_left (by simp)) _ h))
 exact fun w=>I.ns (key s s w (.inl rfl))
structure RcJ (g:List (List Int)) (n s a:Nat) (seen work:List Nat):Prop where
 nd:seen.Nodup
 lt: ∀u∈seen,u<n
 ns:s∉ seen
 way: ∀u∈seen,Way g s u
 sub: ∀u∈work,u=s\/u∈seen
 at_:a=s\/a∈seen
 cl: ∀u,u=s\/u∈seen->u∈work\/u=a\/ ∀c:Nat,(c:Int)∈g.getD u []->c∈seen
theorem RcI.pop {g:List (List Int)} {n s a:Nat} {seen work:List Nat} (I:RcI g n s seen (work++[a])):RcJ g n s a seen work:=by
 refine⟨I.nd,I.lt,I.ns,I.way,fun u hu=>I.sub u (by simp[hu]),I.sub a (by simp),fun u hu=> ?_⟩;rcases I.cl u hu with h | h
 ·simp only[List.mem_append,List.mem_singleton]at h;exact h.elim .inl fun e=> .inr (.inl e)
 ·exact .inr (.inr h)
theorem RcJ.fin {g:List (List Int)} {n s a:Nat} {seen work:List Nat} (I:RcJ g n s a seen work) (h: ∀c:Nat,(c:Int)∈g.getD a []->c∈seen):RcI g n s seen work:=by
 refine⟨I.nd,I.lt,I.ns,I.way,I.sub,fun u hu=> ?_⟩;rcases I.cl u hu with h1 | rfl | h1
 ·exact .inl h1
 ·exact .inr h
 ·exact .inr h1
theorem RcJ.ext {g:List (List Int)} {n s a:Nat} {seen work:List Nat} (I:RcJ g n s a seen work) {c:Nat} (hc:(c:Int)∈g.getD a []):Way g s c:=by
 rcases I.at_ with rfl | h
 ·exact .one hc
 ·exact(I.way a h).snoc hc
theorem RcJ.push {g:List (List Int)} {n s a:Nat} {seen work:List Nat} (I:RcJ g n s a seen work) {c:Nat} (hc:(c:Int)∈g.getD a []) (hl:c<n) (h1:c≠s) (h2:c∉ seen):RcJ g n s a (seen++[c]) (work++[c]):=by
 refine⟨?_,fun u hu=> ?_,fun h=> ?_,fun u hu=> ?_,fun u hu=> ?_,?_,fun u hu=> ?_⟩
 ·rw[List.nodup_append];refine⟨I.nd,by simp,fun x hx y hy=> ?_⟩;simp only[List.mem_singleton]at hy;subst hy;rintro rfl;exact h2 hx
 ·simp only[List.mem_append,List.mem_singleton]at hu;rcases hu with hu | rfl
  ·exact I.lt u hu
  ·exact hl
 ·simp only[List.mem_append,List.mem_singleton]at h;rcases h with h | h
  ·exact I.ns h
  ·exact h1 h.symm
 ·simp only[List.mem_append,List.mem_singleton]at hu;rcases hu with hu | rfl
  ·exact I.way u hu
  ·exact I.ext hc
 ·simp only[List.mem_append,List.mem_singleton]at hu⊢;rcases hu with hu | rfl
  ·exact(I.sub u hu).imp id .inl
  ·exact .inr (.inr rfl)
 ·exact I.at_.imp id fun h=>by simp[h]
 ·simp only[List.mem_append,List.mem_singleton]at hu⊢
  by_cases U0:u=c
  ·exact .inl (.inr U0)
  ·rcases I.cl u (by rcases hu with h | h | h;exact .inl h;exact .inr h;exact absurd h U0)with h | h | h
   ·exact .inl (.inl h)
   ·exact .inr (.inl h)
   ·exact .inr (.inr fun c hc=> .inl (h c hc))
theorem zHW: ∀(n:Nat) (l:List Nat),l.Nodup->(∀x∈l,x<n)->l.length<=n
 | 0,l,_,h=>by
   cases l with
   | nil=>simp
   | cons a l=>exact absurd (h a (by simp)) (by omega)
 | n+1,l,hn,h=>by
   have h1:(l.erase n).length<=n:=zHW n _ (hn.erase n) fun x hx=>by
    have h2:=h x (List.mem_of_mem_erase hx);have h3:x≠n:=by rintro rfl;exact hn.not_mem_erase hx
    omega
   by_cases hm:n∈l
   ·have:=List.length_erase_of_mem hm;omega
   ·rw[List.erase_of_not_mem hm]at h1;omega
def Ct.cok (ct:Ct):Prop:= ∀p∈ct.procs,p.calls.length<2^30/\ ∀c∈p.calls,∃j:Nat,c=j/\j<ct.procs.length
theorem CS.prow2 {ck:CK} {h:Nat->Option O} {x:Nat} {N:Nat->Prop} {cv:CV} {ct:Ct} (s:CS ck h x N cv ct) (h0:ct.procs≠[]):
 ∃kp rp,cv.pr= .ms kp 0 rp.length/\kp<x/\h kp=some (.rows 16 rp false)/\rp.length=ct.procs.length/\ ∀(i:Nat) (p:Pr),ct.procs[i]? =some p-> ∃vP vL vC,rp[i]? =some (prw p vP vL vC)/\Nst h x N vP 7 (p.params.map Va.enc)/\Nst h x N vL 7 (p.locals.map Va.enc)/\Nst h x N vC 1 (p.calls.map fun n=>[ti n]):=by
 obtain⟨rp,p1,p2⟩:=s.pr;rcases p1 with⟨_,D7⟩ | ⟨kp,A8,RK,M0⟩
 ·have:=p2.1;rw[D7]at this;simp at this;exact absurd (List.eq_nil_of_length_eq_zero this.symm) h0
 refine⟨kp,rp,A8,RK,M0,p2.1,fun i p hi=> ?_⟩;obtain⟨row,Ap,_⟩:=zai (l:=rp) (i:=i) (by rw[p2.1];exact(zH.1 hi).1);obtain⟨vP,vL,vC,hR,Tb,T2,Ts,Dm⟩:=(p2.2 i _ p Ap hi).row;subst hR;exact⟨vP,vL,vC,Ap,Tb,T2,Ts⟩
theorem zKa {ck:CK} {h:Nat->Option O} {x:Nat} {N:Nat->Prop} {cv:CV} {ct:Ct} (s:CS ck h x N cv ct) (BL:ct.procs.length<2^29) (Tk:ct.cok) (i:Nat) (hi:i<ct.procs.length):
 ∃r h' x',DenR Γ G 628 [.mp ck.c 0 0,vi i] h x=some (r,h',x')/\(r=vb (reachB ct.graph i)/\x<=x'/\ ∀j,j<x->h' j=h j):=by
 have hc:=s.hc;obtain⟨kp,rp,A8,RK,M0,Bb,Ap⟩:=s.prow2 (fun e=>by rw[e]at hi;simp at hi);rw[A8]at hc;have lc:=s.lt.1
 (refine zay Γ628 rfl ?_;dsimp only[zOc])
 simp -dsimp -implicitDefEqProofs only[go_sem,seval];refine zaq 36028797018956496 (ct.procs.length+1) (fun m f h' x'=> ∃seen work,RcI ct.graph ct.procs.length i seen work/\m+work.length=seen.length+1/\h' (x+1+0)=some (.map (zHu ti (seen.map fun(j:Nat)=>(j:Int))))/\PS h' x' (x+1+0) x (fun _=>False) (f 6).v (work.map fun(j:Nat)=>vi j)/\x+2<=x'/\ ∀j,j<x->h' j=h j) rfl ?_ ?_
 ·refine⟨[],[i],⟨List.nodup_nil,by simp,by simp,by simp,by simp,fun u hu=> ?_⟩,by simp,?_,⟨x+1+2+1,[],by simp -dsimp -implicitDefEqProofs only[go_sem,seval];(try rfl),by omega,by(try simp -dsimp -implicitDefEqProofs only[go_sem,seval]);(try omega),?_,fun h=>h,by omega⟩,by(try simp -dsimp -implicitDefEqProofs only[go_sem,seval]);(try omega),fun j hj=> ?_⟩
  ·left;simpa using hu
  ·simp only[zaC,zaA];rw[zaa,if_neg (by omega),zaa,if_pos rfl];rfl
  ·simp only[zaC,zaA];rw[zaa,if_pos rfl];rfl
  ·simp only[zaC,zaA];rw[zaa,if_neg (by omega),zaa,if_neg (by omega)]
 rintro m f u H1 x1 bb hm ⟨seen,work,I,IY,Ho,Cd,KA,AT⟩;have BA:=zHW _ _ I.nd I.lt;have TV:=Cd;obtain⟨kw,rest,g6,Ef,U8,S3,_,Tq⟩:=TV;rcases zLx work with rfl | ⟨W1,at_,rfl⟩
 ·simp -dsimp -implicitDefEqProofs only[go_sem,seval,g6,S3];refine⟨?_,by(try simp -dsimp -implicitDefEqProofs only[go_sem,seval]);(try omega),AT⟩;rw[show reachB ct.graph i=false from by unfold reachB;simp[I.done]]
  try rfl
 rw[List.map_append,List.map_cons,List.map_nil]at g6 S3;have hl:(W1.map (fun(j:Nat)=>vi j)++[vi at_]).length=W1.length+1:=by simp
 rw[hl]at g6;have c1:(((W1.length+1:Nat):Int)>0)=True:=eq_true (by omega);have hW:W1.length+1<=ct.procs.length+1:=by simp at IY;omega
 have c2:IntKind.i64.wrap (((W1.length+1:Nat):Int)-1)=(W1.length:Int):=by
  have:(((W1.length+1:Nat):Int)-1)=(W1.length:Int):=by omega
  rw[this];exact zaH (by omega)
 have c3:((W1.map fun(j:Nat)=>vi j).map (fun p=>[p])++[[vi at_]]++rest)[W1.length]? =some [vi at_]:=by
  rw[zQ,List.getElem?_append_right (by simp)];simp
 rw[List.map_append,List.map_cons,List.map_nil]at S3;have c4:((W1.length:Int)<=((W1.length+1:Nat):Int))=True:=eq_true (by omega);have c5:((W1.length:Int)-0).toNat=W1.length:=by omega
 have Bj:at_<ct.procs.length:=by
  rcases I.sub at_ (by simp)with h | h
  ·omega
  ·exact I.lt _ h
 obtain⟨p,hp,IV⟩:=zai Bj;obtain⟨vP,vL,vC,hr,Tb,T2,Ts⟩:=Ap at_ p hp;have Dz:=hr;unfold prw at Dz;have w1:((at_:Int)<(rp.length:Int))=True:=eq_true (by omega);have Dr:H1 ck.c=_:=(AT _ lc).trans hc;have DC:H1 kp=_:=(AT _ RK).trans M0;have Ub:=Ts.keep (Nat.le_refl _) (N':=N) fun j j1 j2=>⟨AT j j1,j2⟩
 have sl:=zJl Ub (fun e he=>by obtain⟨q,_,rfl⟩:=List.mem_map.1 he;rfl);have v1:=sl.vl;have v2:=sl.ln;rw[show(zGk (p.calls.map fun n=>[ti n])).length=p.calls.length by simp]at v2;simp -dsimp -implicitDefEqProofs only[go_sem,seval,g6,S3,c1,c2,c3,c4,c5,Dr,DC,w1,Dz,v1,v2];have Pl:ct.graph.getD at_ []=p.calls:=by simp[Ct.graph,List.getD,hp]
 obtain⟨By,Gc⟩:=Tk p IV;refine zaq 36028659580011088 p.calls.length (fun c f' h' x'=>(f' 37).v=vi c/\ ∃seen work,RcJ ct.graph ct.procs.length i at_ seen work/\m+1+work.length=seen.length+1/\h' (x+1+0)=some (.map (zHu ti (seen.map fun(j:Nat)=>(j:Int))))/\PS h' x' (x+1+0) x (fun _=>False) (f' 6).v (work.map fun(j:Nat)=>vi j)/\x+2<=x'/\(∀j,j<x->h' j=h j)/\ ∀(c' q:Nat),c'<c->p.calls[c']? =some (q:Int)->q∈seen) rfl ?_ ?_
 ·refine⟨by simp -dsimp -implicitDefEqProofs only[go_sem,seval],seen,W1,I.pop,by simp at IY;omega,Ho,⟨kw,[vi at_]::rest,by simp -dsimp -implicitDefEqProofs only[go_sem,seval,g6,c5];(try simp),Ef,by(try simp -dsimp -implicitDefEqProofs only[go_sem,seval]);(try omega),?_,fun h=>h,Tq⟩,by(try simp -dsimp -implicitDefEqProofs only[go_sem,seval]);(try omega),AT,fun c' q h=>by omega⟩;rw[S3];simp
 rintro c f' u' H2 x2 b2 CG ⟨g37,seen2,work2,J,U1,RI,SJ,ML,AF,DQ⟩;have PU:=zHW _ _ J.nd J.lt
 by_cases Fs:c<p.calls.length
 rotate_left
 ·have e1:=eq_false Fs;have O1:c=p.calls.length:=by omega
  simp -dsimp -implicitDefEqProofs only[go_sem,seval,g37,e1];refine⟨by simp at IY;omega,seen2,work2,J.fin fun c hc=> ?_,by omega,RI,?_,by(try simp -dsimp -implicitDefEqProofs only[go_sem,seval]);(try omega),AF⟩
  rotate_left
  ·simp -dsimp -implicitDefEqProofs only[go_sem,seval];refine SJ.le ?_
   (try simp -dsimp -implicitDefEqProofs only[go_sem,seval]);(try omega)
  rw[Pl]at hc;obtain⟨c',Bz⟩:=List.getElem?_of_mem hc;exact DQ c' c (by have:=(zH.1 Bz).1;omega) Bz
 have e1:=eq_true Fs;obtain⟨n0,Cg,GE⟩:=zai Fs;obtain⟨q,rfl,Ed⟩:=Gc n0 GE;have U3:(q:Int)∈ct.graph.getD at_ []:=by rw[Pl];exact GE
 have hw:=zan c (by omega);rcases Ts with⟨_,he⟩ | ⟨kq,fq,rfl,Te,Uh,Td⟩
 ·have:=congrArg List.length he;simp only[List.length_map,List.length_nil]at this;omega
 have I4:=(AF _ Te).trans Td;have DY:(zGk (p.calls.map fun n=>[ti n]))[c]? =some [.t (ti (q:Int))]:=by rw[zGk,zJ,zJ,Cg];rfl
 have w2:(c<p.calls.length)=True:=eq_true Fs
 by_cases Qb:q=i
 ·subst Qb;have e2:((q:Int)=(q:Int))=True:=eq_true rfl;simp -dsimp -implicitDefEqProofs only[go_sem,seval,g37,e1,I4,DY,w2,e2];refine⟨?_,by(try simp -dsimp -implicitDefEqProofs only[go_sem,seval]);(try omega),AF⟩;rw[show reachB ct.graph q=true from by unfold reachB;simp[J.ext U3]]
  try rfl
 have e2:((q:Int)=(i:Int))=False:=eq_false (by omega);have D2:=zIQ zHd (q:Int) (seen2.map fun(j:Nat)=>(j:Int))
 by_cases Tn:q∈seen2
 ·have hh:zG5 (seen2.map fun(j:Nat)=>(j:Int)) (q:Int)=true:=zIf.2 (List.mem_map.2 ⟨q,Tn,rfl⟩);rw[hh]at D2;simp -dsimp -implicitDefEqProofs only[go_sem,seval,g37,e1,I4,DY,w2,e2,RI,D2,if_true,Option.getD_some,hw];refine⟨Fs,by simp -dsimp -implicitDefEqProofs only[go_sem,seval],seen2,work2,J,by omega,RI,?_,by(try simp -dsimp -implicitDefEqProofs only[go_sem,seval]);(try omega),AF,fun c' q' h1 h2=> ?_⟩
  ·simp -dsimp -implicitDefEqProofs only[go_sem,seval];refine SJ.le ?_
   (try simp -dsimp -implicitDefEqProofs only[go_sem,seval]);(try omega)
  by_cases ST:c'=c
  ·subst ST;rw[Cg]at h2;have:q=q':=by simp only[zA]at h2;omega
   exact this▸Tn
  ·exact DQ c' q' (by omega) h2
 have hh:zG5 (seen2.map fun(j:Nat)=>(j:Int)) (q:Int)=false:=Bool.eq_false_iff.2 fun h=>Tn (by
  obtain⟨j,hj,he⟩:=List.mem_map.1 (zIf.1 h);have:j=q:=by omega
  exact this▸hj)
 rw[hh]at D2;have Gy:=zLr zHd (q:Int) _ hh;have y1:=SJ.vl
 have K1: ∀z,PS (updC H2 (x+1+0) z) x2 (x+1+0) x (fun _=>False) (f' 6).v (work2.map fun(j:Nat)=>vi j):=fun z=>by
  obtain⟨k,rest,h1,h2,h3,h4,h5,h6⟩:=SJ;exact⟨k,rest,h1,h2,h3,by rw[zaa,if_neg h6];exact h4,h5,h6⟩
 have y2: ∀z (a b c d e g:Nat) z',Rg.rowsS (updC (updC H2 (x+1+0) z) (x2+a+b+c+d+e+g) z') (f' 6).v=some ((work2.map fun(j:Nat)=>vi j).map fun p=>[p]):=fun z a b c d e g z'=>((K1 z).upd (by omega) z').rowsS
 simp -dsimp -implicitDefEqProofs only[go_sem,seval,g37,e1,I4,DY,w2,e2,RI,D2,zG,if_false,Option.getD_none,Gy,hw,y1,y2];refine zLE ((K1 _).upd (by omega) _) (by omega) (by simp;omega) (by omega) (fun j hj=>hj.elim) ?_;intro v9 Ta hP Vf Ls;have z1:=hP.vl;simp -dsimp -implicitDefEqProofs only[go_sem,seval,z1,g37,hw];refine⟨Fs,by simp -dsimp -implicitDefEqProofs only[go_sem,seval],seen2++[q],work2++[q],J.push U3 Ed Qb Tn,by simp;omega,?_,?_,by(try simp -dsimp -implicitDefEqProofs only[go_sem,seval]);(try omega),fun j hj=> ?_,fun c' q' h1 h2=> ?_⟩
 ·simp -dsimp -implicitDefEqProofs only[go_sem,seval];rw[Vf _ (by omega) (.inr rfl),zaa,if_neg (by omega),zaa,if_pos rfl];simp
 ·simp -dsimp -implicitDefEqProofs only[go_sem,seval];rw[List.map_append];refine hP.le ?_
  (try simp -dsimp -implicitDefEqProofs only[go_sem,seval]);(try omega)
 ·simp -dsimp -implicitDefEqProofs only[go_sem,seval];rw[Ls j hj,zaa,if_neg (by omega),zaa,if_neg (by omega)];exact AF j hj
 ·by_cases ST:c'=c
  ·subst ST;rw[Cg]at h2;have:q=q':=by simp only[zA]at h2;omega
   simp[this]
  ·have:=DQ c' q' (by omega) h2;simp[this]
theorem zIT {α:Type} {l:List α} {i:Nat} {a:α} (h:l[i]? =some a):l.zipIdx[i]? =some (a,i):=by
 rw[List.getElem?_zipIdx,h];simp
theorem zLm {ck:CK} {h:Nat->Option O} {x:Nat} {N:Nat->Prop} {cv:CV} {ct:Ct} (s:CS ck h x N cv ct) (BL:ct.procs.length<2^29) (Tk:ct.cok):
 ∃r h' x',DenR Γ G 612 [.mp ck.c 0 0] h x=some (r,h',x')/\ ∃N' cv',CS ck h' x' N' cv' ct.cyclesM/\FrC ck h x N cv h' x' N' cv':=by
 have hc:=s.hc;obtain⟨rp0,p1,p2⟩:=s.pr;have v1:=p1.valOf;have v2:=p1.lenS;rw[p2.1]at v2
 (refine zay Γ612 rfl ?_;dsimp only[zOn])
 simp -dsimp -implicitDefEqProofs only[go_sem,seval,hc,v1,v2];refine zaq 134216716 ct.procs.length (fun i f h' x'=>(f 10).v=vi i/\ ∃d,CS ck h' x' N { cv with d:=d } { ct with diags:=(ct.procs.zipIdx.take i).foldl (cycD ct.graph) ct.diags }/\FrC ck h x N cv h' x' N { cv with d:=d }) rfl ⟨by simp -dsimp -implicitDefEqProofs only[go_sem,seval],cv.d,s.le (by(try simp -dsimp -implicitDefEqProofs only[go_sem,seval]);(try omega)),FrC.refl.loc (by(try simp -dsimp -implicitDefEqProofs only[go_sem,seval]);(try omega)) fun _ _=>rfl⟩ ?_;rintro i f u H1 x1 bb hi ⟨g,d,s1,f1⟩
 by_cases AV:i<ct.procs.length
 rotate_left
 ·have h1:=eq_false AV;have:i=ct.procs.length:=by omega
  subst this;simp -dsimp -implicitDefEqProofs only[go_sem,seval,g,h1];have:(ct.procs.zipIdx.take ct.procs.length)=ct.procs.zipIdx:=List.take_of_length_le (by simp);rw[this]at s1;exact⟨N,_,s1.le (by(try simp -dsimp -implicitDefEqProofs only[go_sem,seval]);(try omega)),f1.loc (by(try simp -dsimp -implicitDefEqProofs only[go_sem,seval]);(try omega)) fun _ _=>rfl⟩
 have h1:=eq_true AV;obtain⟨p,hp,IV⟩:=zai AV;have hw:=zan i (by omega);obtain⟨kp,rp,A8,RK,M0,Bb,Ap⟩:=s1.prow2 (fun e=>by simp only at e;rw[e]at AV;simp at AV);simp only at A8 Bb Ap;obtain⟨vP,vL,vC,hr,_⟩:=Ap i p hp;unfold prw at hr;have w1:(i<rp.length)=True:=eq_true (by omega);have hz:=zaf (zIT hp);have LC:(ct.procs.zipIdx.take (i+1)).foldl (cycD ct.graph) ct.diags=cycD ct.graph ((ct.procs.zipIdx.take i).foldl (cycD ct.graph) ct.diags) (p,i):=by rw[hz,List.foldl_append];rfl
 rw[LC]
 generalize(ct.procs.zipIdx.take i).foldl (cycD ct.graph) ct.diags=dg at *
 have Dr:=s1.hc;simp -dsimp -implicitDefEqProofs only[go_sem,seval,g,h1,A8,M0,w1,hr];refine zas (zKa (s1.le (by omega)) BL Tk i AV) ?_;rintro r h2 x2 ⟨rfl,ML,AF⟩;have s2:=s1.loc (h'':=h2) (x'':=x2) (by omega) fun j hj _=>AF j (by omega)
 have f2:FrC ck h x N cv h2 x2 N { cv with d:=d }:=f1.loc (by omega) fun j hj=>AF j (by have:=f1.le;omega)
 have Pl:({ ct with diags:=dg }:Ct).graph=ct.graph:=rfl
 by_cases hb:reachB ct.graph i=true
 ·have E1:cycD ct.graph dg (p,i)=zJx dg 42 p.pos:=by unfold cycD;rw[if_pos hb]
  rw[E1];have CG:=s2.hc;simp -dsimp -implicitDefEqProofs only[go_sem,seval,Pl,hb,CG];refine zas (zLD s2 (by omega) 42 p.pos) ?_;rintro r h3 x3 ⟨d3,s3,f3,_,_⟩;rw[zHF]at s3;simp -dsimp -implicitDefEqProofs only[go_sem,seval,g,hw];refine⟨AV,by simp -dsimp -implicitDefEqProofs only[go_sem,seval],d3,?_,?_⟩
  ·exact s3.le (by(try simp -dsimp -implicitDefEqProofs only[go_sem,seval]);(try omega))
  ·exact(f2.trans f3).loc (by(try simp -dsimp -implicitDefEqProofs only[go_sem,seval]);(try omega)) fun _ _=>rfl
 ·have Bf:=Bool.eq_false_iff.2 hb;have E1:cycD ct.graph dg (p,i)=dg:=by unfold cycD;rw[if_neg hb]
  rw[E1];simp -dsimp -implicitDefEqProofs only[go_sem,seval,Pl,Bf,g,hw];refine⟨AV,by simp -dsimp -implicitDefEqProofs only[go_sem,seval],d,?_,?_⟩
  ·exact s2.le (by(try simp -dsimp -implicitDefEqProofs only[go_sem,seval]);(try omega))
  ·exact f2.loc (by(try simp -dsimp -implicitDefEqProofs only[go_sem,seval]);(try omega)) fun _ _=>rfl
end Rg
end
