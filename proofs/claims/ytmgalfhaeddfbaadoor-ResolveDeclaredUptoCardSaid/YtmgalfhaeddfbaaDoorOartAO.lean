/- Part of the proof of laws of relyguardlaw04. No condition. -/
import Derived.Test.YtmgalfhaeddfbaaDoorOartAN
set_option linter.unusedSimpArgs false
set_option linter.unusedVariables false
section
namespace Rg
open Go
def zNs {α:Type} [DecidableEq α] (l:List α) (a:α):List α:=if zG5 l a=true then l else l++[a]
theorem zKT {α:Type} [DecidableEq α] (k:α): ∀(ks l:List α),zG5 (ks.foldl zNs l) k=(zG5 l k||zG5 ks k)
 | [],l=>by simp[zG5]
 | a::ks,l=>by
   rw[List.foldl_cons,zKT k ks]
   have h1:zG5 (zNs l a) k=(zG5 l k||decide (a=k)):=by
    unfold zNs;split
    ·rename_i h
     by_cases TN:a=k
     ·subst TN;simp[h]
     ·simp[TN]
    ·simp[zG5]
   rw[h1];simp[zG5,Bool.or_assoc]
theorem zMv {ck:CK} {h:Nat->Option O} {x:Nat} {N:Nat->Prop} {cv:CV} {ct:Ct} (s:CS ck h x N cv ct) (e pos:Int):
 ∃r h' x',DenR Γ G 607 [vi e,.agg [vi 0,.t (.str (bs [])),.t (.str (bs [])),vi 0,vi 0,vi 0,vb false,.t .nils,vi pos],.mp ck.d 0 0] h x=some (r,h',x')/\ ∃v',CS ck h' x' N { cv with d:=v' } (ct.report e pos)/\FrC ck h x N cv h' x' N { cv with d:=v' }:=by
 have hd:=s.hd;have v1:=s.od.valOf;have v2:=s.od.lenS;rw[show(zGk (dgT ct.diags)).length=ct.diags.length by simp]at v2
 (refine zay Γ607 rfl ?_;dsimp only[zNN])
 by_cases hl:ct.diags.length<20
 ·have h1:((ct.diags.length:Int)<20)=True:=eq_true (by omega);have r1:=s.od.r3;simp -dsimp -implicitDefEqProofs only[go_sem,seval,hd,v1,v2,h1,r1];refine zav (s.od.upd (by omega) _) (by omega) (by simp;omega) (by decide) rfl (by simp) ?_;intro v hp hP Bp Aq;have z1:=hP.valOf;have z2:=zGv hP;unfold V.cells at z2;have RV:zbg cv.d ck.d:=zGA s.od hd (by decide);have GX:=Aq ck.d (by have:=s.lt.2.1;omega) RV;rw[zaa,if_neg (by have:=s.lt.2.1;omega),hd]at GX;simp -dsimp -implicitDefEqProofs only[go_sem,seval,z1,z2,GX];unfold Ct.report;rw[if_pos hl];have ld:=s.lt.2.1;refine⟨v,s.setD ?_ ?_ ?_ (fun j hj=>Bp j (by omega)) (fun j hj j1 j2=> ?_)⟩
  ·(try simp -dsimp -implicitDefEqProofs only[go_sem,seval]);(try omega)
  ·simp only[zaC,zaA];rw[zaa,if_pos rfl]
  ·rw[dgT,List.map_append,zGk,List.map_append];simp only[zaC,zaA];refine zaF.keep (rows:=_) hP (by(try simp -dsimp -implicitDefEqProofs only[go_sem,seval]);(try omega)) fun q q1 q2=> ?_
   have:q≠ck.d:=by rintro rfl;exact q2 (Bp _ (by omega))
   rw[zaa,if_neg this]
  ·simp only[zaC,zaA];rw[zaa,if_neg j1,Aq j (by omega) j2,zaa,if_neg (by omega)]
 ·have h1:((ct.diags.length:Int)<20)=False:=eq_false (by omega);simp -dsimp -implicitDefEqProofs only[go_sem,seval,hd,v1,v2,h1];unfold Ct.report;rw[if_neg hl];have hx: ∀a b,x<=addC (addC x a) b:=fun a b=>Nat.le_trans (zhI _ _) (zhI _ _)
  refine⟨cv.d,s.keep (hx _ _) (fun _ _ _=>rfl) (fun _ _ h=>h) s.nt (fun j h=>Nat.lt_of_lt_of_le (s.nl j h) (hx _ _)),hx _ _,fun _ _ _=>rfl,fun _ _ h=>h,fun _ _ h=>h,fun _ h=>h,rfl⟩
theorem zLD {ck:CK} {h:Nat->Option O} {x y:Nat} {N:Nat->Prop} {cv:CV} {ct:Ct} (s:CS ck h x N cv ct) (hy:x<=y) (e pos:Int):
 ∃r h' x',DenR Γ G 607 [vi e,.agg [vi 0,.t (.str (bs [])),.t (.str (bs [])),vi 0,vi 0,vi 0,vb false,.t .nils,vi pos],.mp ck.d 0 0] h y=some (r,h',x')/\ ∃v',CS ck h' x' N { cv with d:=v' } (ct.report e pos)/\FrC ck h x N cv h' x' N { cv with d:=v' }/\y<=x'/\ ∀j,x<=j->j<y->h' j=h j:=by
 obtain⟨r,h',x',h1,cv',h2,h3⟩:=zMv (s.le hy) e pos;exact⟨r,h',x',h1,cv',h2,h3.lo hy,h3.le,fun j j1 j2=>h3.kp j j2 (s.below j1)⟩
theorem CS.prow {ck:CK} {h:Nat->Option O} {x:Nat} {N:Nat->Prop} {cv:CV} {ct:Ct} (s:CS ck h x N cv ct) {i:Nat} {p:Pr} (hi:ct.procs[i]? =some p) (hc:p.calls=[]):
 ∃kp rp vP vL,cv.pr= .ms kp 0 rp.length/\kp<x/\h kp=some (.rows 16 rp false)/\Pw (PrR h x N) rp ct.procs/\rp[i]? =some (prw p vP vL (.t .nils)):=by
 obtain⟨rp,p1,p2⟩:=s.pr;have AV:=(zH.1 hi).1;rcases p1 with⟨_,D7⟩ | ⟨kp,A8,RK,M0⟩
 ·have:=p2.1;rw[D7]at this;simp at this;omega
 obtain⟨row,Ap,_⟩:=zai (l:=rp) (i:=i) (by rw[p2.1];exact AV);obtain⟨vP,vL,vC,hR,Tb,T2,Ts,Dm⟩:=(p2.2 i _ p Ap hi).row;have Fc:=Dm hc;subst Fc;subst hR;exact⟨kp,rp,vP,vL,A8,RK,M0,p2,Ap⟩
structure Ct.bok (ct:Ct):Prop where
 k: ∀p∈ct.procs,p.body.kind≠33
 s: ∀p∈ct.procs,p.body.size<900/\p.body.sane
 c: ∀p∈ct.procs,p.calls=[]
theorem zMh (ct:Ct) (i:Nat):(zGq ct i).pk=ct.pk:=by
 unfold zGq Ct.pk;simp only[List.map_append,List.map_map]
 conv=>rhs;rw[<- List.take_append_drop i ct.procs,List.map_append]
 rfl
theorem zKx {ct:Ct} {i:Nat} {p:Pr} (hp:ct.procs[i]? =some p): { zGq ct i with diags:=zHB ct.locks (zGq ct i).diags p,procs:=(zGq ct i).procs.set i { p with calls:=zGG ct.mn ct.pk p } }=zGq ct (i+1):=by
 have AV:=(zH.1 hp).1;unfold zGq;simp only[Ct.mk.injEq,true_and,and_true];refine⟨?_,?_⟩
 ·rw[zaf hp,List.map_append,List.set_append_right _ _ (by simp;omega)];simp only[List.length_map,List.length_take,Nat.min_eq_left (Nat.le_of_lt AV),Nat.sub_self];rw[List.drop_eq_getElem_cons AV,List.set_cons_zero,zQ];have h2:=(zH.1 hp).2;simp
 ·rw[zaf hp,List.foldl_append];rfl
theorem zMg {ck:CK} {h:Nat->Option O} {x:Nat} {N:Nat->Prop} {cv:CV} {ct:Ct} (s:CS ck h x N cv ct) (VJ:ct.mods.length<2^40) (BL:ct.procs.length<2^30) (FZ:ct.locks.length<2^30) (Ss:ct.bok):
 ∃r h' x',DenR Γ G 611 [.mp ck.c 0 0] h x=some (r,h',x')/\ ∃N' cv',CS ck h' x' N' cv' ct.callsM/\FrC ck h x N cv h' x' N' cv':=by
 have hc:=s.hc;have v1:=s.lo.valOf;have lc:=s.lt.1;have na:(x+0=x+1+0)=False:=eq_false (by omega);have nc0:(ck.c=x+0)=False:=eq_false (by omega);have nc1:(ck.c=x+1+0)=False:=eq_false (by omega);have lk12: ∀l:Lk,l.enc.map V.t=[.t (.str l.name),.t (ti l.module),.t (ti l.inv.kind),.t (.str l.inv.name),.t (.str l.inv.other),.t (ti l.inv.n),.t (ti l.inv.len),.t (ti l.inv.init),.t (tb l.inv.ghost),.t (.sl (l.inv.kids.map Nd.enc)),.t (ti l.inv.pos),.t (ti l.pos)]:=fun l=>by simp[Lk.enc,Nd.enc_eq]
 have slo:=zHh s.lo (fun r hr=>by
  obtain⟨z,hz,rfl⟩:=List.mem_map.1 hr;obtain⟨z,hz,rfl⟩:=List.mem_map.1 hz
  simp[zL0])
 (refine zay Γ611 rfl ?_;dsimp only[zOo])
 have v3: ∀z z',Rg.lenS (updC (updC h (x+0) z) (x+1+0) z') cv.lo=some ct.locks.length:=fun z z'=>by
  rw[((s.lo.upd (q:=x+0) (by omega) z).upd (q:=x+1+0) (by omega) z').lenS];simp
 simp -dsimp -implicitDefEqProofs only[go_sem,seval,hc,v1,v3,na,nc0,nc1];refine zaq 536608784 ct.locks.length (fun i f h' x'=>(f 18).v=vi i/\h' (x+1+0)=some (.map (zHu zJM (((ct.locks.take i).map fun l=>(l.module,l.name)).foldl zNs [])))/\h' (x+0)=some (.rows 1 [[.mp ck.c 0 0]] false)/\(∀j,j<x->h' j=h j)/\x+2<=x') rfl ?_ ?_
 ·refine⟨by simp -dsimp -implicitDefEqProofs only[go_sem,seval],?_,?_,fun j hj=> ?_,by(try simp -dsimp -implicitDefEqProofs only[go_sem,seval]);(try omega)⟩
  ·simp only[zaC,zaA];rw[zaa,if_pos rfl];rfl
  ·simp only[zaC,zaA];rw[zaa,if_neg (by omega),zaa,if_pos rfl]
  ·simp only[zaC,zaA];rw[zaa,if_neg (by omega),zaa,if_neg (by omega)]
 rintro i f u H1 x1 bb hi ⟨g,EG,SO,AT,KA⟩;have s1:=s.loc (h'':=H1) (x'':=x1) (by omega) fun j hj _=>AT j hj
 have slo1:=zHh s1.lo (fun r hr=>by
  obtain⟨z,hz,rfl⟩:=List.mem_map.1 hr;obtain⟨z,hz,rfl⟩:=List.mem_map.1 hz
  simp[zL0])
 by_cases AV:i<ct.locks.length
 ·have h1:=eq_true AV;obtain⟨a,ha,Cp⟩:=zai AV;have hw:=zan i (by omega);have Bj:(zGk (ct.locks.map Lk.enc))[i]? =some (a.enc.map V.t):=by rw[zGk,zJ,zJ,ha];rfl
  obtain⟨p,k1,k2,k3⟩:=slo1.at_ i _ Bj;rw[lk12]at k3;have Gy:=zNE zGR (a.module,a.name) (((ct.locks.take i).map fun l=>(l.module,l.name)).foldl zNs []);simp -dsimp -implicitDefEqProofs only[go_sem,seval,g,h1,v1,↓k1,k2,↓k3,EG,Gy,hw];refine⟨AV,by simp -dsimp -implicitDefEqProofs only[go_sem,seval],?_,?_,fun j hj=> ?_,by(try simp -dsimp -implicitDefEqProofs only[go_sem,seval]);(try omega)⟩
  ·simp -dsimp -implicitDefEqProofs only[go_sem,seval];rw[zaf ha,List.map_append,List.foldl_append];rfl
  ·simp -dsimp -implicitDefEqProofs only[go_sem,seval];rw[if_neg (by omega)];exact SO
  ·simp -dsimp -implicitDefEqProofs only[go_sem,seval];rw[if_neg (by omega)];exact AT j hj
 have h1:=eq_false AV;have:i=ct.locks.length:=by omega
 subst this;rw[List.take_length]at EG
 generalize hL:(ct.locks.map fun l=>(l.module,l.name)).foldl zNs []=L at EG
 have Vr: ∀k,zG5 L k=zG5 (ct.locks.map fun l=>(l.module,l.name)) k:=fun k=>by
  rw[<- hL,zKT];simp[zG5]
 obtain⟨rp0,p1,p2⟩:=s1.pr;have v4:=p1.valOf;have v5:=p1.lenS;rw[p2.1]at v5;have Dr:H1 ck.c=_:=(AT _ lc).trans hc;simp -dsimp -implicitDefEqProofs only[go_sem,seval,g,h1,SO,Dr,v4,v5];have Ut:zGq ct 0=ct:=by unfold zGq;simp
 have UD: ∀i,(zGq ct i).procs.length=ct.procs.length:=fun i=>by simp[zGq];omega
 refine zaq 167482727468900004448789496875551031520 ct.procs.length (fun i f h' x'=>(f 35).v=vi i/\ ∃N' d,CS ck h' x' N' { cv with d:=d } (zGq ct i)/\FrC ck h x N cv h' x' N' { cv with d:=d }/\h' (x+0)=some (.rows 1 [[.mp ck.c 0 0]] false)/\h' (x+1+0)=some (.map (zHu zJM L))/\(∀j,x<=j->j<x+2-> ¬Tp ck { cv with d:=d } j/\ ¬N' j)/\x+2<=x') rfl ?_ ?_
 ·refine⟨by simp -dsimp -implicitDefEqProofs only[go_sem,seval],N,cv.d,?_,?_,SO,EG,fun j j1 j2=>⟨s.below j1,fun h=>by have:=s.nl _ h;omega⟩,by(try simp -dsimp -implicitDefEqProofs only[go_sem,seval]);(try omega)⟩
  ·rw[Ut];exact s1.le (by(try simp -dsimp -implicitDefEqProofs only[go_sem,seval]);(try omega))
  ·exact FrC.refl.loc (by(try simp -dsimp -implicitDefEqProofs only[go_sem,seval]);(try omega)) fun j hj=>AT j hj
 clear EG SO s1 slo1 AT Dr;rintro i f u H2 x2 b2 hi ⟨g2,N2,d2,s2,f2,SO,EG,Fh,ML⟩;have TW:=UD i;have CG:=s2.hc
 by_cases AV:i<ct.procs.length
 rotate_left
 ·have h1:=eq_false AV;have:i=ct.procs.length:=by omega
  subst this;simp -dsimp -implicitDefEqProofs only[go_sem,seval,g2,h1];have G1:zGq ct ct.procs.length=ct.callsM:=by unfold zGq Ct.callsM;simp
  rw[G1]at s2;exact⟨N2,_,s2.le (by(try simp -dsimp -implicitDefEqProofs only[go_sem,seval]);(try omega)),f2.loc (by(try simp -dsimp -implicitDefEqProofs only[go_sem,seval]);(try omega)) fun _ _=>rfl⟩
 have h1:=eq_true AV;obtain⟨p,hp,IV⟩:=zai AV
 have TX:(zGq ct i).procs[i]? =some p:=by
  unfold zGq;rw[List.getElem?_append_right (by simp;omega)];simp[hp,Nat.min_eq_left (Nat.le_of_lt AV)]
 have hw:=zan i (by omega);obtain⟨kp,rp,vP,vL,A8,RK,M0,p2,Ap⟩:=s2.prow TX (Ss.c p IV);simp only at A8;have Bb:rp.length=ct.procs.length:=by rw[p2.1,TW]
 have w1:((i:Int)<(rp.length:Int))=True:=eq_true (by omega);have Gw:=Ap;unfold prw at Gw;have v4:valOf (V.ms kp 0 rp.length)=some (V.ms kp 0 rp.length):=rfl;rw[A8]at CG;have lc2:=s2.lt.1;have m1:(ck.c=x2+1+2+7)=False:=eq_false (by omega);have m2:(kp=x2+1+2+7)=False:=eq_false (by omega);have m3:(x+0=x2+1+2+7)=False:=eq_false (by omega);have m4:(x+1+0=x2+1+2+7)=False:=eq_false (by omega);have m5: ∀y:Nat,(y=y+22)=False:=fun y=>eq_false (by omega)
 have m6: ∀y:Nat,(y=y+21)=False:=fun y=>eq_false (by omega)
 have m7:(kp=x2+1+2+9+19+1)=False:=eq_false (by omega);have m8:(kp=x2+1+2+9+19+0)=False:=eq_false (by omega);have D2:=zIQ zGR (p.module,p.locked) L;rw[Vr]at D2;have sA:CS ck (updC (updC H2 (x2+1+2+7) (some (.rows 1 [[.t .nilp]] false))) (x2+1+2+7) (some (.rows 1 [[.mp kp i 0]] false))) x2 N2 { cv with d:=d2 } (zGq ct i):=s2.loc (Nat.le_refl _) fun j hj _=>by rw[zaa,if_neg (by omega),zaa,if_neg (by omega)]
 have fA:FrC ck h x N cv (updC (updC H2 (x2+1+2+7) (some (.rows 1 [[.t .nilp]] false))) (x2+1+2+7) (some (.rows 1 [[.mp kp i 0]] false))) x2 N2 { cv with d:=d2 }:=f2.loc (Nat.le_refl _) fun j hj=>by rw[zaa,if_neg (by omega),zaa,if_neg (by omega)]
 have A6:(updC (updC H2 (x2+1+2+7) (some (.rows 1 [[.t .nilp]] false))) (x2+1+2+7) (some (.rows 1 [[.mp kp i 0]] false))) (x2+1+2+7)=some (.rows 1 [[.mp kp i 0]] false):=by rw[zaa,if_pos rfl]
 have A0:(updC (updC H2 (x2+1+2+7) (some (.rows 1 [[.t .nilp]] false))) (x2+1+2+7) (some (.rows 1 [[.mp kp i 0]] false))) (x+0)=some (.rows 1 [[.mp ck.c 0 0]] false):=by rw[zaa,if_neg (by omega),zaa,if_neg (by omega)];exact SO
 have Am:(updC (updC H2 (x2+1+2+7) (some (.rows 1 [[.t .nilp]] false))) (x2+1+2+7) (some (.rows 1 [[.mp kp i 0]] false))) (x+1+0)=some (.map (zHu zJM L)):=by rw[zaa,if_neg (by omega),zaa,if_neg (by omega)];exact EG
 have L3:=TX;have SZ:=UD i;have Fe:=zKx hp
 have kTp0:Tp ck { cv with d:=d2 } kp:=by
  have : ¬zbg ({ cv with d:=d2 }:CV).pr kp:=fun e=>by simp only[A8]at e;exact e _ _ rfl
  unfold Tp;simp[this]
 have kpn:kp≠x+0/\kp≠x+1+0:=⟨fun e=>(Fh _ (by omega) (by omega)).1 (e▸kTp0),fun e=>(Fh _ (by omega) (by omega)).1 (e▸kTp0)⟩
 have Tk:zGG ct.mn ct.pk p=sortI (p.body.flat.foldl (zGy (zGq ct i).mn (zGq ct i).pk p.module) []):=by rw[zMh];rfl
 by_cases e1:p.locked=bs []
 ·have e1':=eq_true e1;have Hx: ¬zHx ct.locks p=true:=by simp[zHx,e1]
  simp -dsimp -implicitDefEqProofs only[go_sem,seval,g2,h1,SO,CG,M0,Gw,w1,e1',m1,m2,m3,m4,m5,m6,m7,m8];have SU:=A0;have SN:=A6;have TF:=Am;refine zas (zHn (.inl ⟨kp,i,5,rfl⟩)) ?_;rintro r h5 x5 ⟨rfl,Sw,Ux⟩;simp -dsimp -implicitDefEqProofs only[go_sem,seval];obtain⟨kp2,rq,vP2,vL2,q1,q2,q3,q4,q5⟩:=sA.prow L3 (Ss.c p IV);simp only at q1;rw[A8]at q1;injection q1 with q1 _ q1l
  subst q1
  have Tv: ∀j,j<(x2+1+2+9+19)->h5 j=(updC (updC H2 (x2+1+2+7) (some (.rows 1 [[.t .nilp]] false))) (x2+1+2+7) (some (.rows 1 [[.mp kp i 0]] false))) j:=fun j hj=>by
   rw[Sw,zaa,if_neg (by omega),zaa,if_neg (by omega),zaa,if_neg (by omega),zaa,if_neg (by omega)]
  have FX: ∀(z:Option O) (j:Nat),j<(x2+1+2+9+19)->updC h5 x5 z j=(updC (updC H2 (x2+1+2+7) (some (.rows 1 [[.t .nilp]] false))) (x2+1+2+7) (some (.rows 1 [[.mp kp i 0]] false))) j:=fun z j hj=>by rw[zaa,if_neg (by omega)];exact Tv j hj
  have sY: ∀z,CS ck (updC h5 x5 z) x2 N2 { cv with d:=d2 } (zGq ct i):=fun z=>sA.loc (Nat.le_refl _) fun j hj _=>FX z j (by omega)
  have SQ: ∀z,Pw (PrR (updC h5 x5 z) x2 N2) rq ((zGq ct i)).procs:=fun z=>q4.imp fun _ _ o=>o.keep (Nat.le_refl _) fun j j1 j2=>⟨FX z j (by omega),j2⟩
  have SS: ∀z,updC h5 x5 z kp=some (.rows 16 rq false):=fun z=>by rw[FX z kp (by omega)];exact q3
  have NF:({ cv with d:=d2 }:CV).pr= .ms kp 0 rq.length:=by rw[<- q1l];exact A8
  refine zIk (ck:=ck) (x0:=x2) (ks:=(x2+1+2+9+19)+0) (k1:=x+0) (k6:=x2+1+2+7) (k7:=(x2+1+2+9+19)+1) (kp:=kp) (cv:={ cv with d:=d2 }) (ct:=(zGq ct i)) (p:=p) (vP:=vP2) (vL:=vL2) (rp:=rq) (sY _) NF (SS _) (SQ _) L3 q5 VJ (by rw[SZ];omega) (by omega) (by omega) (by omega) (by omega) (by omega) ?_ ?_ ?_ ?_ (by rw[zaa,if_pos rfl]) ?_ (by omega) (by simp -dsimp -implicitDefEqProofs only[go_sem,seval]) (by simp -dsimp -implicitDefEqProofs only[go_sem,seval]) (by simp -dsimp -implicitDefEqProofs only[go_sem,seval]) (Ss.k p IV) (Ss.s p IV).1 (Ss.s p IV).2 ?_
  ·rw[FX _ _ (by omega)];exact SU
  ·rw[FX _ _ (by omega)];exact SN
  ·rw[zaa,if_neg (by omega),Sw,zaa,if_neg (by omega),zaa,if_pos rfl]
  ·rw[zaa,if_neg (by omega),Sw,zaa,if_neg (by omega),zaa,if_neg (by omega),zaa,if_neg (by omega),zaa,if_pos rfl]
  ·rw[zaa,if_neg (by omega),Sw,zaa,if_pos rfl]
  rintro v h6 n6 hK;have Tu:h6 (x2+1+2+7)=some (.rows 1 [[.mp kp i 0]] false):=(hK.fr _ (by omega) (by omega) (by omega) (by omega)).trans (by rw[FX _ _ (by omega)];exact SN);have P0:=hK.pr;have z6:(x2+1+2+7=x5)=False:=eq_false (by omega);have zp:(kp=x5)=False:=eq_false (by omega);have Hi:i<rq.length:=(zH.1 q5).1;have zr:(rq.set i (prw p vP2 vL2 v))[i]? =some (prw p vP2 vL2 v):=by rw[List.getElem?_set_self Hi]
  obtain⟨R,hR⟩: ∃R,R=rq.set i (prw p vP2 vL2 v):=⟨_,rfl⟩
  rw[<- hR]at P0 zr;unfold prw at zr;have zv:=hK.ow.valOf;simp -dsimp -implicitDefEqProofs only[go_sem,seval,z6,zp,Tu,P0,zr,zv];have TI:=hK.fv x5 (by omega);have AS:=(Ss.s p IV).1
  refine zas (zJf (x:=n6) (hK.ow.keep (h':=updC h6 x5 (some .dead)) (Nat.le_refl _) fun q _ z2=>by
   rw[zaa,if_neg];rintro rfl
   exact z2 TI) (Nat.lt_of_le_of_lt (zGP _ _ _ _ _) (by rw[Nd.flat_len,List.length_nil];omega))) ?_
  rintro r h7 n7 ⟨TH,T3,T8⟩;obtain⟨s8,f8,t8,l8⟩:=zIE (sY _) NF (SS _) (SQ _) L3 q5 (by omega) (by omega) hK (Nat.le_trans (by(try simp -dsimp -implicitDefEqProofs only[go_sem,seval]);(try omega)) T3) TH (fun j j1 j2=>by rw[T8 j j1,zaa,if_neg j2]);simp -dsimp -implicitDefEqProofs only[go_sem,seval,g2,hw]
  have Ez:({ (zGq ct i)with procs:=((zGq ct i)).procs.set i { p with calls:=sortI (p.body.flat.foldl (zGy ((zGq ct i):Ct).mn ((zGq ct i):Ct).pk p.module) []) } }:Ct)=zGq ct (i+1):=by
   rw[<- Fe,Tk];have Be:zHB ct.locks (zGq ct i).diags p=(zGq ct i).diags:=by unfold zHB;rw[if_neg Hx]
   rw[Be]
  rw[Ez]at s8
  have kTp:Tp ck { cv with d:=d2 } kp:=by
   have : ¬zbg ({ cv with d:=d2 }:CV).pr kp:=fun e=>by rw[NF]at e;exact e _ _ rfl
   unfold Tp;simp[this]
  refine⟨AV,by simp -dsimp -implicitDefEqProofs only[go_sem,seval],(fun j=>N2 j\/ ¬zbg v j),_,s8.le (by(try simp -dsimp -implicitDefEqProofs only[go_sem,seval]);(try omega)),⟨?_,fun j j1 j2=> ?_,fA.tp,fun j j1 j2=>fA.nn j j1 ((t8 j (by omega)).elim (fun e=>absurd j2 e) id),fun j hj=> .inl (fA.nm j hj),rfl⟩,?_,?_,fun j j1 j2=>⟨(Fh j j1 j2).1,fun e=>(t8 j (by omega)).elim (fun e2=>e2 e) (Fh j j1 j2).2⟩,?_⟩
  ·(try simp -dsimp -implicitDefEqProofs only[go_sem,seval]);(try omega)
  ·by_cases jk:j=kp
   ·subst jk;exact absurd (fA.tp j j1 kTp) j2
   ·simp -dsimp -implicitDefEqProofs only[go_sem,seval];rw[f8 j (by omega) jk (by omega),FX _ _ (by omega)];exact fA.kp j j1 j2
  ·simp -dsimp -implicitDefEqProofs only[go_sem,seval];rw[f8 _ (by omega) (by omega) (by omega),FX _ _ (by omega)];exact SU
  ·simp -dsimp -implicitDefEqProofs only[go_sem,seval];rw[f8 _ (by omega) (by omega) (by omega),FX _ _ (by omega)];exact TF
  ·(try simp -dsimp -implicitDefEqProofs only[go_sem,seval]);(try omega)
 have e1':=eq_false e1
 by_cases e2:zG5 (ct.locks.map fun l=>(l.module,l.name)) (p.module,p.locked)=true
 ·rw[e2]at D2;have Hx: ¬zHx ct.locks p=true:=by simp[zHx,e2]
  simp -dsimp -implicitDefEqProofs only[go_sem,seval,g2,h1,SO,CG,M0,Gw,w1,e1',m1,m2,m3,m4,EG,D2,if_true,Option.getD_some,m5,m6,m7,m8];have SU:=A0;have SN:=A6;have TF:=Am;refine zas (zHn (.inl ⟨kp,i,5,rfl⟩)) ?_;rintro r h5 x5 ⟨rfl,Sw,Ux⟩;simp -dsimp -implicitDefEqProofs only[go_sem,seval];obtain⟨kp2,rq,vP2,vL2,q1,q2,q3,q4,q5⟩:=sA.prow L3 (Ss.c p IV);simp only at q1;rw[A8]at q1;injection q1 with q1 _ q1l
  subst q1
  have Tv: ∀j,j<(x2+1+2+9+19)->h5 j=(updC (updC H2 (x2+1+2+7) (some (.rows 1 [[.t .nilp]] false))) (x2+1+2+7) (some (.rows 1 [[.mp kp i 0]] false))) j:=fun j hj=>by
   rw[Sw,zaa,if_neg (by omega),zaa,if_neg (by omega),zaa,if_neg (by omega),zaa,if_neg (by omega)]
  have FX: ∀(z:Option O) (j:Nat),j<(x2+1+2+9+19)->updC h5 x5 z j=(updC (updC H2 (x2+1+2+7) (some (.rows 1 [[.t .nilp]] false))) (x2+1+2+7) (some (.rows 1 [[.mp kp i 0]] false))) j:=fun z j hj=>by rw[zaa,if_neg (by omega)];exact Tv j hj
  have sY: ∀z,CS ck (updC h5 x5 z) x2 N2 { cv with d:=d2 } (zGq ct i):=fun z=>sA.loc (Nat.le_refl _) fun j hj _=>FX z j (by omega)
  have SQ: ∀z,Pw (PrR (updC h5 x5 z) x2 N2) rq ((zGq ct i)).procs:=fun z=>q4.imp fun _ _ o=>o.keep (Nat.le_refl _) fun j j1 j2=>⟨FX z j (by omega),j2⟩
  have SS: ∀z,updC h5 x5 z kp=some (.rows 16 rq false):=fun z=>by rw[FX z kp (by omega)];exact q3
  have NF:({ cv with d:=d2 }:CV).pr= .ms kp 0 rq.length:=by rw[<- q1l];exact A8
  refine zIk (ck:=ck) (x0:=x2) (ks:=(x2+1+2+9+19)+0) (k1:=x+0) (k6:=x2+1+2+7) (k7:=(x2+1+2+9+19)+1) (kp:=kp) (cv:={ cv with d:=d2 }) (ct:=(zGq ct i)) (p:=p) (vP:=vP2) (vL:=vL2) (rp:=rq) (sY _) NF (SS _) (SQ _) L3 q5 VJ (by rw[SZ];omega) (by omega) (by omega) (by omega) (by omega) (by omega) ?_ ?_ ?_ ?_ (by rw[zaa,if_pos rfl]) ?_ (by omega) (by simp -dsimp -implicitDefEqProofs only[go_sem,seval]) (by simp -dsimp -implicitDefEqProofs only[go_sem,seval]) (by simp -dsimp -implicitDefEqProofs only[go_sem,seval]) (Ss.k p IV) (Ss.s p IV).1 (Ss.s p IV).2 ?_
  ·rw[FX _ _ (by omega)];exact SU
  ·rw[FX _ _ (by omega)];exact SN
  ·rw[zaa,if_neg (by omega),Sw,zaa,if_neg (by omega),zaa,if_pos rfl]
  ·rw[zaa,if_neg (by omega),Sw,zaa,if_neg (by omega),zaa,if_neg (by omega),zaa,if_neg (by omega),zaa,if_pos rfl]
  ·rw[zaa,if_neg (by omega),Sw,zaa,if_pos rfl]
  rintro v h6 n6 hK;have Tu:h6 (x2+1+2+7)=some (.rows 1 [[.mp kp i 0]] false):=(hK.fr _ (by omega) (by omega) (by omega) (by omega)).trans (by rw[FX _ _ (by omega)];exact SN);have P0:=hK.pr;have z6:(x2+1+2+7=x5)=False:=eq_false (by omega);have zp:(kp=x5)=False:=eq_false (by omega);have Hi:i<rq.length:=(zH.1 q5).1;have zr:(rq.set i (prw p vP2 vL2 v))[i]? =some (prw p vP2 vL2 v):=by rw[List.getElem?_set_self Hi]
  obtain⟨R,hR⟩: ∃R,R=rq.set i (prw p vP2 vL2 v):=⟨_,rfl⟩
  rw[<- hR]at P0 zr;unfold prw at zr;have zv:=hK.ow.valOf;simp -dsimp -implicitDefEqProofs only[go_sem,seval,z6,zp,Tu,P0,zr,zv];have TI:=hK.fv x5 (by omega);have AS:=(Ss.s p IV).1
  refine zas (zJf (x:=n6) (hK.ow.keep (h':=updC h6 x5 (some .dead)) (Nat.le_refl _) fun q _ z2=>by
   rw[zaa,if_neg];rintro rfl
   exact z2 TI) (Nat.lt_of_le_of_lt (zGP _ _ _ _ _) (by rw[Nd.flat_len,List.length_nil];omega))) ?_
  rintro r h7 n7 ⟨TH,T3,T8⟩;obtain⟨s8,f8,t8,l8⟩:=zIE (sY _) NF (SS _) (SQ _) L3 q5 (by omega) (by omega) hK (Nat.le_trans (by(try simp -dsimp -implicitDefEqProofs only[go_sem,seval]);(try omega)) T3) TH (fun j j1 j2=>by rw[T8 j j1,zaa,if_neg j2]);simp -dsimp -implicitDefEqProofs only[go_sem,seval,g2,hw]
  have Ez:({ (zGq ct i)with procs:=((zGq ct i)).procs.set i { p with calls:=sortI (p.body.flat.foldl (zGy ((zGq ct i):Ct).mn ((zGq ct i):Ct).pk p.module) []) } }:Ct)=zGq ct (i+1):=by
   rw[<- Fe,Tk];have Be:zHB ct.locks (zGq ct i).diags p=(zGq ct i).diags:=by unfold zHB;rw[if_neg Hx]
   rw[Be]
  rw[Ez]at s8
  have kTp:Tp ck { cv with d:=d2 } kp:=by
   have : ¬zbg ({ cv with d:=d2 }:CV).pr kp:=fun e=>by rw[NF]at e;exact e _ _ rfl
   unfold Tp;simp[this]
  refine⟨AV,by simp -dsimp -implicitDefEqProofs only[go_sem,seval],(fun j=>N2 j\/ ¬zbg v j),_,s8.le (by(try simp -dsimp -implicitDefEqProofs only[go_sem,seval]);(try omega)),⟨?_,fun j j1 j2=> ?_,fA.tp,fun j j1 j2=>fA.nn j j1 ((t8 j (by omega)).elim (fun e=>absurd j2 e) id),fun j hj=> .inl (fA.nm j hj),rfl⟩,?_,?_,fun j j1 j2=>⟨(Fh j j1 j2).1,fun e=>(t8 j (by omega)).elim (fun e2=>e2 e) (Fh j j1 j2).2⟩,?_⟩
  ·(try simp -dsimp -implicitDefEqProofs only[go_sem,seval]);(try omega)
  ·by_cases jk:j=kp
   ·subst jk;exact absurd (fA.tp j j1 kTp) j2
   ·simp -dsimp -implicitDefEqProofs only[go_sem,seval];rw[f8 j (by omega) jk (by omega),FX _ _ (by omega)];exact fA.kp j j1 j2
  ·simp -dsimp -implicitDefEqProofs only[go_sem,seval];rw[f8 _ (by omega) (by omega) (by omega),FX _ _ (by omega)];exact SU
  ·simp -dsimp -implicitDefEqProofs only[go_sem,seval];rw[f8 _ (by omega) (by omega) (by omega),FX _ _ (by omega)];exact TF
  ·(try simp -dsimp -implicitDefEqProofs only[go_sem,seval]);(try omega)
 have e2':=Bool.eq_false_iff.2 e2;rw[e2']at D2;have Hx:zHx ct.locks p=true:=by simp[zHx,e1,e2']
 ·simp -dsimp -implicitDefEqProofs only[go_sem,seval,g2,h1,SO,CG,M0,Gw,w1,e1',m1,m2,m3,m4,EG,D2,zG,if_false,Option.getD_none];refine zas (zLD sA (by omega) 40 p.pos) ?_;rintro r h3 x3 ⟨d3,s3',f3,S1,k3⟩;have s3:=s3';rw[zHF]at s3;have fC:=fA.trans f3;have nTp: ∀j,x<=j->j<x+2-> ¬Tp ck { cv with d:=d3 } j/\ ¬N2 j:=fun j j1 j2=>⟨fun e=>(Fh j j1 j2).1 (f3.tp j (by omega) e),(Fh j j1 j2).2⟩
  have SU:h3 (x+0)=_:=(f3.kp _ (by omega) (Fh _ (by omega) (by omega)).1).trans A0;have TF:h3 (x+1+0)=_:=(f3.kp _ (by omega) (Fh _ (by omega) (by omega)).1).trans Am;have SN:h3 (x2+1+2+7)=_:=(k3 _ (by omega) (by omega)).trans A6;have Oi:=s3.hc;obtain⟨kp3,rp3,vP3,vL3,u1,u2,u3,u4,u5⟩:=s3.prow TX (Ss.c p IV);simp only at u1;rw[A8]at u1;injection u1 with u1 _ u1l
  subst u1;have y1:(x2+1+2+7=x3+0)=False:=eq_false (by omega);have y2:(x2+1+2+7=x3+1)=False:=eq_false (by omega);have y3:(kp=x3+0)=False:=eq_false (by omega);have y4:(kp=x3+1)=False:=eq_false (by omega);simp -dsimp -implicitDefEqProofs only[go_sem,seval,SN,u3,y1,y2,y3,y4];refine zas (zHn (.inl ⟨kp,i,5,rfl⟩)) ?_;rintro r h5 x5 ⟨rfl,Sw,Ux⟩;simp -dsimp -implicitDefEqProofs only[go_sem,seval];obtain⟨kp2,rq,vP2,vL2,q1,q2,q3,q4,q5⟩:=s3.prow L3 (Ss.c p IV);simp only at q1;rw[A8]at q1;injection q1 with q1 _ q1l
  subst q1
  have Tv: ∀j,j<x3->h5 j=h3 j:=fun j hj=>by
   rw[Sw,zaa,if_neg (by omega),zaa,if_neg (by omega),zaa,if_neg (by omega),zaa,if_neg (by omega)]
  have FX: ∀(z:Option O) (j:Nat),j<x3->updC h5 x5 z j=h3 j:=fun z j hj=>by rw[zaa,if_neg (by omega)];exact Tv j hj
  have sY: ∀z,CS ck (updC h5 x5 z) x3 N2 { cv with d:=d3 } { zGq ct i with diags:=zJx (zGq ct i).diags 40 p.pos }:=fun z=>s3.loc (Nat.le_refl _) fun j hj _=>FX z j (by omega)
  have SQ: ∀z,Pw (PrR (updC h5 x5 z) x3 N2) rq ({ zGq ct i with diags:=zJx (zGq ct i).diags 40 p.pos }).procs:=fun z=>q4.imp fun _ _ o=>o.keep (Nat.le_refl _) fun j j1 j2=>⟨FX z j (by omega),j2⟩
  have SS: ∀z,updC h5 x5 z kp=some (.rows 16 rq false):=fun z=>by rw[FX z kp (by omega)];exact q3
  have NF:({ cv with d:=d3 }:CV).pr= .ms kp 0 rq.length:=by rw[<- q1l];exact A8
  refine zIk (ck:=ck) (x0:=x3) (ks:=x3+0) (k1:=x+0) (k6:=x2+1+2+7) (k7:=x3+1) (kp:=kp) (cv:={ cv with d:=d3 }) (ct:={ zGq ct i with diags:=zJx (zGq ct i).diags 40 p.pos }) (p:=p) (vP:=vP2) (vL:=vL2) (rp:=rq) (sY _) NF (SS _) (SQ _) L3 q5 VJ (by rw[SZ];omega) (by omega) (by omega) (by omega) (by omega) (by omega) ?_ ?_ ?_ ?_ (by rw[zaa,if_pos rfl]) ?_ (by omega) (by simp -dsimp -implicitDefEqProofs only[go_sem,seval]) (by simp -dsimp -implicitDefEqProofs only[go_sem,seval]) (by simp -dsimp -implicitDefEqProofs only[go_sem,seval]) (Ss.k p IV) (Ss.s p IV).1 (Ss.s p IV).2 ?_
  ·rw[FX _ _ (by omega)];exact SU
  ·rw[FX _ _ (by omega)];exact SN
  ·rw[zaa,if_neg (by omega),Sw,zaa,if_neg (by omega),zaa,if_pos rfl]
  ·rw[zaa,if_neg (by omega),Sw,zaa,if_neg (by omega),zaa,if_neg (by omega),zaa,if_neg (by omega),zaa,if_pos rfl]
  ·rw[zaa,if_neg (by omega),Sw,zaa,if_pos rfl]
  rintro v h6 n6 hK;have Tu:h6 (x2+1+2+7)=some (.rows 1 [[.mp kp i 0]] false):=(hK.fr _ (by omega) (by omega) (by omega) (by omega)).trans (by rw[FX _ _ (by omega)];exact SN);have P0:=hK.pr;have z6:(x2+1+2+7=x5)=False:=eq_false (by omega);have zp:(kp=x5)=False:=eq_false (by omega);have Hi:i<rq.length:=(zH.1 q5).1;have zr:(rq.set i (prw p vP2 vL2 v))[i]? =some (prw p vP2 vL2 v):=by rw[List.getElem?_set_self Hi]
  obtain⟨R,hR⟩: ∃R,R=rq.set i (prw p vP2 vL2 v):=⟨_,rfl⟩
  rw[<- hR]at P0 zr;unfold prw at zr;have zv:=hK.ow.valOf;simp -dsimp -implicitDefEqProofs only[go_sem,seval,z6,zp,Tu,P0,zr,zv];have TI:=hK.fv x5 (by omega);have AS:=(Ss.s p IV).1
  refine zas (zJf (x:=n6) (hK.ow.keep (h':=updC h6 x5 (some .dead)) (Nat.le_refl _) fun q _ z2=>by
   rw[zaa,if_neg];rintro rfl
   exact z2 TI) (Nat.lt_of_le_of_lt (zGP _ _ _ _ _) (by rw[Nd.flat_len,List.length_nil];omega))) ?_
  rintro r h7 n7 ⟨TH,T3,T8⟩;obtain⟨s8,f8,t8,l8⟩:=zIE (sY _) NF (SS _) (SQ _) L3 q5 (by omega) (by omega) hK (Nat.le_trans (by(try simp -dsimp -implicitDefEqProofs only[go_sem,seval]);(try omega)) T3) TH (fun j j1 j2=>by rw[T8 j j1,zaa,if_neg j2]);simp -dsimp -implicitDefEqProofs only[go_sem,seval,g2,hw]
  have Ez:({ { zGq ct i with diags:=zJx (zGq ct i).diags 40 p.pos }with procs:=({ zGq ct i with diags:=zJx (zGq ct i).diags 40 p.pos }).procs.set i { p with calls:=sortI (p.body.flat.foldl (zGy ({ zGq ct i with diags:=zJx (zGq ct i).diags 40 p.pos }:Ct).mn ({ zGq ct i with diags:=zJx (zGq ct i).diags 40 p.pos }:Ct).pk p.module) []) } }:Ct)=zGq ct (i+1):=by
   have Be:zHB ct.locks (zGq ct i).diags p=zJx (zGq ct i).diags 40 p.pos:=by unfold zHB;rw[if_pos Hx]
   rw[Be]at Fe;rw[<- Fe,Tk];rfl
  rw[Ez]at s8
  have kTp:Tp ck { cv with d:=d3 } kp:=by
   have : ¬zbg ({ cv with d:=d3 }:CV).pr kp:=fun e=>by rw[NF]at e;exact e _ _ rfl
   unfold Tp;simp[this]
  refine⟨AV,by simp -dsimp -implicitDefEqProofs only[go_sem,seval],(fun j=>N2 j\/ ¬zbg v j),_,s8.le (by(try simp -dsimp -implicitDefEqProofs only[go_sem,seval]);(try omega)),⟨?_,fun j j1 j2=> ?_,fC.tp,fun j j1 j2=>fC.nn j j1 ((t8 j (by omega)).elim (fun e=>absurd j2 e) id),fun j hj=> .inl (fC.nm j hj),rfl⟩,?_,?_,fun j j1 j2=>⟨(nTp j j1 j2).1,fun e=>(t8 j (by omega)).elim (fun e2=>e2 e) (nTp j j1 j2).2⟩,?_⟩
  ·(try simp -dsimp -implicitDefEqProofs only[go_sem,seval]);(try omega)
  ·by_cases jk:j=kp
   ·subst jk;exact absurd (fC.tp j j1 kTp) j2
   ·simp -dsimp -implicitDefEqProofs only[go_sem,seval];rw[f8 j (by omega) jk (by omega),FX _ _ (by omega)];exact fC.kp j j1 j2
  ·simp -dsimp -implicitDefEqProofs only[go_sem,seval];rw[f8 _ (by omega) (by omega) (by omega),FX _ _ (by omega)];exact SU
  ·simp -dsimp -implicitDefEqProofs only[go_sem,seval];rw[f8 _ (by omega) (by omega) (by omega),FX _ _ (by omega)];exact TF
  ·(try simp -dsimp -implicitDefEqProofs only[go_sem,seval]);(try omega)
end Rg
end
section
namespace Rg
open Go
theorem Way.snoc {g:List (List Int)} {i j k:Nat} (t:Way g i j) (h:(k:Int)∈g.getD j []):Way g i k:=by
 induction t with
 | one h1=>exact .cons h1 (.one h)
 | cons h1 t ih=>exact .cons h1 (ih h)
theorem Way.trans {g:List (List Int)} {i j k:Nat} (t:Way g i j) (h:Way g j k):Way g i k:=by
 induction t with
 | one h1=>exact .cons h1 h
 | cons h1 t ih=>exact .cons h1 (ih h)
structure RcI (g:List (List Int)) (n s:Nat) (seen work:List Nat):Prop where
 nd:seen.Nodup
 lt: ∀u∈seen,u<n
 ns:s∉ seen
 way: ∀u∈seen,Way g s u
 sub: ∀u∈work,u=s\/u∈seen
 cl: ∀u,u=s\/u∈seen->u∈work\/ ∀c:Nat,(c:Int)∈g.getD u []->c∈seen
theorem RcI.done {g:List (List Int)} {n s:Nat} {seen:List Nat} (I:RcI g n s seen []): ¬Way g s s:=by
 have key: ∀u v,Way g u v->(u=s\/u∈seen)->v∈seen:=fun u v w=>by
  induction w with
  | one h=>intro hu;exact((I.cl _ hu).resolve_left (by simp)) _ h
  | cons h t ih=>intro hu;exact ih (.inr (((I.cl _ hu).resolve_left (by simp)) _ h))
 exact fun w=>I.ns (key s s w (.inl rfl))
structure RcJ (g:List (List Int)) (n s a:Nat) (seen work:List Nat):Prop where
 nd:seen.Nodup
 lt: ∀u∈seen,u<n
 ns:s∉ seen
 way: ∀u∈seen,Way g s u
 sub: ∀u∈work,u=s\/u∈seen
 at_:a=s\/a∈seen
 cl: ∀u,u=s\/u∈seen->u∈work\/u=a\/ ∀c:Nat,(c:Int)∈g.getD u []->c∈seen
theorem RcI.pop {g:List (List Int)} {n s a:Nat} {seen work:List Nat} (I:RcI g n s seen (work++[a])):RcJ g n s a seen work:=by
 refine⟨I.nd,I.lt,I.ns,I.way,fun u hu=>I.sub u (by simp[hu]),I.sub a (by simp),fun u hu=> ?_⟩;rcases I.cl u hu with h | h
 ·simp only[List.mem_append,List.mem_singleton]at h;exact h.elim .inl fun e=> .inr (.inl e)
 ·exact .inr (.inr h)
theorem RcJ.fin {g:List (List Int)} {n s a:Nat} {seen work:List Nat} (I:RcJ g n s a seen work) (h: ∀c:Nat,(c:Int)∈g.getD a []->c∈seen):RcI g n s seen work:=by
 refine⟨I.nd,I.lt,I.ns,I.way,I.sub,fun u hu=> ?_⟩;rcases I.cl u hu with h1 | rfl | h1
 ·exact .inl h1
 ·exact .inr h
 ·exact .inr h1
theorem RcJ.ext {g:List (List Int)} {n s a:Nat} {seen work:List Nat} (I:RcJ g n s a seen work) {c:Nat} (hc:(c:Int)∈g.getD a []):Way g s c:=by
 rcases I.at_ with rfl | h
 ·exact .one hc
 ·exact(I.way a h).snoc hc
theorem RcJ.push {g:List (List Int)} {n s a:Nat} {seen work:List Nat} (I:RcJ g n s a seen work) {c:Nat} (hc:(c:Int)∈g.getD a []) (hl:c<n) (h1:c≠s) (h2:c∉ seen):RcJ g n s a (seen++[c]) (work++[c]):=by
 refine⟨?_,fun u hu=> ?_,fun h=> ?_,fun u hu=> ?_,fun u hu=> ?_,?_,fun u hu=> ?_⟩
 ·rw[List.nodup_append];refine⟨I.nd,by simp,fun x hx y hy=> ?_⟩;simp only[List.mem_singleton]at hy;subst hy;rintro rfl;exact h2 hx
 ·simp only[List.mem_append,List.mem_singleton]at hu;rcases hu with hu | rfl
  ·exact I.lt u hu
  ·exact hl
 ·simp only[List.mem_append,List.mem_singleton]at h;rcases h with h | h
  ·exact I.ns h
  ·exact h1 h.symm
 ·simp only[List.mem_append,List.mem_singleton]at hu;rcases hu with hu | rfl
  ·exact I.way u hu
  ·exact I.ext hc
 ·simp only[List.mem_append,List.mem_singleton]at hu⊢;rcases hu with hu | rfl
  ·exact(I.sub u hu).imp id .inl
  ·exact .inr (.inr rfl)
 ·exact I.at_.imp id fun h=>by simp[h]
 ·simp only[List.mem_append,List.mem_singleton]at hu⊢
  by_cases U0:u=c
  ·exact .inl (.inr U0)
  ·rcases I.cl u (by rcases hu with h | h | h;exact .inl h;exact .inr h;exact absurd h U0)with h | h | h
   ·exact .inl (.inl h)
   ·exact .inr (.inl h)
   ·exact .inr (.inr fun c hc=> .inl (h c hc))
theorem zHW: ∀(n:Nat) (l:List Nat),l.Nodup->(∀x∈l,x<n)->l.length<=n
 | 0,l,_,h=>by
   cases l with
   | nil=>simp
   | cons a l=>exact absurd (h a (by simp)) (by omega)
 | n+1,l,hn,h=>by
   have h1:(l.erase n).length<=n:=zHW n _ (hn.erase n) fun x hx=>by
    have h2:=h x (List.mem_of_mem_erase hx);have h3:x≠n:=by rintro rfl;exact hn.not_mem_erase hx
    omega
   by_cases hm:n∈l
   ·have:=List.length_erase_of_mem hm;omega
   ·rw[List.erase_of_not_mem hm]at h1;omega
def Ct.cok (ct:Ct):Prop:= ∀p∈ct.procs,p.calls.length<2^30/\ ∀c∈p.calls,∃j:Nat,c=j/\j<ct.procs.length
theorem CS.prow2 {ck:CK} {h:Nat->Option O} {x:Nat} {N:Nat->Prop} {cv:CV} {ct:Ct} (s:CS ck h x N cv ct) (h0:ct.procs≠[]):
 ∃kp rp,cv.pr= .ms kp 0 rp.length/\kp<x/\h kp=some (.rows 16 rp false)/\rp.length=ct.procs.length/\ ∀(i:Nat) (p:Pr),ct.procs[i]? =some p-> ∃vP vL vC,rp[i]? =some (prw p vP vL vC)/\Nst h x N vP 7 (p.params.map Va.enc)/\Nst h x N vL 7 (p.locals.map Va.enc)/\Nst h x N vC 1 (p.calls.map fun n=>[ti n]):=by
 obtain⟨rp,p1,p2⟩:=s.pr;rcases p1 with⟨_,D7⟩ | ⟨kp,A8,RK,M0⟩
 ·have:=p2.1;rw[D7]at this;simp at this;exact absurd (List.eq_nil_of_length_eq_zero this.symm) h0
 refine⟨kp,rp,A8,RK,M0,p2.1,fun i p hi=> ?_⟩;obtain⟨row,Ap,_⟩:=zai (l:=rp) (i:=i) (by rw[p2.1];exact(zH.1 hi).1);obtain⟨vP,vL,vC,hR,Tb,T2,Ts,Dm⟩:=(p2.2 i _ p Ap hi).row;subst hR;exact⟨vP,vL,vC,Ap,Tb,T2,Ts⟩
theorem zKa {ck:CK} {h:Nat->Option O} {x:Nat} {N:Nat->Prop} {cv:CV} {ct:Ct} (s:CS ck h x N cv ct) (BL:ct.procs.length<2^29) (Tk:ct.cok) (i:Nat) (hi:i<ct.procs.length):
 ∃r h' x',DenR Γ G 628 [.mp ck.c 0 0,vi i] h x=some (r,h',x')/\(r=vb (reachB ct.graph i)/\x<=x'/\ ∀j,j<x->h' j=h j):=by
 have hc:=s.hc;obtain⟨kp,rp,A8,RK,M0,Bb,Ap⟩:=s.prow2 (fun e=>by rw[e]at hi;simp at hi);rw[A8]at hc;have lc:=s.lt.1
 (refine zay Γ628 rfl ?_;dsimp only[zOc])
 simp -dsimp -implicitDefEqProofs only[go_sem,seval];refine zaq 36028797018956496 (ct.procs.length+1) (fun m f h' x'=> ∃seen work,RcI ct.graph ct.procs.length i seen work/\m+work.length=seen.length+1/\h' (x+1+0)=some (.map (zHu ti (seen.map fun(j:Nat)=>(j:Int))))/\PS h' x' (x+1+0) x (fun _=>False) (f 6).v (work.map fun(j:Nat)=>vi j)/\x+2<=x'/\ ∀j,j<x->h' j=h j) rfl ?_ ?_
 ·refine⟨[],[i],⟨List.nodup_nil,by simp,by simp,by simp,by simp,fun u hu=> ?_⟩,by simp,?_,⟨x+1+2+1,[],by simp -dsimp -implicitDefEqProofs only[go_sem,seval];(try rfl),by omega,by(try simp -dsimp -implicitDefEqProofs only[go_sem,seval]);(try omega),?_,fun h=>h,by omega⟩,by(try simp -dsimp -implicitDefEqProofs only[go_sem,seval]);(try omega),fun j hj=> ?_⟩
  ·left;simpa using hu
  ·simp only[zaC,zaA];rw[zaa,if_neg (by omega),zaa,if_pos rfl];rfl
  ·simp only[zaC,zaA];rw[zaa,if_pos rfl];rfl
  ·simp only[zaC,zaA];rw[zaa,if_neg (by omega),zaa,if_neg (by omega)]
 rintro m f u H1 x1 bb hm ⟨seen,work,I,IY,Ho,Cd,KA,AT⟩;have BA:=zHW _ _ I.nd I.lt;have TV:=Cd;obtain⟨kw,rest,g6,Ef,U8,S3,_,Tq⟩:=TV;rcases zLx work with rfl | ⟨W1,at_,rfl⟩
 ·simp -dsimp -implicitDefEqProofs only[go_sem,seval,g6,S3];refine⟨?_,by(try simp -dsimp -implicitDefEqProofs only[go_sem,seval]);(try omega),AT⟩;rw[show reachB ct.graph i=false from by unfold reachB;simp[I.done]]
  try rfl
 rw[List.map_append,List.map_cons,List.map_nil]at g6 S3;have hl:(W1.map (fun(j:Nat)=>vi j)++[vi at_]).length=W1.length+1:=by simp
 rw[hl]at g6;have c1:(((W1.length+1:Nat):Int)>0)=True:=eq_true (by omega);have hW:W1.length+1<=ct.procs.length+1:=by simp at IY;omega
 have c2:IntKind.i64.wrap (((W1.length+1:Nat):Int)-1)=(W1.length:Int):=by
  have:(((W1.length+1:Nat):Int)-1)=(W1.length:Int):=by omega
  rw[this];exact zaH (by omega)
 have c3:((W1.map fun(j:Nat)=>vi j).map (fun p=>[p])++[[vi at_]]++rest)[W1.length]? =some [vi at_]:=by
  rw[zQ,List.getElem?_append_right (by simp)];simp
 rw[List.map_append,List.map_cons,List.map_nil]at S3;have c4:((W1.length:Int)<=((W1.length+1:Nat):Int))=True:=eq_true (by omega);have c5:((W1.length:Int)-0).toNat=W1.length:=by omega
 have Bj:at_<ct.procs.length:=by
  rcases I.sub at_ (by simp)with h | h
  ·omega
  ·exact I.lt _ h
 obtain⟨p,hp,IV⟩:=zai Bj;obtain⟨vP,vL,vC,hr,Tb,T2,Ts⟩:=Ap at_ p hp;have Dz:=hr;unfold prw at Dz;have w1:((at_:Int)<(rp.length:Int))=True:=eq_true (by omega);have Dr:H1 ck.c=_:=(AT _ lc).trans hc;have DC:H1 kp=_:=(AT _ RK).trans M0;have Ub:=Ts.keep (Nat.le_refl _) (N':=N) fun j j1 j2=>⟨AT j j1,j2⟩
 have sl:=zJl Ub (fun e he=>by obtain⟨q,_,rfl⟩:=List.mem_map.1 he;rfl);have v1:=sl.vl;have v2:=sl.ln;rw[show(zGk (p.calls.map fun n=>[ti n])).length=p.calls.length by simp]at v2;simp -dsimp -implicitDefEqProofs only[go_sem,seval,g6,S3,c1,c2,c3,c4,c5,Dr,DC,w1,Dz,v1,v2];have Pl:ct.graph.getD at_ []=p.calls:=by simp[Ct.graph,List.getD,hp]
 obtain⟨By,Gc⟩:=Tk p IV;refine zaq 36028659580011088 p.calls.length (fun c f' h' x'=>(f' 37).v=vi c/\ ∃seen work,RcJ ct.graph ct.procs.length i at_ seen work/\m+1+work.length=seen.length+1/\h' (x+1+0)=some (.map (zHu ti (seen.map fun(j:Nat)=>(j:Int))))/\PS h' x' (x+1+0) x (fun _=>False) (f' 6).v (work.map fun(j:Nat)=>vi j)/\x+2<=x'/\(∀j,j<x->h' j=h j)/\ ∀(c' q:Nat),c'<c->p.calls[c']? =some (q:Int)->q∈seen) rfl ?_ ?_
 ·refine⟨by simp -dsimp -implicitDefEqProofs only[go_sem,seval],seen,W1,I.pop,by simp at IY;omega,Ho,⟨kw,[vi at_]::rest,by simp -dsimp -implicitDefEqProofs only[go_sem,seval,g6,c5];(try simp),Ef,by(try simp -dsimp -implicitDefEqProofs only[go_sem,seval]);(try omega),?_,fun h=>h,Tq⟩,by(try simp -dsimp -implicitDefEqProofs only[go_sem,seval]);(try omega),AT,fun c' q h=>by omega⟩;rw[S3];simp
 rintro c f' u' H2 x2 b2 CG ⟨g37,seen2,work2,J,U1,RI,SJ,ML,AF,DQ⟩;have PU:=zHW _ _ J.nd J.lt
 by_cases Fs:c<p.calls.length
 rotate_left
 ·have e1:=eq_false Fs;have O1:c=p.calls.length:=by omega
  simp -dsimp -implicitDefEqProofs only[go_sem,seval,g37,e1];refine⟨by simp at IY;omega,seen2,work2,J.fin fun c hc=> ?_,by omega,RI,?_,by(try simp -dsimp -implicitDefEqProofs only[go_sem,seval]);(try omega),AF⟩
  rotate_left
  ·simp -dsimp -implicitDefEqProofs only[go_sem,seval];refine SJ.le ?_
   (try simp -dsimp -implicitDefEqProofs only[go_sem,seval]);(try omega)
  rw[Pl]at hc;obtain⟨c',Bz⟩:=List.getElem?_of_mem hc;exact DQ c' c (by have:=(zH.1 Bz).1;omega) Bz
 have e1:=eq_true Fs;obtain⟨n0,Cg,GE⟩:=zai Fs;obtain⟨q,rfl,Ed⟩:=Gc n0 GE;have U3:(q:Int)∈ct.graph.getD at_ []:=by rw[Pl];exact GE
 have hw:=zan c (by omega);rcases Ts with⟨_,he⟩ | ⟨kq,fq,rfl,Te,Uh,Td⟩
 ·have:=congrArg List.length he;simp only[List.length_map,List.length_nil]at this;omega
 have I4:=(AF _ Te).trans Td;have DY:(zGk (p.calls.map fun n=>[ti n]))[c]? =some [.t (ti (q:Int))]:=by rw[zGk,zJ,zJ,Cg];rfl
 have w2:(c<p.calls.length)=True:=eq_true Fs
 by_cases Qb:q=i
 ·subst Qb;have e2:((q:Int)=(q:Int))=True:=eq_true rfl;simp -dsimp -implicitDefEqProofs only[go_sem,seval,g37,e1,I4,DY,w2,e2];refine⟨?_,by(try simp -dsimp -implicitDefEqProofs only[go_sem,seval]);(try omega),AF⟩;rw[show reachB ct.graph q=true from by unfold reachB;simp[J.ext U3]]
  try rfl
 have e2:((q:Int)=(i:Int))=False:=eq_false (by omega);have D2:=zIQ zHd (q:Int) (seen2.map fun(j:Nat)=>(j:Int))
 by_cases Tn:q∈seen2
 ·have hh:zG5 (seen2.map fun(j:Nat)=>(j:Int)) (q:Int)=true:=zIf.2 (List.mem_map.2 ⟨q,Tn,rfl⟩);rw[hh]at D2;simp -dsimp -implicitDefEqProofs only[go_sem,seval,g37,e1,I4,DY,w2,e2,RI,D2,if_true,Option.getD_some,hw];refine⟨Fs,by simp -dsimp -implicitDefEqProofs only[go_sem,seval],seen2,work2,J,by omega,RI,?_,by(try simp -dsimp -implicitDefEqProofs only[go_sem,seval]);(try omega),AF,fun c' q' h1 h2=> ?_⟩
  ·simp -dsimp -implicitDefEqProofs only[go_sem,seval];refine SJ.le ?_
   (try simp -dsimp -implicitDefEqProofs only[go_sem,seval]);(try omega)
  by_cases ST:c'=c
  ·subst ST;rw[Cg]at h2;have:q=q':=by simp only[zA]at h2;omega
   exact this▸Tn
  ·exact DQ c' q' (by omega) h2
 have hh:zG5 (seen2.map fun(j:Nat)=>(j:Int)) (q:Int)=false:=Bool.eq_false_iff.2 fun h=>Tn (by
  obtain⟨j,hj,he⟩:=List.mem_map.1 (zIf.1 h);have:j=q:=by omega
  exact this▸hj)
 rw[hh]at D2;have Gy:=zLr zHd (q:Int) _ hh;have y1:=SJ.vl
 have K1: ∀z,PS (updC H2 (x+1+0) z) x2 (x+1+0) x (fun _=>False) (f' 6).v (work2.map fun(j:Nat)=>vi j):=fun z=>by
  obtain⟨k,rest,h1,h2,h3,h4,h5,h6⟩:=SJ;exact⟨k,rest,h1,h2,h3,by rw[zaa,if_neg h6];exact h4,h5,h6⟩
 have y2: ∀z (a b c d e g:Nat) z',Rg.rowsS (updC (updC H2 (x+1+0) z) (x2+a+b+c+d+e+g) z') (f' 6).v=some ((work2.map fun(j:Nat)=>vi j).map fun p=>[p]):=fun z a b c d e g z'=>((K1 z).upd (by omega) z').rowsS
 simp -dsimp -implicitDefEqProofs only[go_sem,seval,g37,e1,I4,DY,w2,e2,RI,D2,zG,if_false,Option.getD_none,Gy,hw,y1,y2];refine zLE ((K1 _).upd (by omega) _) (by omega) (by simp;omega) (by omega) (fun j hj=>hj.elim) ?_;intro v9 Ta hP Vf Ls;have z1:=hP.vl;simp -dsimp -implicitDefEqProofs only[go_sem,seval,z1,g37,hw];refine⟨Fs,by simp -dsimp -implicitDefEqProofs only[go_sem,seval],seen2++[q],work2++[q],J.push U3 Ed Qb Tn,by simp;omega,?_,?_,by(try simp -dsimp -implicitDefEqProofs only[go_sem,seval]);(try omega),fun j hj=> ?_,fun c' q' h1 h2=> ?_⟩
 ·simp -dsimp -implicitDefEqProofs only[go_sem,seval];rw[Vf _ (by omega) (.inr rfl),zaa,if_neg (by omega),zaa,if_pos rfl];simp
 ·simp -dsimp -implicitDefEqProofs only[go_sem,seval];rw[List.map_append];refine hP.le ?_
  (try simp -dsimp -implicitDefEqProofs only[go_sem,seval]);(try omega)
 ·simp -dsimp -implicitDefEqProofs only[go_sem,seval];rw[Ls j hj,zaa,if_neg (by omega),zaa,if_neg (by omega)];exact AF j hj
 ·by_cases ST:c'=c
  ·subst ST;rw[Cg]at h2;have:q=q':=by simp only[zA]at h2;omega
   simp[this]
  ·have:=DQ c' q' (by omega) h2;simp[this]
theorem zIT {α:Type} {l:List α} {i:Nat} {a:α} (h:l[i]? =some a):l.zipIdx[i]? =some (a,i):=by
 rw[List.getElem?_zipIdx,h];simp
theorem zLm {ck:CK} {h:Nat->Option O} {x:Nat} {N:Nat->Prop} {cv:CV} {ct:Ct} (s:CS ck h x N cv ct) (BL:ct.procs.length<2^29) (Tk:ct.cok):
 ∃r h' x',DenR Γ G 612 [.mp ck.c 0 0] h x=some (r,h',x')/\ ∃N' cv',CS ck h' x' N' cv' ct.cyclesM/\FrC ck h x N cv h' x' N' cv':=by
 have hc:=s.hc;obtain⟨rp0,p1,p2⟩:=s.pr;have v1:=p1.valOf;have v2:=p1.lenS;rw[p2.1]at v2
 (refine zay Γ612 rfl ?_;dsimp only[zOn])
 simp -dsimp -implicitDefEqProofs only[go_sem,seval,hc,v1,v2];refine zaq 134216716 ct.procs.length (fun i f h' x'=>(f 10).v=vi i/\ ∃d,CS ck h' x' N { cv with d:=d } { ct with diags:=(ct.procs.zipIdx.take i).foldl (cycD ct.graph) ct.diags }/\FrC ck h x N cv h' x' N { cv with d:=d }) rfl ⟨by simp -dsimp -implicitDefEqProofs only[go_sem,seval],cv.d,s.le (by(try simp -dsimp -implicitDefEqProofs only[go_sem,seval]);(try omega)),FrC.refl.loc (by(try simp -dsimp -implicitDefEqProofs only[go_sem,seval]);(try omega)) fun _ _=>rfl⟩ ?_;rintro i f u H1 x1 bb hi ⟨g,d,s1,f1⟩
 by_cases AV:i<ct.procs.length
 rotate_left
 ·have h1:=eq_false AV;have:i=ct.procs.length:=by omega
  subst this;simp -dsimp -implicitDefEqProofs only[go_sem,seval,g,h1];have:(ct.procs.zipIdx.take ct.procs.length)=ct.procs.zipIdx:=List.take_of_length_le (by simp);rw[this]at s1;exact⟨N,_,s1.le (by(try simp -dsimp -implicitDefEqProofs only[go_sem,seval]);(try omega)),f1.loc (by(try simp -dsimp -implicitDefEqProofs only[go_sem,seval]);(try omega)) fun _ _=>rfl⟩
 have h1:=eq_true AV;obtain⟨p,hp,IV⟩:=zai AV;have hw:=zan i (by omega);obtain⟨kp,rp,A8,RK,M0,Bb,Ap⟩:=s1.prow2 (fun e=>by simp only at e;rw[e]at AV;simp at AV);simp only at A8 Bb Ap;obtain⟨vP,vL,vC,hr,_⟩:=Ap i p hp;unfold prw at hr;have w1:(i<rp.length)=True:=eq_true (by omega);have hz:=zaf (zIT hp);have LC:(ct.procs.zipIdx.take (i+1)).foldl (cycD ct.graph) ct.diags=cycD ct.graph ((ct.procs.zipIdx.take i).foldl (cycD ct.graph) ct.diags) (p,i):=by rw[hz,List.foldl_append];rfl
 rw[LC]
 generalize(ct.procs.zipIdx.take i).foldl (cycD ct.graph) ct.diags=dg at *
 have Dr:=s1.hc;simp -dsimp -implicitDefEqProofs only[go_sem,seval,g,h1,A8,M0,w1,hr];refine zas (zKa (s1.le (by omega)) BL Tk i AV) ?_;rintro r h2 x2 ⟨rfl,ML,AF⟩;have s2:=s1.loc (h'':=h2) (x'':=x2) (by omega) fun j hj _=>AF j (by omega)
 have f2:FrC ck h x N cv h2 x2 N { cv with d:=d }:=f1.loc (by omega) fun j hj=>AF j (by have:=f1.le;omega)
 have Pl:({ ct with diags:=dg }:Ct).graph=ct.graph:=rfl
 by_cases hb:reachB ct.graph i=true
 ·have E1:cycD ct.graph dg (p,i)=zJx dg 42 p.pos:=by unfold cycD;rw[if_pos hb]
  rw[E1];have CG:=s2.hc;simp -dsimp -implicitDefEqProofs only[go_sem,seval,Pl,hb,CG];refine zas (zLD s2 (by omega) 42 p.pos) ?_;rintro r h3 x3 ⟨d3,s3,f3,_,_⟩;rw[zHF]at s3;simp -dsimp -implicitDefEqProofs only[go_sem,seval,g,hw];refine⟨AV,by simp -dsimp -implicitDefEqProofs only[go_sem,seval],d3,?_,?_⟩
  ·exact s3.le (by(try simp -dsimp -implicitDefEqProofs only[go_sem,seval]);(try omega))
  ·exact(f2.trans f3).loc (by(try simp -dsimp -implicitDefEqProofs only[go_sem,seval]);(try omega)) fun _ _=>rfl
 ·have Bf:=Bool.eq_false_iff.2 hb;have E1:cycD ct.graph dg (p,i)=dg:=by unfold cycD;rw[if_neg hb]
  rw[E1];simp -dsimp -implicitDefEqProofs only[go_sem,seval,Pl,Bf,g,hw];refine⟨AV,by simp -dsimp -implicitDefEqProofs only[go_sem,seval],d,?_,?_⟩
  ·exact s2.le (by(try simp -dsimp -implicitDefEqProofs only[go_sem,seval]);(try omega))
  ·exact f2.loc (by(try simp -dsimp -implicitDefEqProofs only[go_sem,seval]);(try omega)) fun _ _=>rfl
def Mo.enc (m:Mo):List T:=[.str m.name,.str m.owner]++m.rely.enc++m.guar.enc++[.sl (m.frame.map Nd.enc),ti m.pos]
def Pr.enc (p:Pr):List T:=[.str p.name,ti p.module,.sl (p.params.map Va.enc),.sl (p.locals.map Va.enc),.str p.locked]++p.body.enc++[.sl (p.calls.map fun n=>[ti n]),ti p.pos]
def Th.enc (t:Th):List T:=[.str t.name,ti t.proc,.sl (t.args.map fun n=>[ti n]),tb t.asleep,ti t.pos]
def zKE (ct:Ct):V:=.agg [.t (.sl (ct.mods.map Mo.enc)),.t (.sl (ct.vars.map Va.enc)),.t (.sl (ct.locks.map Lk.enc)),.t (.sl (ct.procs.map Pr.enc)),.t (.sl (ct.thrs.map Th.enc))]
theorem zJd {h:Nat->Option O} {k i len d sz:Nat} {rs r:List (List V)} {fz:Bool} {es:List (List T)} (hk:h k=some (.rows sz rs fz)) (hr:rd rs i len=some r) (he:r.mapM (fun row=>row.mapM (toT h d))=some es):
 toT h (d+1) (.ms k i len)=some (.sl es):=by
 simp[toT,hk,hr,he]
theorem zKi {h2:Nat->Option O} {d:Nat}: ∀(l:List T),(∀t∈l,T.norm t=t)->(l.map V.t).mapM (toT h2 d)=some l
 | [],_=>rfl
 | t::l,hn=>by
   have h0:toT h2 d (.t t)=some t:=by
    have:toT h2 d (.t t)=some t.norm:=by cases d<;>rfl
    rw[this,hn t (by simp)]
   rw[List.map_cons,List.mapM_cons,h0,zKi l fun x hx=>hn x (by simp[hx])];rfl
theorem zGK {α β:Type} {f:α->Option β} {a b:List α} {x y:List β} (h1:a.mapM f=some x) (h2:b.mapM f=some y):(a++b).mapM f=some (x++y):=by
 rw[List.mapM_append,h1,h2];rfl
theorem zGJ {h2:Nat->Option O} {d:Nat} {es:List (List T)} (hn: ∀e∈es,∀t∈e,T.norm t=t):(zGk es).mapM (fun row=>row.mapM (toT h2 d))=some es:=by
 induction es with
 | nil=>rfl
 | cons e es ih=>
   rw[zGk,List.map_cons,List.mapM_cons,zKi e (hn e (by simp)),show(List.map (fun x=>List.map V.t x) es)=zGk es from rfl,ih fun e he=>hn e (by simp[he])];rfl
theorem zG7 {h h2:Nat->Option O} {x:Nat} {v:V} {sz d:Nat} {rows:List (List V)} {es:List (List T)} (o:zaF h x v sz rows) (he:rows.mapM (fun row=>row.mapM (toT h2 d))=some es) (hh: ∀j,j<x-> ¬zbg v j->h2 j=h j):toT h2 (d+1) v=some (.sl es):=by
 rcases o with⟨rfl,rfl⟩ | ⟨k,rfl,hk,hr⟩
 ·have:es=[]:=by simpa using he.symm
  subst this;rfl
 ·exact zJd ((hh k hk (fun h0=>h0 _ _ rfl)).trans hr) (by unfold rd;rw[if_pos (by omega),List.drop_zero,List.take_of_length_le (by omega)]) he
theorem zIq {h h2:Nat->Option O} {x:Nat} {N:Nat->Prop} {v:V} {sz d:Nat} {es:List (List T)} (o:Nst h x N v sz es) (hn: ∀e∈es,∀t∈e,T.norm t=t) (hh: ∀j,j<x->N j->h2 j=h j):toT h2 (d+1) v=some (.sl es):=by
 rcases o with⟨rfl,rfl⟩ | ⟨k,f,rfl,hk,hN,hr⟩
 ·rfl
 ·exact zJd ((hh k hk hN).trans hr) (by unfold rd;rw[if_pos (by simp),List.drop_zero,List.take_of_length_le (by simp)]) (zGJ hn)
theorem zJc (l:List Va): ∀e∈l.map Va.enc,∀t∈e,T.norm t=t:=fun e he t ht=>by
 obtain⟨v,_,rfl⟩:=List.mem_map.1 he;simp only[Va.enc,List.mem_cons,List.not_mem_nil,or_false]at ht;rcases ht with rfl | rfl | rfl | rfl | rfl | rfl | rfl<;>rfl
theorem zLZ (l:List Lk): ∀e∈l.map Lk.enc,∀t∈e,T.norm t=t:=fun e he t ht=>by
 obtain⟨v,_,rfl⟩:=List.mem_map.1 he;simp only[Lk.enc,List.mem_append,List.mem_cons,List.not_mem_nil,or_false]at ht;rcases ht with((rfl | rfl) | ht) | rfl
 ·rfl
 ·rfl
 ·exact zG9 _ t ht
 ·rfl
theorem zKH (l:List Int): ∀e∈(l.map fun n=>[ti n]),∀t∈e,T.norm t=t:=fun e he t ht=>by
 obtain⟨v,_,rfl⟩:=List.mem_map.1 he;simp only[List.mem_singleton]at ht;subst ht;rfl
theorem zHv {h2:Nat->Option O} {d:Nat} {l:List T} (hn: ∀t∈l,T.norm t=t):(l.map V.t).mapM (toT h2 d)=some l:=zKi l hn
theorem zJy {h2:Nat->Option O} {d:Nat} {v:V} {t:T} (h:toT h2 d v=some t): [v].mapM (toT h2 d)=some [t]:=by
 rw[List.mapM_cons,h];rfl
theorem zMS {h h2:Nat->Option O} {x:Nat} {N:Nat->Prop} {d:Nat} {row:List V} {m:Mo} (o:MoR h x N row m) (hh: ∀j,j<x->N j->h2 j=h j):row.mapM (toT h2 (d+1))=some m.enc:=by
 obtain⟨v,rfl,hv⟩:=o;have h1:=zIq (d:=d) hv (zIz _) hh;unfold Mo.enc;refine zGK (zGK (zGK (zHv (l:=[.str m.name,.str m.owner]) (by simp[T.norm])) (zHv (zG9 _))) (zHv (zG9 _))) ?_;exact zGK (a:=[v]) (zJy h1) (zHv (l:=[ti m.pos]) (by simp[T.norm]))
theorem zNF {h h2:Nat->Option O} {x:Nat} {N:Nat->Prop} {d:Nat} {row:List V} {p:Pr} (o:PrR h x N row p) (hh: ∀j,j<x->N j->h2 j=h j):row.mapM (toT h2 (d+1))=some p.enc:=by
 obtain⟨vP,vL,vC,rfl,h1,EY,h3,_⟩:=o;have a1:=zIq (d:=d) h1 (zJc _) hh;have a2:=zIq (d:=d) EY (zJc _) hh;have a3:=zIq (d:=d) h3 (zKH _) hh;unfold Pr.enc;refine zGK (zGK ?_ (zHv (zG9 _))) ?_
 ·exact zGK (a:=[.t (.str p.name),.t (ti p.module)]) (zHv (l:=[.str p.name,ti p.module]) (by simp[T.norm])) (zGK (a:=[vP]) (zJy a1) (zGK (a:=[vL]) (zJy a2) (zHv (l:=[.str p.locked]) (by simp[T.norm]))))
 ·exact zGK (a:=[vC]) (zJy a3) (zHv (l:=[ti p.pos]) (by simp[T.norm]))
theorem zNw {h h2:Nat->Option O} {x:Nat} {N:Nat->Prop} {d:Nat} {row:List V} {t:Th} (o:ThR h x N row t) (hh: ∀j,j<x->N j->h2 j=h j):row.mapM (toT h2 (d+1))=some t.enc:=by
 obtain⟨v,rfl,h1⟩:=o;have a1:=zIq (d:=d) h1 (zKH _) hh;exact zGK (a:=[.t (.str t.name),.t (ti t.proc)]) (zHv (l:=[.str t.name,ti t.proc]) (by simp[T.norm])) (zGK (a:=[v]) (zJy a1) (zHv (l:=[tb t.asleep,ti t.pos]) (by simp[T.norm])))
theorem zJH {α:Type} {R:List V->α->Prop} {f:α->List T} {h2:Nat->Option O} {d:Nat} (g: ∀row a,R row a->row.mapM (toT h2 d)=some (f a)): ∀{a:List (List V)} {b:List α},Pw R a b->a.mapM (fun row=>row.mapM (toT h2 d))=some (b.map f)
 | [],[],_=>rfl
 | r::a,x::b,hp=>by
   have h0:=g r x (hp.2 0 _ _ rfl rfl);have ih:=zJH g (a:=a) (b:=b) ⟨by simpa using hp.1,fun i u v hu hv=>hp.2 (i+1) u v hu hv⟩
   rw[List.mapM_cons,h0,ih];rfl
 | [],_::_,hp=>by have:=hp.1;simp at this
 | _::_,[],hp=>by have:=hp.1;simp at this
theorem zNi (l:List (Int×Int)): ∀e∈dgT l,∀t∈e,T.norm t=t:=fun e he t ht=>by
 obtain⟨v,_,rfl⟩:=List.mem_map.1 he;simp only[List.mem_cons,List.not_mem_nil,or_false]at ht;rcases ht with rfl | rfl<;>rfl
theorem CS.trees {ck:CK} {h h2:Nat->Option O} {x:Nat} {N:Nat->Prop} {cv:CV} {ct:Ct} (s:CS ck h x N cv ct) (d:Nat) (hh: ∀j,j<x->h2 j=h j):toT h2 (d+2) cv.mo=some (.sl (ct.mods.map Mo.enc))/\toT h2 (d+2) cv.va=some (.sl (ct.vars.map Va.enc))/\toT h2 (d+2) cv.lo=some (.sl (ct.locks.map Lk.enc))/\
 toT h2 (d+2) cv.pr=some (.sl (ct.procs.map Pr.enc))/\toT h2 (d+2) cv.th=some (.sl (ct.thrs.map Th.enc))/\toT h2 (d+2) cv.d=some (.sl (dgT ct.diags)):=by
 obtain⟨rm,m1,m2⟩:=s.mo;obtain⟨rp,p1,p2⟩:=s.pr;obtain⟨rt,t1,t2⟩:=s.th;have hN: ∀j,j<x->N j->h2 j=h j:=fun j j1 _=>hh j j1
 exact⟨zG7 m1 (zJH (fun r a o=>zMS (d:=d) o hN) m2) fun j j1 _=>hh j j1,zG7 s.va (zGJ (zJc _)) fun j j1 _=>hh j j1,zG7 s.lo (zGJ (zLZ _)) fun j j1 _=>hh j j1,
  zG7 p1 (zJH (fun r a o=>zNF (d:=d) o hN) p2) fun j j1 _=>hh j j1,zG7 t1 (zJH (fun r a o=>zNw (d:=d) o hN) t2) fun j j1 _=>hh j j1,zG7 s.od (zGJ (zNi _)) fun j j1 _=>hh j j1⟩
theorem zIs: ∀(l:List Nd) (st:Ct×List ByteArray),∃d b m,(l.foldl zGu st).1= { st.1 with diags:=d,bodies:=st.1.bodies++b,mods:=st.1.mods++m }/\b.Sublist l/\m.length=b.length/\(st.1.mods.length<=6->(st.1.mods++m).length<=6)
 | [],st=>⟨st.1.diags,[],[],by simp,List.Sublist.refl _,rfl,by simp⟩
 | a::l,st=>by
   obtain⟨d,b,m,h1,h2,h3,h4⟩:=zIs l (zGu st a);rw[List.foldl_cons,h1];have rp: ∀(c:Ct) (e p:Int),∃d2,c.report e p= { c with diags:=d2 }:=zGX;unfold zGu at h4⊢
   by_cases c1:zG5 st.2 a.name=true
   ·rw[if_pos c1]at h4⊢;obtain⟨d2,hd⟩:=rp st.1 41 a.pos;refine⟨d,b,m,by simp only[hd],h2.cons _,h3,?_⟩;simpa only[hd]using h4
   rw[if_neg c1]at h4⊢
   by_cases c2:st.1.mods.length>=6
   ·rw[if_pos c2]at h4⊢;obtain⟨d2,hd⟩:=rp st.1 2 a.pos;refine⟨d,b,m,by simp only[hd],h2.cons _,h3,?_⟩;simpa only[hd]using h4
   rw[if_neg c2]at h4⊢;obtain⟨d2,hd⟩:=zHI { st.1 with bodies:=st.1.bodies++[a] } a;refine⟨d,a::b,(({ st.1 with bodies:=st.1.bodies++[a] }:Ct).module a).m::m,?_,h2.cons_cons _,by simp[h3],fun h=> ?_⟩
   ·simp[hd]
   ·simp only[hd]at h4;have:=h4 (by simp;omega);simp at this⊢;omega
theorem zI0 (t:Nd): ∃d b m,Ct.nil.modules t= { Ct.nil with diags:=d,bodies:=b,mods:=m }/\b.Sublist t.kids/\m.length=b.length/\m.length<=6:=by
 obtain⟨d,b,m,h1,h2,h3,h4⟩:=zIs (zGo t 60) (Ct.nil,[]);refine⟨d,b,m,?_,h2.trans (List.filter_sublist),h3,?_⟩
 ·unfold Ct.modules;rw[h1];rfl
 ·have:=h4 (by simp[Ct.nil]);simpa[Ct.nil]using this
structure Pr.okP (p:Pr):Prop where
 w: ∀v∈p.params,1<=v.w/\v.w<=8
 l:p.params.length<900
 k:p.body.kind≠33
 s:p.body.size<900/\p.body.sane
 c:p.calls=[]
theorem zIK (m:Int): ∀(l:List Nd) (st:AddS),(∀v∈st.vs,1<=v.w/\v.w<=8)->(∀v∈(l.foldl (zGn m) st).vs,1<=v.w/\v.w<=8)/\(l.foldl (zGn m) st).vs.length<=st.vs.length+l.length
 | [],st,h=>⟨h,by simp⟩
 | a::l,st,h=>by
   have h2:(∀v∈(zGn m st a).vs,1<=v.w/\v.w<=8)/\(zGn m st a).vs.length<=st.vs.length+1:=by
    unfold zGn;split
    ·exact⟨h,by simp⟩
    ·split
     ·rename_i hw;refine⟨fun v hv=> ?_,by simp⟩;rcases List.mem_append.1 hv with hv | hv
      ·exact h v hv
      ·rw[List.mem_singleton]at hv;subst hv;exact hw
     ·exact⟨h,by simp⟩
   obtain⟨z1,z2⟩:=zIK m l _ h2.1;exact⟨z1,by have:=h2.2;simp only[List.foldl_cons,List.length_cons];omega⟩
theorem zGM (t:Nd):t.kids.length+1<=t.size:=by
 have h1:=Nd.size_eq t
 have h2:t.kids.length<=(t.kids.map Nd.size).sum:=by
  generalize t.kids=l
  induction l with
  | nil=>simp
  | cons a l ih=>have:=a.size_pos;simp only[List.map_cons,List.sum_cons,List.length_cons];omega
 omega
theorem zI6 {n:Nd} {k:Int} (hs:n.sane) (hz:n.size<900):(zGj n k).size<900/\(zGj n k).sane/\((zGj n k).kind=k\/zGj n k= .noneN):=by
 unfold zGj
 cases hf:n.kids.find? fun x=>decide (x.kind=k)with
 | none=>
   refine⟨by simp[Nd.noneN,Nd.size_eq,Nd.kids],fun x hx=> ?_,.inr rfl⟩;have:x= .noneN:=by simpa[Nd.noneN,Nd.flat_eq,Nd.kids]using hx
   subst this
   refine⟨?_,?_,?_,?_,?_,Nat.zero_le _,Nat.zero_le _,Nat.zero_le _⟩<;>simp[Nd.noneN,Nd.kind,Nd.n,Nd.len,Nd.init,Nd.pos]
 | some b=>
   have hm:=List.mem_of_find?_eq_some hf;have hk:=List.find?_some hf;have:=Nd.size_kid hm;exact⟨by simp;omega,hs.kid hm,.inl (by simpa using hk)⟩
theorem zMz (ct:Ct) (m:Int) (n:Nd) (hs:n.sane) (hz:n.size<900):Pr.okP ⟨n.name,m,(zGp ct m n).vs,(zGr ct m n).vs,n.other,zGj n 34,[],n.pos⟩:=by
 obtain⟨h1,h2⟩:=zIK m (zGo n 58) ⟨ct,[],[]⟩ (by simp);have h3:(zGo n 58).length<=n.kids.length:=List.length_filter_le _ _;have h4:=zGM n;obtain⟨h5,h6,h7⟩:=zI6 (k:=34) hs hz;refine⟨h1,?_,?_,⟨h5,h6⟩,rfl⟩
 ·simp only[List.length_nil]at h2;show(zGp ct m n).vs.length<900;unfold zGp;omega
 ·show(zGj n 34).kind≠33;rcases h7 with h | h
  ·omega
  ·rw[h];simp[Nd.noneN,Nd.kind]
theorem zHy (m:Int) (ct:Ct) (a:Nd):(zGl m ct a).procs=ct.procs\/(zGl m ct a).procs=ct.procs++[⟨a.name,m,(zGp ct m a).vs,(zGr ct m a).vs,a.other,zGj a 34,[],a.pos⟩]:=by
 unfold zGl;split
 rotate_left
 ·exact .inl rfl
 split
 ·exact .inl (zGF _ _ _)
 split
 ·obtain⟨d,hd⟩:=zG0 (zGo a 52) (ct,[]);have hf:(ct.fields a).1= { ct with diags:=d }:=hd;exact .inl (by simp[Ct.addName,hf])
 split
 ·have h1:(ct.shared m a).1.procs=ct.procs:=by
   have fin: ∀vs:List Va,(ct.sharedFin a vs).1.procs=ct.procs:=fun vs=>by
    unfold Ct.sharedFin;split
    ·rfl
    ·exact zGF _ _ _
   unfold Ct.shared;split
   ·exact zGF _ _ _
   ·split
    ·split
     ·exact fin _
     ·exact zGF _ _ _
    ·split
     ·exact zGF _ _ _
     ·exact fin _
  left;split
  ·exact h1
  ·exact h1
 split
 ·have h1:(ct.lock m a).1.procs=ct.procs:=by
   unfold Ct.lock;split
   ·exact zGF _ _ _
   ·rfl
  left;split
  ·exact h1
  ·exact h1
 ·obtain⟨d,hd⟩:=zJj ct m a;exact .inr (by simp[Ct.addName,hd])
theorem zJr (m:Int) (ct:Ct) (a:Nd):(zGl m ct a).mods=ct.mods/\(zGl m ct a).thrs=ct.thrs/\(zGl m ct a).bodies=ct.bodies:=by
 have rp: ∀(c:Ct) (e p:Int),(c.report e p).mods=c.mods/\(c.report e p).thrs=c.thrs/\(c.report e p).bodies=c.bodies:=fun c e p=>by unfold Ct.report;split<;>exact⟨rfl,rfl,rfl⟩
 unfold zGl;split
 rotate_left
 ·exact⟨rfl,rfl,rfl⟩
 split
 ·exact rp _ _ _
 split
 ·obtain⟨d,hd⟩:=zG0 (zGo a 52) (ct,[]);have hf:(ct.fields a).1= { ct with diags:=d }:=hd;simp[Ct.addName,hf]
 split
 ·have h1:(ct.shared m a).1.mods=ct.mods/\(ct.shared m a).1.thrs=ct.thrs/\(ct.shared m a).1.bodies=ct.bodies:=by
   have fin: ∀vs:List Va,(ct.sharedFin a vs).1.mods=ct.mods/\(ct.sharedFin a vs).1.thrs=ct.thrs/\(ct.sharedFin a vs).1.bodies=ct.bodies:=fun vs=>by
    unfold Ct.sharedFin;split
    ·exact⟨rfl,rfl,rfl⟩
    ·exact rp _ _ _
   unfold Ct.shared;split
   ·exact rp _ _ _
   ·split
    ·split
     ·exact fin _
     ·exact rp _ _ _
    ·split
     ·exact rp _ _ _
     ·exact fin _
  split
  ·exact h1
  ·exact h1
 split
 ·have h1:(ct.lock m a).1.mods=ct.mods/\(ct.lock m a).1.thrs=ct.thrs/\(ct.lock m a).1.bodies=ct.bodies:=by
   unfold Ct.lock;split
   ·exact rp _ _ _
   ·exact⟨rfl,rfl,rfl⟩
  split
  ·exact h1
  ·exact h1
 ·obtain⟨d,hd⟩:=zJj ct m a;simp[Ct.addName,hd]
theorem zIG {mn:List ByteArray} {pk:List Key} {m:Int} {n:Nat} (hn:pk.length=n): ∀(L:List Nd) (l:List Int),(∀c∈l,∃j:Nat,c=j/\j<n)-> ∀c∈L.foldl (zGy mn pk m) l,∃j:Nat,c=j/\j<n
 | [],l,h=>h
 | a::L,l,h=>by
   refine zIG hn L _ fun c hc=> ?_
   unfold zGy at hc;split at hc
   ·rename_i h1;rcases List.mem_append.1 hc with hc | hc
    ·exact h c hc
    ·rw[List.mem_singleton]at hc;subst hc;obtain⟨i,h2,h3⟩:=zIY h1.2.1;exact⟨i,h2,by omega⟩
   ·exact h c hc
theorem zLw (l:List Int) (c:Int):c∈sortI l<->c∈l:=by unfold sortI;exact List.mem_mergeSort
theorem zI9 {ct:Ct} (h: ∀p∈ct.procs,p.body.size<900):ct.callsM.cok:=by
 intro p hp;obtain⟨q,hq,rfl⟩:=List.mem_map.1 hp;refine⟨?_,fun c hc=> ?_⟩
 ·show(zGG ct.mn ct.pk q).length<2^30;unfold zGG sortI;rw[List.length_mergeSort];have:=zGP ct.mn ct.pk q.module q.body.flat [];rw[Nd.flat_len]at this;have:=h q hq;simp only[List.length_nil]at *;omega
 ·have Bz:c∈zGG ct.mn ct.pk q:=hc;unfold zGG at Bz;rw[zLw]at Bz;exact zIG (n:=ct.callsM.procs.length) (by simp[Ct.pk,Ct.callsM]) _ _ (by simp) c Bz
theorem zJ6 {α:Type} (f:α->Nat) {a b:List α} (h:a.Sublist b):(a.map f).sum<=(b.map f).sum:=by
 induction h with
 | slnil=>simp
 | cons x h ih=>simp only[List.map_cons,List.sum_cons];omega
 | cons_cons x h ih=>simp only[List.map_cons,List.sum_cons];omega
theorem zKG (l:List Nd):(l.map fun b=>b.kids.length).sum<=(l.map Nd.size).sum:=by
 induction l with
 | nil=>simp
 | cons a l ih=>have:=zGM a;simp only[List.map_cons,List.sum_cons];omega
def Ct.declsAt (ct:Ct) (i:Nat):Ct:=(ct.bodies.zipIdx.take i).foldl (fun c q=>q.1.kids.foldl (zGl (q.2:Nat)) c) ct
structure DcI (M ct:Ct) (D:Nat):Prop where
 ok:ct.okD D
 mo:ct.mods=M.mods
 th:ct.thrs=M.thrs
 bo:ct.bodies=M.bodies
 pr: ∀p∈ct.procs,p.okP
theorem DcI.step {M ct:Ct} {D:Nat} (I:DcI M ct D) (m:Int) (a:Nd) (hs:a.sane) (hz:a.size<900):DcI M (zGl m ct a) (D+1):=by
 obtain⟨h1,h2,h3⟩:=zJr m ct a;refine⟨zIA m ct D a I.ok hs hz,h1.trans I.mo,h2.trans I.th,h3.trans I.bo,fun p hp=> ?_⟩;rcases zHy m ct a with h | h
 ·exact I.pr p (h▸hp)
 ·rw[h]at hp;rcases List.mem_append.1 hp with hp | hp
  ·exact I.pr p hp
  ·rw[List.mem_singleton]at hp;subst hp;exact zMz ct m a hs hz
theorem DcI.fold {M:Ct} (m:Int): ∀(l:List Nd) {ct:Ct} {D:Nat},DcI M ct D->(∀a∈l,a.sane/\a.size<900)->DcI M (l.foldl (zGl m) ct) (D+l.length)
 | [],ct,D,I,_=>I
 | a::l,ct,D,I,h=>by
   have:=DcI.fold m l (I.step m a (h a (by simp)).1 (h a (by simp)).2) fun b hb=>h b (by simp[hb])
   rw[List.foldl_cons,List.length_cons,show D+(l.length+1)=D+1+l.length by omega];exact this
theorem zHi (t:Nd) (hz:t.size<900) (hs:t.sane):Den Γ G 595 [(.agg [.t (ti (t).kind),.t (.str (t).name),.t (.str (t).other),.t (ti (t).n),.t (ti (t).len),.t (ti (t).init),.t (tb (t).ghost),.t (.sl ((t).kids.map Nd.enc)),.t (ti (t).pos)])]=some (.tup [zKE (collectM t),.t (.sl (dgT (collectM t).diags))]):=by
 (refine zag Γ595 rfl ?_;dsimp only[zOu])
 by_cases hk:t.kind=62
 rotate_left
 ·have AT:=eq_false hk;have TB:collectM t= .nil:=by unfold collectM;rw[if_neg hk]
  rw[TB];simp -dsimp -implicitDefEqProofs only[go_sem,seval,Nd.enc_eq,AT];exact⟨rfl,rfl⟩
 have AT:=eq_true hk;have TB:collectM t=(((Ct.nil.modules t).decls.threads t).callsM).cyclesM:=by unfold collectM;rw[if_pos hk]
 rw[TB];obtain⟨dM,bM,mM,hM,D5,VJ,Ue⟩:=zI0 t;have Fu: ∀b∈bM,b∈t.kids:=fun b hb=>D5.subset hb
 have D4:bM.length<=t.kids.length:=D5.length_le;have Dv:=zGM t
 have IY:(bM.map fun b=>b.kids.length).sum<900:=by
  have h1:=zJ6 (fun b:Nd=>b.kids.length) D5;have h2:=zKG t.kids;have h3:=Nd.size_eq t;omega
 simp -dsimp -implicitDefEqProofs only[go_sem,seval,Nd.enc_eq,AT];refine zas (zKg (ck:=⟨10,6,7,8⟩) (N:=fun _=>False) (cv:=⟨.t .nils,.t .nils,.t .nils,.t .nils,.t .nils,.t .nils,.t .nils⟩) (ct:=.nil) (x:=20) ?_ t hz (by simp[Ct.nil]) (by simp[Ct.nil])) ?_
 ·refine⟨by simp[zaa],by simp[zaa],by simp[zaa,Ct.nil],⟨[],by simp[zaa],Pw.nil⟩,.inl ⟨rfl,rfl⟩,⟨[],.inl ⟨rfl,rfl⟩,Pw.nil⟩,.inl ⟨rfl,rfl⟩,.inl ⟨rfl,rfl⟩,⟨[],.inl ⟨rfl,rfl⟩,Pw.nil⟩,⟨[],.inl ⟨rfl,rfl⟩,Pw.nil⟩,.inl ⟨rfl,rfl⟩,by simp,by simp,fun i n e=>(by cases e),fun j h=>h.elim,fun j h=>h.elim⟩
 rintro r h1 x1 ⟨N1,cv1,s1,f1⟩;rw[hM]at s1;obtain⟨M,Su⟩: ∃M,M=({ Ct.nil with diags:=dM,bodies:=bM,mods:=mM }:Ct):=⟨_,rfl⟩
 rw[<- Su]at s1;have Tm:M.bodies=bM:=by rw[Su]
 have Ti:DcI M M 0:=by
  refine⟨⟨⟨?_,?_⟩,?_,?_,?_,?_⟩,rfl,rfl,rfl,?_⟩<;>simp[Su,Ct.nil]
 have Dr:=s1.hc;have v1:=s1.bo.valOf;have v2:=s1.bo.lenS;rw[show(zGk (M.bodies.map Nd.enc)).length=bM.length by simp[Tm]]at v2;simp -dsimp -implicitDefEqProofs only[go_sem,seval,Dr,v1,v2];refine zaq 274609471680 bM.length (fun i f h' x'=>(f 28).v=vi i/\ ∃N' cv',CS ⟨10,6,7,8⟩ h' x' N' cv' (M.declsAt i)/\cv'.bo=cv1.bo/\DcI M (M.declsAt i) (((bM.take i).map fun b=>b.kids.length).sum)) rfl ⟨by simp -dsimp -implicitDefEqProofs only[go_sem,seval],N1,cv1,s1.le (by(try simp -dsimp -implicitDefEqProofs only[go_sem,seval]);(try omega)),rfl,by simpa[Ct.declsAt]using Ti⟩ ?_;rintro i f u h2 x2 b2 hi ⟨g,N2,cv2,s2,TD,Sx⟩
 by_cases AV:i<bM.length
 ·have e1:=eq_true AV;obtain⟨b,hb,EW⟩:=zai AV;have hw:=zan i (by omega);have SF:=Fu b EW;have Ay:=hs.kid SF;have Vz:=Nd.size_kid SF;have Vo:=zGM b;have HQ:=s2.bo;rw[TD,Sx.bo,Tm]at HQ;have sl:=zHh HQ (fun r hr=>by simpa using List.all_eq_true.1 (zHb bM) r hr);have Bj:(zGk (bM.map Nd.enc))[i]? =some (b.enc.map V.t):=by rw[zGk,zJ,zJ,hb];rfl
  obtain⟨p,k1,k2,k3⟩:=sl.at_ i _ Bj;rw[Nd.enc_eq]at k3;simp only[List.map_cons,List.map_nil]at k3
  have hD:((bM.take (i+1)).map fun b=>b.kids.length).sum=((bM.take i).map fun b=>b.kids.length).sum+b.kids.length:=by
   rw[zaf hb];simp
  have Vv:((bM.take (i+1)).map fun b=>b.kids.length).sum<=(bM.map fun b=>b.kids.length).sum:=zJ6 _ (List.take_sublist _ _);have TQ: ∀a∈b.kids,a.sane/\a.size<900:=fun a ha=>⟨Ay.kid ha,by have:=Nd.size_kid ha;omega⟩
  have TE:M.declsAt (i+1)=b.kids.foldl (zGl (i:Nat)) (M.declsAt i):=by
   unfold Ct.declsAt;rw[zaf (zIT (by rw[Tm];exact hb)),List.foldl_append];rfl
  simp -dsimp -implicitDefEqProofs only[go_sem,seval,g,e1,v1,↓k1,k2,↓k3];refine zas (zMN (s2.le (by omega)) (i:Nat) b _ Sx.ok (by omega) Ay (by omega) fun ct D a h1 ha=>zIA _ ct D a h1 (TQ a ha).1 (TQ a ha).2) ?_;rintro r h3 x3 ⟨N3,cv3,s3,f3⟩;simp -dsimp -implicitDefEqProofs only[go_sem,seval,g,hw];refine⟨AV,by simp -dsimp -implicitDefEqProofs only[go_sem,seval],N3,cv3,?_,f3.bo.trans TD,?_⟩
  ·rw[TE];exact s3.le (by(try simp -dsimp -implicitDefEqProofs only[go_sem,seval]);(try omega))
  ·rw[TE,hD];exact Sx.fold _ b.kids TQ
 have e1:=eq_false AV;have:i=bM.length:=by omega
 subst this
 have UA:M.declsAt bM.length=M.decls:=by
  unfold Ct.declsAt Ct.decls;rw[List.take_of_length_le (by simp[Tm])]
 rw[UA,List.take_length]at Sx;rw[UA]at s2;obtain⟨Q,hQ⟩: ∃Q,Q=M.decls:=⟨_,rfl⟩
 rw[<- hQ]at s2 Sx;have V3:Q.mods.length<=6:=by rw[Sx.mo,Su];exact Ue
 have V2:Q.procs.length<900:=by have:=Sx.ok.pl;omega
 have V4:Q.locks.length<900:=by have:=Sx.ok.ll;omega
 simp -dsimp -implicitDefEqProofs only[go_sem,seval,g,e1];refine zas (zJ5 (s2.le (by omega)) t hz hs (by omega) (by omega) (fun p hp=>⟨fun v hv=>by have:=(Sx.pr p hp).w v hv;omega,by have:=(Sx.pr p hp).l;omega⟩)) ?_;rintro r h3 x3 ⟨N3,cv3,s3,f3⟩;obtain⟨dT,thT,hT⟩:=zHs (zGo t 61) (Q,[]);have SV:Q.threads t= { Q with diags:=dT,thrs:=thT }:=hT;have Cf:(((Ct.nil.modules t).decls.threads t).callsM).cyclesM=((Q.threads t).callsM).cyclesM:=by rw[hM,<- Su,hQ]
 rw[Cf];obtain⟨Z,hZ⟩: ∃Z,Z=Q.threads t:=⟨_,rfl⟩
 rw[<- hZ]at s3⊢;have Up:Z.mods=Q.mods:=by rw[hZ,SV]
 have SG:Z.procs=Q.procs:=by rw[hZ,SV]
 have Uq:Z.locks=Q.locks:=by rw[hZ,SV]
 simp -dsimp -implicitDefEqProofs only[go_sem,seval];refine zas (zMg (s3.le (by omega)) (by rw[Up];omega) (by rw[SG];omega) (by rw[Uq];omega) ⟨fun p hp=>(Sx.pr p (by rw[<- SG];exact hp)).k,fun p hp=>(Sx.pr p (by rw[<- SG];exact hp)).s,fun p hp=>(Sx.pr p (by rw[<- SG];exact hp)).c⟩) ?_;rintro r h4 x4 ⟨N4,cv4,s4,f4⟩;have Tj:Z.callsM.cok:=zI9 fun p hp=>(Sx.pr p (by rw[<- SG];exact hp)).s.1
 have By:Z.callsM.procs.length=Q.procs.length:=by simp[Ct.callsM,SG]
 simp -dsimp -implicitDefEqProofs only[go_sem,seval];refine zas (zLm (s4.le (by omega)) (by omega) Tj) ?_;rintro r h5 x5 ⟨N5,cv5,s5,f5⟩;obtain⟨W,hW⟩: ∃W,W=Z.callsM.cyclesM:=⟨_,rfl⟩
 rw[<- hW]at s5⊢;have Vn:=s5.hc;have Vl:=s5.hd;obtain⟨rm,m1,m2⟩:=s5.mo;obtain⟨rp,p1,p2⟩:=s5.pr;obtain⟨rt,t1,t2⟩:=s5.th;have y1:=m1.valOf;have y2:=s5.va.valOf;have y3:=s5.lo.valOf;have y4:=p1.valOf;have y5:=t1.valOf;have y6:=s5.od.valOf;obtain⟨z1,z2,z3,z4,z5,z6⟩:=s5.trees (h2:=h5) 998 fun _ _=>rfl
 have y7:=s5.od.resVal;simp only[Rg.resVal]at y7;simp -dsimp -implicitDefEqProofs only[go_sem,seval,Vn,Vl,y1,y2,y3,y4,y5,y6,y7,↓z1,↓z2,↓z3,↓z4,↓z5,↓z6];rcases s5.od with⟨e,_⟩ | ⟨k,e,_,_⟩
 ·rw[e]at z6⊢;simp only[z6,Option.map_some,zD];rfl
 ·rw[e]at z6⊢;simp only[z6,Option.map_some,zD];rfl
end Rg
end
