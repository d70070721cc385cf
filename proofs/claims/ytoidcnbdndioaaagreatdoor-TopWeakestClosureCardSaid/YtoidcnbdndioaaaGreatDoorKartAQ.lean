/- Part of the proof of laws of relyguardtop. No condition. -/
import Derived.Test.YtoidcnbdndioaaaGreatDoorKartAP
import Derived.Test.YtoidcnbdndioaaaGreatDoorKartAO
set_option linter.unusedSimpArgs false
set_option linter.unusedVariables false
section
namespace Rg
open Go
theorem PvF.keepO {h h':Nat->Option O} {P:Nat->Prop} {v:V} {l:List Int} (o:PvF h P v l) (hh: ∀k rs f,P k->h k=some (.rows 1 rs f)->h' k=h k):PvF h' P v l:=by
 rcases o with o | ⟨k,f,rfl,h2,h3⟩
 ·exact .inl o
 ·exact .inr ⟨k,f,rfl,h2,by rw[hh k _ _ h2 h3];exact h3⟩
theorem PvF.toT1 {h:Nat->Option O} {P:Nat->Prop} {v:V} {l:List Int} (o:PvF h P v l):Rg.toT1 h v=some (.t (ints l)):=by
 have:=o.toT 1000 (by omega);rcases o with⟨rfl,rfl⟩ | ⟨k,f,rfl,_,_⟩
 ·rfl
 ·simp only[Rg.toT1,this,Option.map_some]
abbrev prV (R:List (Int×V×List Int)):List (Int×V):=R.map fun r=>(r.1,r.2.1)
abbrev prC (R:List (Int×V×List Int)):List (Int×List Int):=R.map fun r=>(r.1,r.2.2)
structure RG (s:List Nat) (low w ky k2 kw kin kl nx:Nat) (env:Nat->V) (v:Nat) (h:Nat->Option O) (x:Nat) (box:Option (List V)):Prop where
 hnx:nx<=x
 hky:h ky=some (.loop env [7] zHr .ready)
 hkw:h kw=some (.rows 1 [[vi w]] false)
 hkl:h kl=some (.rows 1 [[vi low]] false)
 hkin:h kin=some (.rows 1 [[.t (ints (nI (zLS s low v)))]] false)
 ex: ∃(la:Int) (vc:V) (C:List Int) (vL:V) (R:List (Int×V×List Int)),box=some [vi la,vc]/\h k2=some (.rows 1 [[vL]] false)/\zaF h x vL 2 (rwR (prV R))/\(∀r∈R,PvF h (fun j=>nx<=j/\j<x) r.2.1 r.2.2)/\
  PvF h (fun j=>nx<=j/\j<x) vc C/\R.length<=v/\((v=0/\R=[]/\la=0/\C=[])\/(0<v/\la=v-1/\Rep (fun v=>nI (zIa s low v)) (prC R++[(la,C)]) v))
theorem zKC {h:Nat->Option O} {x ky k2:Nat} {env:Nat->V} {vL vp:V} {R:List (Int×V)} {last:Int} (hk:h ky=some (.loop env [7] zHr .ready)) (e2:env 2= .mp k2 0 0) (h2:h k2=some (.rows 1 [[vL]] false)) (hO:zaF h x vL 2 (rwR R)) (hL:R.length<2^20) (hky:ky<x) (AF:k2<x)
 (TZ:Rg.valOf vp=some vp/\V.cells vp=some [vp]):
 ∃r h' n',DenY Γ G ky [.agg [vi last,vp]] h x=some (r,h',n')/\(r=vb true/\h' ky=some (.loop env [7] zHr .ready)/\(∃vL',h' k2=some (.rows 1 [[vL']] false)/\zaF h' n' vL' 2 (rwR (R++[(last,vp)])))/\x<=n'/\ ∀j,j<x->j≠k2->zbg vL j->h' j=h j):=by
 obtain⟨h',n',q,p⟩:=zPu hk e2 h2 hO hL hky AF TZ;exact⟨_,h',n',q,rfl,p⟩
theorem zNC {H:Nat->Option O} {ky k2 kw kin kl nx:Nat} {env:Nat->V} {s:List Nat} {low w:Nat} (hs:s.Pairwise (· < ·)) (Ad: ∀n∈s,n<2^(low+w)) (Tl:low+w<=12)
 (hk:H ky=some (.loop env [7] zHr .ready)) (e2:env 2= .mp k2 0 0) (h2:H k2=some (.rows 1 [[.t .nils]] false)) (hkw:H kw=some (.rows 1 [[vi w]] false)) (Aj:H kin=some (.rows 1 [[.t (ints (nI s))]] false)) (hkl:H kl=some (.rows 1 [[vi low]] false))
 (b1:ky<nx) (b2:k2<nx) (b3:kw<nx) (b4:kin<nx) (b5:kl<nx) (d1:kin≠kw) (d2:kin≠kl) (d3:kin≠k2) (d4:k2≠kw) (d5:k2≠kl):
 ∃r h' n',DenR Γ G 590 [.yl ky,.mp kw 0 0,.mp kin 0 0,.mp kl 0 0] H nx=some (r,h',n')/\nx<=n'/\h' ky=some (.loop env [7] zHr .ready)/\ ∃vL R,h' k2=some (.rows 1 [[vL]] false)/\zaF h' n' vL 2 (rwR (prV R))/\
  (∀r∈R,PvF h' (fun j=>nx<=j/\j<n') r.2.1 r.2.2)/\Rep (fun v=>nI (zIa s low v)) (prC R) (2^w):=by
 have nky:kin≠ky:=by rintro rfl;rw[hk]at Aj;cases Aj
 have U2:s.length<=2^(low+w):=zHn hs Ad;have S1:(2:Nat)^(low+w)<=2^12:=Nat.pow_le_pow_right (by omega) Tl;have Kk:(2:Nat)^w<=2^12:=Nat.pow_le_pow_right (by omega) (by omega);have BL:(2:Nat)^low<=2^12:=Nat.pow_le_pow_right (by omega) (by omega)
 have sw: ∀k:Nat,k<=12->IntKind.i64.wrap (1*2^min k 64)=((2^k:Nat):Int):=fun k hk=>by
  have Ev:(2:Nat)^k<=2^12:=Nat.pow_le_pow_right (by omega) hk
  have h4:(1*2^min k 64:Int)=((2^k:Nat):Int):=by
   rw[Nat.min_eq_left (by omega)];push_cast;omega
  rw[h4]
  generalize(2:Nat)^k=q at Ev⊢
  exact zaH (by omega)
 have sw0:=sw w (by omega);have sl0:=sw low (by omega);have w0:((w:Int)<0)=False:=eq_false (by omega);have l0:((low:Int)<0)=False:=eq_false (by omega)
 (refine zay Γ590 rfl ?_;dsimp only[zPQ])
 simp -dsimp -implicitDefEqProofs only[go_sem,seval,hkw,w0,sw0];refine zaq 18014398509481184 (2^w) (fun v f h x=>(f 10).v=vi v/\(f 5).v= .lb/\RG s low w ky k2 kw kin kl nx env v h x (f 5).box) rfl ⟨by simp -dsimp -implicitDefEqProofs only[go_sem,seval],by simp -dsimp -implicitDefEqProofs only[go_sem,seval],?_⟩ ?_
 ·simp -dsimp -implicitDefEqProofs only[go_sem,seval];refine⟨by(try simp -dsimp -implicitDefEqProofs only[go_sem,seval]);(try omega),hk,hkw,hkl,by rw[zND];exact Aj,0,.t .nils,[],.t .nils,[],rfl,h2,.inl ⟨rfl,rfl⟩,(fun r hr=>by cases hr),.inl ⟨rfl,rfl⟩,Nat.le_refl _,.inl ⟨rfl,rfl,rfl,rfl⟩⟩
 rintro v f u h x bb hv ⟨g10,g5,I⟩;obtain⟨la,vc,C,vL,R,g5b,AF,hO,hR,Fc,Ou,Ae⟩:=I.ex;have hw:=zan v (by omega)
 by_cases E6:v<2^w
 rotate_left
 ·have Tg:(v<2^w)=False:=eq_false E6;have:v=2^w:=by omega
  subst this;simp -dsimp -implicitDefEqProofs only[go_sem,seval,g10,Tg,g5,g5b];have hx:=I.hnx;have Nt:=Nat.two_pow_pos w;refine zas (zKC I.hky e2 AF (hO.le (by omega)) (by simp;omega) (by omega) (by omega) Fc.val) ?_;rintro r h3 x3 ⟨rfl,k3,⟨vL3,k23,Hl⟩,Ty,SG⟩;rcases Ae with⟨h,_⟩ | ⟨_,NC,L2⟩
  ·omega
  simp -dsimp -implicitDefEqProofs only[go_sem,seval];have pv3: ∀{v' l'},PvF h (fun j=>nx<=j/\j<x) v' l'->PvF h3 (fun j=>nx<=j/\j<x3) v' l':=fun p=>(p.keepO fun k rs f p1 p2=>SG k (by omega) (by omega) (hO.offQ p2 (by decide))).imp fun j hj=>⟨hj.1,by omega⟩
  exact⟨by omega,k3,vL3,R++[(la,vc,C)],k23,(by rw[prV,List.map_append];exact Hl),(fun r hr=>by
   rcases List.mem_append.1 hr with hr | hr
   ·exact pv3 (hR r hr)
   ·rw[List.mem_singleton]at hr;subst hr
    exact pv3 Fc),by rw[prC,List.map_append];exact L2⟩
 have Tg:(v<2^w)=True:=eq_true E6;simp -dsimp -implicitDefEqProofs only[go_sem,seval,g10,Tg];have Nf:=zJU hs low v;have SW:=I.hkin;rw[Nf]at SW;have JI:(zKc s low v).length<=4096:=Nat.le_trans (List.length_filter_le _ _) (by omega)
 refine zaq 137438945408 (zKc s low v).length (fun i f' h' x'=>x+1+3<=x'/\h' kin=some (.rows 1 [[.t (ints (nI ((zKc s low v).drop i++zLS s low (v+1))))]] false)/\zaF h' x' (f' 7).v 1 (zae (nI (((zKc s low v).take i).map fun n=>n % 2^low)))/\(∀j,j<x->zbg (f' 7).v j)/\ ∀j,j<x->j≠kin->h' j=h j) rfl
  ⟨by(try simp -dsimp -implicitDefEqProofs only[go_sem,seval]);(try omega),SW,.inl ⟨by simp -dsimp -implicitDefEqProofs only[go_sem,seval],rfl⟩,(fun j _=>by simp -dsimp -implicitDefEqProofs only[go_sem,seval];intro i n e;cases e),fun j _ _=>rfl⟩ ?_
 rintro i f1 u1 h1 x1 bb1 hi ⟨KA,A3,O0,Jq,J3⟩;have hx:=I.hnx;have q1:=J3 kw (by omega) d1.symm;rw[I.hkw]at q1;have q2:=J3 kl (by omega) d2.symm;rw[I.hkl]at q2;have Cj:=zan i (by omega)
 by_cases AV:i<(zKc s low v).length
 ·have DB:=eq_true AV;obtain⟨a,ha,Cp⟩:=zai AV
  have hL:(zKc s low v).drop i++zLS s low (v+1)=a::((zKc s low v).drop (i+1)++zLS s low (v+1)):=by
   rw[zdo ha];rfl
  rw[hL]at A3
  generalize(zKc s low v).drop (i+1)++zLS s low (v+1)=T at A3⊢
  have T1:zae (nI (((zKc s low v).take (i+1)).map fun n=>n % 2^low))=zae (nI (((zKc s low v).take i).map fun n=>n % 2^low))++[[vi (a % 2^low:Nat)]]:=by
   rw[zaf ha];simp[zae]
  have Vg:a/ 2^low=v:=by have:=(List.mem_filter.1 Cp).2;simpa using this
  have Vi:a<2^(low+w):=Ad a (List.mem_filter.1 Cp).1;have t1:(nI (a::T))[0]? =some (a:Int):=rfl;have t2:(nI (a::T)).length=T.length+1:=by simp
  have t3:(((T.length+1:Nat):Int)>0)=True:=eq_true (by omega)
  have t4:(a:Int).fdiv (2^min low 64)=(v:Int):=by
   rw[Nat.min_eq_left (by omega),Int.fdiv_eq_ediv_of_nonneg _ (Int.le_of_lt (zcn _)),<- Vg]
   push_cast;rfl
  have L3:=O0.valOf
  have m1:IntKind.i64.wrap (((2^low:Nat):Int)-1)=((2^low:Nat):Int)-1:=by
   generalize(2:Nat)^low=q at BL⊢
   exact zaH (by omega)
  have m2:IntKind.i64.wrap ((BitVec.ofInt IntKind.i64.bits (a:Int)&&& BitVec.ofInt IntKind.i64.bits (((2^low:Nat):Int)-1)).toNat:Int)=((a % 2^low:Nat):Int):=by
   have:=ziA (a:Int) (low:Int) (by omega);rw[Int.toNat_natCast]at this
   push_cast at this⊢
   exact this
  have r2:=O0.r2;have r3:=O0.r3;have r4:=O0.r4;have r5:=O0.r5;simp -dsimp -implicitDefEqProofs only[go_sem,seval,A3,t1,t2,t3,l0,q2,t4,L3,sl0,m1,m2,r2,r3,r4,r5];refine zav (O0.upd (by omega) _) (by omega) (by rw[zab];simp only[List.length_map,List.length_take];omega) (by decide) rfl (zaQ _) ?_;intro vp hp hP Bp Aq;have z1:=hP.valOf;have Ul:=Jq kin (by omega);have k1:=Aq kin (by omega) Ul;rw[zaa,if_neg (by omega),A3]at k1;have c1:(1<=((T.length+1:Nat):Int)/\((T.length+1:Nat):Int)<=((T.length+1:Nat):Int))=True:=eq_true ⟨by omega,Int.le_refl _⟩;have c2:((List.map (fun n=>[ti n]) (List.map (fun n:Nat=>(n:Int)) T)).all fun x=>decide (x.length=1))=true:=by simp
  have c3:List.take (((T.length+1:Nat):Int)-1).toNat (List.map (fun n=>[ti n]) (List.map (fun n:Nat=>(n:Int)) T))=List.map (fun n=>[ti n]) (List.map (fun n:Nat=>(n:Int)) T):=by
   rw[List.take_of_length_le];simp only[List.length_map];omega
  simp -dsimp -implicitDefEqProofs only[go_sem,seval,z1,k1,t2,c1,c2,c3];refine⟨AV,by simp -dsimp -implicitDefEqProofs only[go_sem,seval];omega,?_,?_,fun j hj=>by simp -dsimp -implicitDefEqProofs only[go_sem,seval];exact Bp j (by omega),fun j hj j1=> ?_⟩
  ·simp only[zaC,zaA];rw[zaa,if_pos rfl]
  ·simp only[zaC,zaA];rw[T1];simp -dsimp -implicitDefEqProofs only[go_sem,seval];refine hP.keep (by(try simp -dsimp -implicitDefEqProofs only[go_sem,seval]);(try omega)) fun q q1 q2=> ?_
   have:q≠kin:=by rintro rfl;exact q2 (Bp q (by omega))
   rw[zaa,if_neg this]
  ·simp only[zaC,zaA];rw[zaa,if_neg j1,Aq j (by omega) (Jq j hj),zaa,if_neg (by omega)];exact J3 j hj j1
 have DB:=eq_false AV;have:i=(zKc s low v).length:=by omega
 subst this;rw[List.drop_length,List.nil_append]at A3;rw[List.take_length]at O0
 have Cf: ∀a T,zLS s low (v+1)=a::T-> ¬a/ 2^low=v:=fun a T e h=>by
  have:a∈zLS s low (v+1):=by rw[e];simp
  have:=(List.mem_filter.1 this).2;simp at this;omega
 have L3:=O0.valOf;have Q1:=O0.cells;unfold V.cells at Q1;have vcv:=Fc.val.1;have vcc:=Fc.val.2;unfold V.cells at vcc
 have pvp:PvF h1 (fun j=>nx<=j/\j<x1) (f1 7).v (nI (zIa s low v)):=O0.pvF fun k hk Be=>⟨by
  rcases Nat.lt_or_ge k nx with h | h
  ·exact absurd (Jq k (by omega)) Be
  ·exact h,hk⟩
 have pvc:PvF h1 (fun j=>nx<=j/\j<x) vc C:=Fc.keep fun j hj=>J3 j hj.2 (by omega)
 have tvp:=pvp.toT1;have tvc:=pvc.toT1;have SB:h1 ky=some (.loop env [7] zHr .ready):=by rw[J3 ky (by omega) nky.symm];exact I.hky
 have SC:h1 k2=some (.rows 1 [[vL]] false):=by rw[J3 k2 (by omega) d3.symm];exact AF
 have Nw:zbg vL kin:=hO.offQ I.hkin (by decide);have Sx:zaF h1 x1 vL 2 (rwR (prV R)):=hO.keep (by omega) fun q p1 p2=>J3 q p1 (by rintro rfl;exact p2 Nw)
 have TT: ∀r∈R,PvF h1 (fun j=>nx<=j/\j<x1) r.2.1 r.2.2:=fun r hr=>((hR r hr).keep fun j hj=>J3 j hj.2 (by omega)).imp fun j hj=>⟨hj.1,by omega⟩
 have pvc1:PvF h1 (fun j=>nx<=j/\j<x1) vc C:=pvc.imp fun j hj=>⟨hj.1,by omega⟩
 have SZ:C.length<2^30:=by
  rcases Ae with⟨_,_,_,rfl⟩ | ⟨Fz,NC,L2⟩
  ·simp
  ·obtain⟨r,f1,f2⟩:=L2.find (v-1) (by omega)
   have Vp:C=nI (zIa s low (v-1)):=by
    rw[zG8 (fun r hr=>by
     have:=(List.pairwise_append.1 L2.inc).2.2 r hr (la,C) (by simp);simp only at this
     simp;omega)]at f1
    simp only[List.find?_cons,NC]at f1;rw[show decide (((v-1:Nat):Int)<=(v:Int)-1)=true by simp;omega]at f1;simp only[zA]at f1;rw[<- f1]at f2;exact f2
   rw[Vp];simp only[List.length_map,zIa,zKc];exact Nat.lt_of_le_of_lt (List.length_filter_le _ _) (by omega)
 have SU:(nI (zIa s low v)).length<2^30:=by
  simp only[List.length_map,zIa];omega
 cases hq:zLS s low (v+1)with
 | nil=>
   have EM:h1 kin=some (.rows 1 [[.t (ints [])]] false):=by rw[A3,hq];rfl
   by_cases Fz:v=0
   ·subst Fz;rcases Ae with⟨_,rfl,rfl,rfl⟩ | ⟨h,_⟩
    rotate_left
    ·omega
    simp -dsimp -implicitDefEqProofs only[go_sem,seval,g10,EM,g5,g5b,L3,Q1];refine⟨E6,by simp -dsimp -implicitDefEqProofs only[go_sem,seval,hw],by simp -dsimp -implicitDefEqProofs only[go_sem,seval,g5],?_⟩;simp -dsimp -implicitDefEqProofs only[go_sem,seval,g5,g5b];exact⟨by(try simp -dsimp -implicitDefEqProofs only[go_sem,seval]);(try omega),SB,q1,q2,A3,0,_,_,vL,[],rfl,SC,Sx.le (by(try simp -dsimp -implicitDefEqProofs only[go_sem,seval]);(try omega)),(fun r hr=>by cases hr),pvp.imp (fun j hj=>⟨hj.1,by(try simp -dsimp -implicitDefEqProofs only[go_sem,seval]);(try omega)⟩),by simp,.inr ⟨by omega,by simp,zRl _⟩⟩
   ·have v0:((v:Int)>0)=True:=eq_true (by omega);have Fq:=zId (nI (zIa s low v)) C SU SZ;rcases Ae with⟨h,_⟩ | ⟨_,NC,L2⟩
    ·omega
    by_cases NZ:nI (zIa s low v)=C
    ·have S2:(nI (zIa s low v)=C)=True:=eq_true NZ;simp -dsimp -implicitDefEqProofs only[go_sem,seval,g10,EM,g5,g5b,L3,Q1,v0,vcv,vcc,↓tvp,↓tvc,Fq,S2];refine⟨E6,by simp -dsimp -implicitDefEqProofs only[go_sem,seval,hw],by simp -dsimp -implicitDefEqProofs only[go_sem,seval,g5],?_⟩;simp -dsimp -implicitDefEqProofs only[go_sem,seval,g5,g5b];obtain⟨u,rfl⟩: ∃u,v=u+1:=⟨v-1,by omega⟩
     have Tm:la=(u:Int):=by omega
     subst Tm;exact⟨by(try simp -dsimp -implicitDefEqProofs only[go_sem,seval]);(try omega),SB,q1,q2,A3,((u+1:Nat):Int),_,C,vL,R,rfl,SC,Sx.le (by(try simp -dsimp -implicitDefEqProofs only[go_sem,seval]);(try omega)),fun r hr=>(TT r hr).imp (fun j hj=>⟨hj.1,by(try simp -dsimp -implicitDefEqProofs only[go_sem,seval]);(try omega)⟩),(NZ▸pvp).imp (fun j hj=>⟨hj.1,by(try simp -dsimp -implicitDefEqProofs only[go_sem,seval]);(try omega)⟩),by omega,.inr ⟨by omega,by omega,zLe L2 NZ.symm⟩⟩
    ·have S2:(nI (zIa s low v)=C)=False:=eq_false NZ;simp -dsimp -implicitDefEqProofs only[go_sem,seval,g10,EM,g5,g5b,L3,Q1,v0,vcv,vcc,↓tvp,↓tvc,Fq,S2];refine zas (zKC SB e2 SC (Sx.le (by omega)) (by simp;omega) (by omega) (by omega) Fc.val) ?_;rintro r h3 x3 ⟨rfl,k3,⟨vL3,k23,Hl⟩,Ty,SG⟩;simp -dsimp -implicitDefEqProofs only[go_sem,seval,g10,g5,g5b,L3,Q1];refine⟨E6,by simp -dsimp -implicitDefEqProofs only[go_sem,seval,hw],by simp -dsimp -implicitDefEqProofs only[go_sem,seval,g5],?_⟩;simp -dsimp -implicitDefEqProofs only[go_sem,seval,g5,g5b];have kp1: ∀(k:Nat) (rs:List (List V)) (f:Bool),k<x1->k≠k2->h1 k=some (.rows 1 rs f)->h3 k=h1 k:=fun k rs f p1 p2 p3=>SG k (by omega) p2 (Sx.offQ p3 (by decide))
     have pv3: ∀{v' l'},PvF h1 (fun j=>nx<=j/\j<x1) v' l'->PvF h3 (fun j=>nx<=j/\j<x3) v' l':=fun p=>(p.keepO fun k rs f p1 p2=>kp1 k rs f p1.2 (by omega) p2).imp fun j hj=>⟨hj.1,by omega⟩
     exact⟨by(try simp -dsimp -implicitDefEqProofs only[go_sem,seval]);(try omega),k3,by rw[kp1 kw _ _ (by omega) d4.symm q1];exact q1,by rw[kp1 kl _ _ (by omega) d5.symm q2];exact q2,by rw[kp1 kin _ _ (by omega) d3 A3];exact A3,(v:Int),_,_,vL3,R++[(la,vc,C)],rfl,k23,
      (by rw[prV,List.map_append];exact Hl.le (by(try simp -dsimp -implicitDefEqProofs only[go_sem,seval]);(try omega))),(fun r hr=>by
        rcases List.mem_append.1 hr with hr | hr
        ·exact(pv3 (TT r hr)).imp fun j hj=>⟨hj.1,by(try simp -dsimp -implicitDefEqProofs only[go_sem,seval]);(try omega)⟩
        ·rw[List.mem_singleton]at hr;subst hr
         exact(pv3 pvc1).imp fun j hj=>⟨hj.1,by(try simp -dsimp -implicitDefEqProofs only[go_sem,seval]);(try omega)⟩),(pv3 pvp).imp (fun j hj=>⟨hj.1,by(try simp -dsimp -implicitDefEqProofs only[go_sem,seval]);(try omega)⟩),(by simp;omega),
      .inr ⟨by omega,by omega,(by rw[prC,List.map_append];exact zMx L2)⟩⟩
 | cons a T=>
   have EM:h1 kin=some (.rows 1 [[.t (ints (nI (a::T)))]] false):=by rw[A3,hq]
   have t1:(nI (a::T))[0]? =some (a:Int):=rfl;have t2:(nI (a::T)).length=T.length+1:=by simp
   have t3:(((T.length+1:Nat):Int)>0)=True:=eq_true (by omega)
   have t4:(a:Int).fdiv (2^min low 64)=((a/ 2^low:Nat):Int):=by
    rw[Nat.min_eq_left (by omega),Int.fdiv_eq_ediv_of_nonneg _ (Int.le_of_lt (zcn _))]
    push_cast;rfl
   have t5:(((a/ 2^low:Nat):Int)=(v:Int))=False:=eq_false fun h=>Cf a T hq (by omega)
   by_cases Fz:v=0
   ·subst Fz;rcases Ae with⟨_,rfl,rfl,rfl⟩ | ⟨h,_⟩
    rotate_left
    ·omega
    have t6:(((a/ 2^low:Nat):Int)=0)=False:=t5;simp -dsimp -implicitDefEqProofs only[go_sem,seval,g10,EM,t1,t2,t3,l0,q2,t4,t5,t6,g5,g5b,L3,Q1];refine⟨E6,by simp -dsimp -implicitDefEqProofs only[go_sem,seval,hw],by simp -dsimp -implicitDefEqProofs only[go_sem,seval,g5],?_⟩;simp -dsimp -implicitDefEqProofs only[go_sem,seval,g5,g5b];exact⟨by(try simp -dsimp -implicitDefEqProofs only[go_sem,seval]);(try omega),SB,q1,q2,A3,0,_,_,vL,[],rfl,SC,Sx.le (by(try simp -dsimp -implicitDefEqProofs only[go_sem,seval]);(try omega)),(fun r hr=>by cases hr),pvp.imp (fun j hj=>⟨hj.1,by(try simp -dsimp -implicitDefEqProofs only[go_sem,seval]);(try omega)⟩),by simp,.inr ⟨by omega,by simp,zRl _⟩⟩
   ·have v0:((v:Int)>0)=True:=eq_true (by omega);have Fq:=zId (nI (zIa s low v)) C SU SZ;rcases Ae with⟨h,_⟩ | ⟨_,NC,L2⟩
    ·omega
    by_cases NZ:nI (zIa s low v)=C
    ·have S2:(nI (zIa s low v)=C)=True:=eq_true NZ;simp -dsimp -implicitDefEqProofs only[go_sem,seval,g10,EM,t1,t2,t3,l0,q2,t4,t5,g5,g5b,L3,Q1,v0,vcv,vcc,↓tvp,↓tvc,Fq,S2];refine⟨E6,by simp -dsimp -implicitDefEqProofs only[go_sem,seval,hw],by simp -dsimp -implicitDefEqProofs only[go_sem,seval,g5],?_⟩;simp -dsimp -implicitDefEqProofs only[go_sem,seval,g5,g5b];obtain⟨u,rfl⟩: ∃u,v=u+1:=⟨v-1,by omega⟩
     have Tm:la=(u:Int):=by omega
     subst Tm;exact⟨by(try simp -dsimp -implicitDefEqProofs only[go_sem,seval]);(try omega),SB,q1,q2,A3,((u+1:Nat):Int),_,C,vL,R,rfl,SC,Sx.le (by(try simp -dsimp -implicitDefEqProofs only[go_sem,seval]);(try omega)),fun r hr=>(TT r hr).imp (fun j hj=>⟨hj.1,by(try simp -dsimp -implicitDefEqProofs only[go_sem,seval]);(try omega)⟩),(NZ▸pvp).imp (fun j hj=>⟨hj.1,by(try simp -dsimp -implicitDefEqProofs only[go_sem,seval]);(try omega)⟩),by omega,.inr ⟨by omega,by omega,zLe L2 NZ.symm⟩⟩
    ·have S2:(nI (zIa s low v)=C)=False:=eq_false NZ;simp -dsimp -implicitDefEqProofs only[go_sem,seval,g10,EM,t1,t2,t3,l0,q2,t4,t5,g5,g5b,L3,Q1,v0,vcv,vcc,↓tvp,↓tvc,Fq,S2];refine zas (zKC SB e2 SC (Sx.le (by omega)) (by simp;omega) (by omega) (by omega) Fc.val) ?_;rintro r h3 x3 ⟨rfl,k3,⟨vL3,k23,Hl⟩,Ty,SG⟩;simp -dsimp -implicitDefEqProofs only[go_sem,seval,g10,g5,g5b,L3,Q1];refine⟨E6,by simp -dsimp -implicitDefEqProofs only[go_sem,seval,hw],by simp -dsimp -implicitDefEqProofs only[go_sem,seval,g5],?_⟩;simp -dsimp -implicitDefEqProofs only[go_sem,seval,g5,g5b];have kp1: ∀(k:Nat) (rs:List (List V)) (f:Bool),k<x1->k≠k2->h1 k=some (.rows 1 rs f)->h3 k=h1 k:=fun k rs f p1 p2 p3=>SG k (by omega) p2 (Sx.offQ p3 (by decide))
     have pv3: ∀{v' l'},PvF h1 (fun j=>nx<=j/\j<x1) v' l'->PvF h3 (fun j=>nx<=j/\j<x3) v' l':=fun p=>(p.keepO fun k rs f p1 p2=>kp1 k rs f p1.2 (by omega) p2).imp fun j hj=>⟨hj.1,by omega⟩
     exact⟨by(try simp -dsimp -implicitDefEqProofs only[go_sem,seval]);(try omega),k3,by rw[kp1 kw _ _ (by omega) d4.symm q1];exact q1,by rw[kp1 kl _ _ (by omega) d5.symm q2];exact q2,by rw[kp1 kin _ _ (by omega) d3 A3];exact A3,(v:Int),_,_,vL3,R++[(la,vc,C)],rfl,k23,
      (by rw[prV,List.map_append];exact Hl.le (by(try simp -dsimp -implicitDefEqProofs only[go_sem,seval]);(try omega))),(fun r hr=>by
        rcases List.mem_append.1 hr with hr | hr
        ·exact(pv3 (TT r hr)).imp fun j hj=>⟨hj.1,by(try simp -dsimp -implicitDefEqProofs only[go_sem,seval]);(try omega)⟩
        ·rw[List.mem_singleton]at hr;subst hr
         exact(pv3 pvc1).imp fun j hj=>⟨hj.1,by(try simp -dsimp -implicitDefEqProofs only[go_sem,seval]);(try omega)⟩),(pv3 pvp).imp (fun j hj=>⟨hj.1,by(try simp -dsimp -implicitDefEqProofs only[go_sem,seval]);(try omega)⟩),(by simp;omega),
      .inr ⟨by omega,by omega,(by rw[prC,List.map_append];exact zMx L2)⟩⟩
end Rg
end
section
namespace Rg
open Go
theorem zNG {env:Nat->V} {H:Nat->Option O} {ky k2 kw kin kl:Nat} {s:List Nat} {low w:Nat} {C:Ex->(Nat->Option O)->Nat->Prop} {wk:WK C} (hs:s.Pairwise (· < ·)) (Ad: ∀n∈s,n<2^(low+w)) (Tl:low+w<=12)
 (hk:H ky=some (.loop env [7] zHr .ready)) (e2:env 2= .mp k2 0 0) (h2:H k2=some (.rows 1 [[.t .nils]] false)) (hkw:H kw=some (.rows 1 [[vi w]] false)) (Aj:H kin=some (.rows 1 [[.t (ints (nI s))]] false)) (hkl:H kl=some (.rows 1 [[vi low]] false))
 (b2:k2<ky) (b3:kw<ky) (b4:kin<ky) (b5:kl<ky) (d1:kin≠kw) (d2:kin≠kl) (d3:kin≠k2) (d4:k2≠kw) (d5:k2≠kl)
 (hC: ∀h' n' vL R,h' k2=some (.rows 1 [[vL]] false)->zaF h' n' vL 2 (rwR (prV R))->(∀r∈R,PvF h' (fun j=>ky+1<=j/\j<n') r.2.1 r.2.2)->Rep (fun v=>nI (zIa s low v)) (prC R) (2^w)->zbg vL ky->C .normal (updC h' ky (some .dead)) n'):
 zBm (DenR Γ G 590 [.yl ky,.mp kw 0 0,.mp kin 0 0,.mp kl 0 0] H (ky+1)) ky C wk:=by
 obtain⟨r,h',n',q1,q2,q3,vL,R,q4,q5,q6,q7⟩:=zNC (nx:=ky+1) hs Ad Tl hk e2 h2 hkw Aj hkl (by omega) (by omega) (by omega) (by omega) (by omega) d1 d2 d3 d4 d5
 have OZ:zbg vL ky:=by
  rcases q5 with⟨rfl,_⟩ | ⟨q,rfl,_,hq⟩
  ·intro i n e;cases e
  ·exact za3 (by rintro rfl;rw[q3]at hq;cases hq) _ _
 refine znN (P:=fun e h n=>e= .normal/\h=h'/\n=n') ⟨r,h',n',q1,_,_,_,_,_,q3,rfl,rfl,rfl,rfl⟩ ?_;rintro _ _ _ ⟨rfl,rfl,rfl⟩;exact hC _ _ vL R q4 q5 q6 q7 OZ
theorem zKk {H:Nat->Option O} {nx kw kin kl:Nat} {s:List Nat} {low w:Nat} (hs:s.Pairwise (· < ·)) (Ad: ∀n∈s,n<2^(low+w)) (Tl:low+w<=12)
 (hkw:H kw=some (.rows 1 [[vi w]] false)) (Aj:H kin=some (.rows 1 [[.t (ints (nI s))]] false)) (hkl:H kl=some (.rows 1 [[vi low]] false)) (b3:kw<nx) (b4:kin<nx) (b5:kl<nx) (d1:kin≠kw) (d2:kin≠kl):
 ∃r h' n',DenR Γ G 589 [.t .nils,.fn 590 [] [.mp kw 0 0,.mp kin 0 0,.mp kl 0 0]] H nx=some (r,h',n')/\ ∃R,zaF h' n' r 2 (rwR (prV R))/\(∀r∈R,PvF h' (fun j=>j<n') r.2.1 r.2.2)/\Rep (fun v=>nI (zIa s low v)) (prC R) (2^w):=by
 (refine zay Γ589 rfl ?_;dsimp only[zPR])
 simp -dsimp -implicitDefEqProofs only[go_sem,seval]
 refine zNG (k2:=nx+0) hs Ad Tl (by rw[zaa,if_pos rfl]) (by simp -dsimp -implicitDefEqProofs only[go_sem,seval]) (by rw[zaa,if_neg (by omega),zaa,if_pos rfl]) (by rw[zaa,if_neg (by omega),zaa,if_neg (by omega)];exact hkw) (by rw[zaa,if_neg (by omega),zaa,if_neg (by omega)];exact Aj) (by rw[zaa,if_neg (by omega),zaa,if_neg (by omega)];exact hkl)
  (by omega) (by omega) (by omega) (by omega) d1 d2 (by omega) (by omega) (by omega) ?_
 intro h' n' vL R q1 q2 q3 q4 q5;have y1:=q2.valOf;have u1:(nx+0=nx+2+1)=False:=eq_false (by omega);have y2:=q2.resVal;simp only[Rg.resVal]at y2;simp -dsimp -implicitDefEqProofs only[go_sem,seval,q1,y1,u1,y2];refine⟨R,q2.keep (by simp -dsimp -implicitDefEqProofs only[go_sem,seval];omega) fun q z1 z2=> ?_,fun r hr=>((q3 r hr).keep fun j hj=> ?_).imp fun j hj=>by have:=hj.2;simp -dsimp -implicitDefEqProofs only[go_sem,seval];omega,q4⟩
 ·have:q≠nx+2+1:=by rintro rfl;exact z2 q5
  rw[zaa,if_neg this]
 ·rw[zaa,if_neg (by omega)]
def zNl (C:List (Int×List Int)):T:=.sl (C.map fun r=>[ti r.1,ints r.2])
theorem zNB {h:Nat->Option O} {x:Nat} {v:V} {R:List (Int×V×List Int)} (o:zaF h x v 2 (rwR (prV R))) (hR: ∀r∈R,PvF h (fun j=>j<x) r.2.1 r.2.2):Rg.toT1 h v=some (.t (zNl (prC R))):=by
 have key: ∀(R:List (Int×V×List Int)),(∀r∈R,PvF h (fun j=>j<x) r.2.1 r.2.2)->(rwR (prV R)).mapM (fun row=>row.mapM (toT h 999))=some ((prC R).map fun r=>[ti r.1,ints r.2]):=by
  intro R
  induction R with
  | nil=>intro _;rfl
  | cons r R ih=>
    intro hR;have e1:=(hR r (by simp)).toT 999 (by omega);have e2:Rg.toT h 999 (vi r.1)=some (ti r.1):=rfl;have:=ih fun q hq=>hR q (by simp[hq])
    rw[rwR,prV,List.map_map]at this⊢;simp only[List.map_cons,List.mapM_cons,Function.comp,e1,e2,zC,zD,List.mapM_nil,Option.pure_def]at this⊢;rw[this];rfl
 have hk:=key R hR;rcases o with⟨rfl,he⟩ | ⟨k,rfl,AF,hh⟩
 ·have:R=[]:=by simpa[rwR,prV]using he
  subst this;rfl
 ·simp only[Rg.toT1,Rg.toT,hh,rd];rw[if_pos (by omega),zC,zD,List.drop_zero,List.take_of_length_le (by omega)];rw[hk];rfl
end Rg
end
section
namespace Rg
open Go
theorem zMu (s:List Nat) (low w:Nat) (H:Nat->Option O) (nx:Nat):
 ∃r h' n',DenR Γ G 581 [.t (ints (nI s)),vi low,vi w] H nx=some (r,h',n')/\ ∃kw kin kl,r= .fn 590 [] [.mp kw 0 0,.mp kin 0 0,.mp kl 0 0]/\h' kw=some (.rows 1 [[vi w]] false)/\h' kin=some (.rows 1 [[.t (ints (nI s))]] false)/\h' kl=some (.rows 1 [[vi low]] false)/\kw<n'/\kin<n'/\kl<n'/\kin≠kw/\kin≠kl:=by
 (refine zay Γ581 rfl ?_;dsimp only[zPW])
 simp -dsimp -implicitDefEqProofs only[go_sem,seval];refine⟨nx+2,nx+0,nx+1,rfl,?_,?_,?_,by simp -dsimp -implicitDefEqProofs only[go_sem,seval];omega,by simp -dsimp -implicitDefEqProofs only[go_sem,seval];omega,by simp -dsimp -implicitDefEqProofs only[go_sem,seval];omega,by omega,by omega⟩
 ·simp[zaC,zaA,zaa]
 ·simp[zaC,zaA,zaa]
 ·simp[zaC,zaA,zaa]
theorem zNc {H:Nat->Option O} {nx kw kin kl:Nat} {s:List Nat} {low w:Nat} (hs:s.Pairwise (· < ·)) (Ad: ∀n∈s,n<2^(low+w)) (Tl:low+w<=12)
 (hkw:H kw=some (.rows 1 [[vi w]] false)) (Aj:H kin=some (.rows 1 [[.t (ints (nI s))]] false)) (hkl:H kl=some (.rows 1 [[vi low]] false)) (b3:kw<nx) (b4:kin<nx) (b5:kl<nx) (d1:kin≠kw) (d2:kin≠kl):
 ∃r h' n',DenR Γ G 580 [.fn 590 [] [.mp kw 0 0,.mp kin 0 0,.mp kl 0 0]] H nx=some (r,h',n')/\ ∃R,zaF h' n' r 2 (rwR (prV R))/\(∀r∈R,PvF h' (fun j=>j<n') r.2.1 r.2.2)/\Rep (fun v=>nI (zIa s low v)) (prC R) (2^w):=by
 (refine zay Γ580 rfl ?_;dsimp only[zPX])
 simp -dsimp -implicitDefEqProofs only[go_sem,seval];refine zas (zKk (H:=H) hs Ad Tl hkw Aj hkl (by omega) (by omega) (by omega) d1 d2) ?_;rintro r h' n' ⟨R,q1,q2,q3⟩;have y1:=q1.valOf;have y2:=q1.resVal;simp only[Rg.resVal]at y2;simp -dsimp -implicitDefEqProofs only[go_sem,seval,y1,y2];exact⟨R,q1.le (by(try simp -dsimp -implicitDefEqProofs only[go_sem,seval]);(try omega)),fun r hr=>(q2 r hr).imp fun j hj=>by(try simp -dsimp -implicitDefEqProofs only[go_sem,seval]);(try omega),q3⟩
theorem zLK (l ws:List Int) (c w:Int) (last:Int) (x:List Int) (e:Expr) (hl:l.length<=32) (Fy:ws.length=l.length) (hm:Den Γ G 547 [.t (ints l),.t (ints ws),.t (ints x)]=some (.agg [.t (ti (e).op),.t (ti (e).w),.t (ti (e).n),.t (.sl ((e).kids.map (Expr.enc)))])):
 Den Γ G 579 [.t (ints (l++[c])),.t (ints (ws++[w])),.t (zNl [(last,x)])]=some (.agg [.t (ti (e).op),.t (ti (e).w),.t (ti (e).n),.t (.sl ((e).kids.map (Expr.enc)))]):=by
 have e1:(l++[c]).length=l.length+1:=by simp
 have e2:IntKind.i64.wrap (((l.length+1:Nat):Int)-1)=(l.length:Int):=by rw[show((l.length+1:Nat):Int)-1=l.length by omega];exact zaH (by omega)
 have f1:(((l.length:Nat):Int)<=((l.length+1:Nat):Int))=True:=eq_true (by omega);have f2:((List.map (fun n=>[ti n]) (l++[c])).all fun x=>decide (x.length=1))=true:=by simp
 have f3:List.take ((l.length:Int)-0).toNat (List.map (fun n=>[ti n]) (l++[c]))=l.map fun n=>[ti n]:=by
  rw[show((l.length:Int)-0).toNat=l.length by omega,List.map_append,List.take_append_of_le_length (by simp),List.take_of_length_le (by simp)]
 have g1:(ws++[w]).length=l.length+1:=by simp[Fy]
 have g2:((List.map (fun n=>[ti n]) (ws++[w])).all fun x=>decide (x.length=1))=true:=by simp
 have g3:List.take ((l.length:Int)-0).toNat (List.map (fun n=>[ti n]) (ws++[w]))=ws.map fun n=>[ti n]:=by
  rw[show((l.length:Int)-0).toNat=l.length by omega,List.map_append,List.take_append_of_le_length (by simp[Fy]),List.take_of_length_le (by simp[Fy])]
 unfold zNl
 (refine zag Γ579 rfl ?_;dsimp only[zPF])
 have Fm:Den Γ G 547 [.t (.sl (l.map fun n=>[ti n])),.t (.sl (ws.map fun n=>[ti n])),.t (ints x)]=some (.agg [.t (ti (e).op),.t (ti (e).w),.t (ti (e).n),.t (.sl ((e).kids.map (Expr.enc)))]):=hm;simp -dsimp -implicitDefEqProofs only[go_sem,seval,e1,e2,f1,f2,f3,g1,g2,g3,Fm]
theorem zLJ (l ws:List Int) (c w:Int) (C:List (Int×List Int)) (h:Nat) (hh:h=(C.length+1)/ 2) (hC:2<=C.length) (V1:C.length<2^20) (x:Int×List Int) (hx:C[h-1]? =some x) (ea eb:Expr) (hl:l.length<=32) (Fy:ws.length=l.length)
 (ha:Den Γ G 579 [.t (ints (l++[c])),.t (ints (ws++[w])),.t (zNl (C.take h))]=some (.agg [.t (ti (ea).op),.t (ti (ea).w),.t (ti (ea).n),.t (.sl ((ea).kids.map (Expr.enc)))])) (hb:Den Γ G 579 [.t (ints (l++[c])),.t (ints (ws++[w])),.t (zNl (C.drop h))]=some (.agg [.t (ti (eb).op),.t (ti (eb).w),.t (ti (eb).n),.t (.sl ((eb).kids.map (Expr.enc)))])):
 Den Γ G 579 [.t (ints (l++[c])),.t (ints (ws++[w])),.t (zNl C)]=some (.agg [.t (ti (Expr.mk 14 1 0 [.mk 13 1 0 [.mk 2 w c [],.mk 1 w x.1 []],ea,eb]).op),.t (ti (Expr.mk 14 1 0 [.mk 13 1 0 [.mk 2 w c [],.mk 1 w x.1 []],ea,eb]).w),.t (ti (Expr.mk 14 1 0 [.mk 13 1 0 [.mk 2 w c [],.mk 1 w x.1 []],ea,eb]).n),.t (.sl ((Expr.mk 14 1 0 [.mk 13 1 0 [.mk 2 w c [],.mk 1 w x.1 []],ea,eb]).kids.map (Expr.enc)))]):=by
 have e1:(l++[c]).length=l.length+1:=by simp
 have g1:(ws++[w]).length=l.length+1:=by simp[Fy]
 have e2:IntKind.i64.wrap (((l.length+1:Nat):Int)-1)=(l.length:Int):=by rw[show((l.length+1:Nat):Int)-1=l.length by omega];exact zaH (by omega)
 have n0:(C.map fun r=>[ti r.1,ints r.2]).length=C.length:=by simp
 have n1:((C.length:Int)=1)=False:=eq_false (by omega);have n2:IntKind.i64.wrap ((C.length:Int)+1)=((C.length+1:Nat):Int):=zan _ (by omega);have n3:((C.length+1:Nat):Int).tdiv 2=(h:Int):=by rw[Int.tdiv_eq_ediv_of_nonneg (by omega)];omega
 have n4:IntKind.i64.wrap (h:Int)=(h:Int):=zaH (by omega);have n5:IntKind.i64.wrap ((h:Int)-1)=((h-1:Nat):Int):=by rw[show(h:Int)-1=((h-1:Nat):Int)by omega];exact zaH (by omega)
 have c1:(l++[c])[l.length]? =some c:=by simp
 have c2:(ws++[w])[l.length]? =some w:=by rw[<- Fy];simp
 have c3:(C.map fun r=>[ti r.1,ints r.2])[h-1]? =some [ti x.1,ints x.2]:=by rw[zJ,hx];rfl
 have p1:((h:Int)<=(C.length:Int))=True:=eq_true (by omega);have p2:((C.map fun r=>[ti r.1,ints r.2]).all fun x=>decide (x.length=2))=true:=by simp
 have p5:((C.length:Int)<=(C.length:Int))=True:=eq_true (Int.le_refl _);have p3:List.take ((h:Int)-0).toNat (C.map fun r=>[ti r.1,ints r.2])=(C.take h).map fun r=>[ti r.1,ints r.2]:=by rw[show((h:Int)-0).toNat=h by omega,List.map_take]
 have p4:List.take ((C.length:Int)-h).toNat (List.drop h (C.map fun r=>[ti r.1,ints r.2]))=(C.drop h).map fun r=>[ti r.1,ints r.2]:=by rw[List.take_of_length_le (by simp),List.map_drop]
 unfold zNl at *
 (refine zag Γ579 rfl ?_;dsimp only[zPF])
 simp -dsimp -implicitDefEqProofs only[go_sem,seval,e1,e2,g1,n0,n1,n2,n3,n4,n5,c1,c2,c3,p1,p2,p3,p4,p5,ha,hb]
 (try rfl)
theorem zJ4 (l ws:List Int) (hw: ∀n∈ws,0<=n/\n<=8) (hl:ws.length<=32):Den Γ G 547 [.t (ints l),.t (ints ws),.t (ints (nI []))]=some (.agg [.t (ti (Expr.mk 1 1 0 []).op),.t (ti (Expr.mk 1 1 0 []).w),.t (ti (Expr.mk 1 1 0 []).n),.t (.sl ((Expr.mk 1 1 0 []).kids.map (Expr.enc)))]):=by
 have a1:=zG3 ws hw (by omega)
 (refine zag Γ547 rfl ?_;dsimp only[zPc])
 simp -dsimp -implicitDefEqProofs only[go_sem,seval,a1]
 (try rfl)
theorem zJ3 (l ws:List Int) (hw: ∀n∈ws,0<=n/\n<=8) (hl:ws.length<=32) (b:Nat) (hb:zGp ws=b) (S5:b<=12) (s:List Nat) (hs:s.length=2^b):Den Γ G 547 [.t (ints l),.t (ints ws),.t (ints (nI s))]=some (.agg [.t (ti (Expr.mk 1 1 1 []).op),.t (ti (Expr.mk 1 1 1 []).w),.t (ti (Expr.mk 1 1 1 []).n),.t (.sl ((Expr.mk 1 1 1 []).kids.map (Expr.enc)))]):=by
 have a1:=zG3 ws hw (by omega);rw[hb]at a1;have hp:=Nat.two_pow_pos b;have S1:(2:Nat)^b<=2^12:=Nat.pow_le_pow_right (by omega) S5;have n0:(nI s).length=2^b:=by simp[hs]
 have n1:(((2^b:Nat):Int)=0)=False:=eq_false (by omega);have w0:((b:Int)<0)=False:=eq_false (by omega)
 have n2:IntKind.i64.wrap (1*2^min b 64)=((2^b:Nat):Int):=by
  have h4:(1*2^min b 64:Int)=((2^b:Nat):Int):=by
   rw[Nat.min_eq_left (by omega)];push_cast;omega
  rw[h4]
  generalize(2:Nat)^b=q at S1⊢
  exact zaH (by omega)
 (refine zag Γ547 rfl ?_;dsimp only[zPc])
 simp -dsimp -implicitDefEqProofs only[go_sem,seval,a1,n0,n1,w0,n2]
 (try rfl)
section
variable {Γ:Nat->Option F} {G:Nat->List T}
theorem zJx {g:Nat} {args:List V} {fn:F} {R:V->Prop} (hg:Γ g=some fn) (hr:fn.raw=false)
 (h:wC Γ G fn.body (qOf Γ G [] (FiR fn.results fun v hp _=> ∃r,reify hp v=some r/\R r)) ⟨slotsC args 0,fun _=>false,fun _=>none,0,0⟩ ⟨0⟩): ∃r,Den Γ G g args=some r/\R r:=by
 unfold wC at h;rw[zbS,zcz,ziG]at h;obtain⟨e,m',hB,he,v,hv,r,Dz,hR⟩:=zq7 h;refine⟨r,zhC.2 (zBZ hg hr ?_),hR⟩;rw[zsv];exact⟨e,m',hB,he,v,hv,Dz⟩
end
abbrev eV (e:Expr):V:=(.agg [.t (ti (e).op),.t (ti (e).w),.t (ti (e).n),.t (.sl ((e).kids.map (Expr.enc)))])
theorem zMI (l ws:List Int) (c:Int) (w low:Nat) (hw: ∀n∈ws++[(w:Int)],0<=n/\n<=8) (hl:ws.length=l.length) (C7:l.length<32) (hb:zGp ws=low) (S5:low+w<=12) (s:List Nat) (h0:s≠[]) (hs: ¬s.length=2^(low+w)) (hp:s.Pairwise (· < ·)) (Ad: ∀n∈s,n<2^(low+w)) (P:Expr->Prop)
 (hT: ∀C,Rep (fun v=>nI (zIa s low v)) C (2^w)-> ∃e,Den Γ G 579 [.t (ints (l++[c])),.t (ints (ws++[(w:Int)])),.t (zNl C)]=some (eV e)/\P e):
 ∃r,Den Γ G 547 [.t (ints (l++[c])),.t (ints (ws++[(w:Int)])),.t (ints (nI s))]=some r/\ ∃e,r=eV e/\P e:=by
 have a1:=zG3 (ws++[(w:Int)]) hw (by simp;omega);rw[zGM,hb,show(low:Int)+(w:Int)=((low+w:Nat):Int)by simp]at a1;have S1:(2:Nat)^(low+w)<=2^12:=Nat.pow_le_pow_right (by omega) S5;have n0:(nI s).length=s.length:=by simp
 have n1:((s.length:Int)=0)=False:=eq_false (by have:s.length≠0:=fun h=>h0 (List.eq_nil_of_length_eq_zero h);omega);have w0:(((low+w:Nat):Int)<0)=False:=eq_false (by omega)
 have n2:IntKind.i64.wrap (1*2^min (low+w) 64)=((2^(low+w):Nat):Int):=by
  have h4:(1*2^min (low+w) 64:Int)=((2^(low+w):Nat):Int):=by
   rw[Nat.min_eq_left (by omega)];push_cast;omega
  rw[h4]
  generalize(2:Nat)^(low+w)=q at S1⊢
  exact zaH (by omega)
 have n3:((s.length:Int)=((2^(low+w):Nat):Int))=False:=eq_false (by omega);have e1:(l++[c]).length=l.length+1:=by simp
 have e2:IntKind.i64.wrap (((l.length+1:Nat):Int)-1)=(l.length:Int):=by rw[show((l.length+1:Nat):Int)-1=l.length by omega];exact zaH (by omega)
 have c2:(ws++[(w:Int)])[l.length]? =some (w:Int):=by rw[<- hl];simp
 have e3:IntKind.i64.wrap (((low+w:Nat):Int)-(w:Int))=(low:Int):=by rw[show((low+w:Nat):Int)-(w:Int)=low by omega];exact zaH (by omega)
 refine zJx Γ547 rfl ?_;dsimp only[zPc];simp -dsimp -implicitDefEqProofs only[go_sem,seval,a1,n0,n1,w0,n2,n3,e1,e2,c2,e3];refine zas (zMu s low w _ _) ?_;rintro r1 h1 x1 ⟨kw,kin,kl,rfl,q1,q2,q3,q4,q5,q6,q7,q8⟩;simp -dsimp -implicitDefEqProofs only[go_sem,seval];refine zas (zNc hp Ad S5 q1 q2 q3 (by omega) (by omega) (by omega) q7 q8) ?_;rintro r2 h2 x2 ⟨R,o1,o2,o3⟩;obtain⟨e,he,hP⟩:=hT (prC R) o3;have y1:=o1.valOf;have t1:=zNB o1 o2;simp -dsimp -implicitDefEqProofs only[go_sem,seval,y1]
 refine zas (P:=fun r _ _=>r=eV e) ⟨_,_,_,zKi he (by
  have u1:toT1 h2 (.t (ints (l++[c])))=some (.t (ints (l++[c]))):=rfl;have u2:toT1 h2 (.t (ints (ws++[(w:Int)])))=some (.t (ints (ws++[(w:Int)]))):=rfl
  simp only[List.mapM_cons,List.mapM_nil,t1,u1,u2,zC,zD,Option.pure_def]),rfl⟩ ?_
 rintro r h3 x3 rfl;unfold eV;simp -dsimp -implicitDefEqProofs only[go_sem,seval];exact⟨_,rfl,e,rfl,hP⟩
end Rg
end
section
namespace Rg
open Go
structure Des (p:Prog) (l:List Int) (D:Nat) (T F:List Int->Prop) (e:Expr):Prop where
 w:e.w=1
 deep:e.deep D=true
 ok:e.allE (fun x=>zb3 p.cells false x&&(!decide (x.op=2)||l.contains x.n)&& !decide (x.op=3))=true
 one: ∀m,T m->e.ev m m=1
 zero: ∀m,F m->e.ev m m=0
theorem zNj {f g:Expr->Bool} (h: ∀x,f x=true->g x=true): ∀e:Expr,e.allE f=true->e.allE g=true:=by
 intro e
 induction e using Expr.ind with
 | _ e ih=>
 intro he;rw[Expr.allE_eq,zF,zN]at he⊢;exact⟨h e he.1,fun k hk=>ih k hk (he.2 k hk)⟩
theorem Des.mono {p:Prog} {l l':List Int} {D D':Nat} {T F T' F':List Int->Prop} {e:Expr} (d:Des p l D T F e) (hD:D<=D') (hl: ∀c∈l,c∈l') (hT: ∀m,T' m->T m) (hF: ∀m,F' m->F m):Des p l' D' T' F' e:=
 ⟨d.w,zHq hD d.deep,zNj (fun x hx=>by
   simp only[zF,Bool.or_eq_true,Bool.not_eq_true',decide_eq_false_iff_not,List.contains_iff_mem]at hx⊢
   exact⟨⟨hx.1.1,hx.1.2.imp id (hl _)⟩,hx.2⟩) e d.ok,fun m h=>d.one m (hT m h),fun m h=>d.zero m (hF m h)⟩
theorem Des.const0 (p:Prog) (l:List Int) (D:Nat) (hD:1<=D):Des p l D (fun _=>False) (fun _=>True) (.mk 1 1 0 []):=
 ⟨rfl,zHq hD (by decide+kernel),rfl,fun _ h=>h.elim,fun _ _=>by rw[Expr.ev_eq];rfl⟩
theorem Des.const1 (p:Prog) (l:List Int) (D:Nat) (hD:1<=D):Des p l D (fun _=>True) (fun _=>False) (.mk 1 1 1 []):=
 ⟨rfl,zHq hD (by decide+kernel),rfl,fun _ _=>by rw[Expr.ev_eq];rfl,fun _ h=>h.elim⟩
def CL (p:Prog) (l:List Int):Prop:= ∀c∈l,0<=c/\c<32/\ ∃x,p.cells[c.toNat]? =some x/\1<=x.w/\x.w<=8
theorem CL.w {p:Prog} {l:List Int} (h:CL p l) {c:Int} (hc:c∈l):1<=wOf p c/\wOf p c<=8/\ ∃x,p.cells[c.toNat]? =some x/\x.w=(wOf p c:Int):=by
 obtain⟨_,_,x,h1,h2,h3⟩:=h c hc;have e:wOf p c=x.w.toNat:=by rw[wOf,h1]
 exact⟨by omega,by omega,x,h1,by omega⟩
theorem zQ7 (w x y z:Int):opv 14 w x y z=if x=1 then y else z:=by simp[opv]
theorem zQ8 (w x y z:Int):opv 13 w x y z=if x<=y then 1 else 0:=by simp[opv]
theorem Des.ite {p:Prog} {l:List Int} {c last:Int} (h:CL p l) (hc:c∈l) (h0:0<=last) (h1:last<2^wOf p c) {D:Nat} (hD:2<=D) {Ta Fa Tb Fb:List Int->Prop} {a b:Expr} (da:Des p l D Ta Fa a) (db:Des p l D Tb Fb b):
 Des p l (D+1) (fun m=>if atI m c % 2^wOf p c<=last then Ta m else Tb m) (fun m=>if atI m c % 2^wOf p c<=last then Fa m else Fb m) (.mk 14 1 0 [.mk 13 1 0 [.mk 2 (wOf p c) c [],.mk 1 (wOf p c) last []],a,b]):=by
 obtain⟨w1,w8,x,hx,UN⟩:=h.w hc;obtain⟨c0,c32,_⟩:=h c hc
 have n2:zbk (.mk 2 (wOf p c) c [])=true:=by
  unfold zbk;refine(if_neg (show ¬(zcO 2≠((0:Nat):Int)\/(wOf p c:Int)<1\/(wOf p c:Int)>8)by rw[show zcO 2=0 from rfl];omega)).trans ((if_neg (show ¬(2:Int)=1 by decide)).trans ((if_pos (show(2:Int)=2\/(2:Int)=3 from .inl rfl)).trans (decide_eq_true (show 0<=c/\c<32 from⟨c0,c32⟩))))
 have n1:zbk (.mk 1 (wOf p c) last [])=true:=by
  unfold zbk;refine(if_neg (show ¬(zcO 1≠((0:Nat):Int)\/(wOf p c:Int)<1\/(wOf p c:Int)>8)by rw[show zcO 1=0 from rfl];omega)).trans ((if_pos (show(1:Int)=1 from rfl)).trans (decide_eq_true (show 0<=last/\last<2^((wOf p c:Nat):Int).toNat from⟨h0,by rw[Int.toNat_natCast];exact h1⟩)))
 have hd:(Expr.mk 13 1 0 [.mk 2 (wOf p c) c [],.mk 1 (wOf p c) last []]).deep 2=true:=by
  show(zbk _&&((zbk (.mk 2 (wOf p c) c [])&&true)&&((zbk (.mk 1 (wOf p c) last [])&&true)&&true)))=true;rw[n1,n2];simp[zbk,Expr.op_mk,Expr.w_mk,Expr.n_mk,Expr.kids_mk,Expr.kw,zcO]
 have ev2: ∀m,(Expr.mk 13 1 0 [.mk 2 (wOf p c) c [],.mk 1 (wOf p c) last []]).ev m m=if atI m c % 2^wOf p c<=last then 1 else 0:=fun m=>by
  have k1:(Expr.mk 2 (wOf p c) c []).ev m m=atI m c % 2^wOf p c:=by
   rw[Expr.ev_eq,if_neg (by simp[Expr.op_mk]),if_pos (show(Expr.mk 2 (wOf p c) c []).op=2 from rfl)];simp[Expr.n_mk,Expr.w_mk]
  have k2:(Expr.mk 1 (wOf p c) last []).ev m m=last:=by
   rw[Expr.ev_eq,if_pos (show(Expr.mk 1 (wOf p c) last []).op=1 from rfl)];rfl
  rw[Expr.ev_eq,if_neg (by simp[Expr.op_mk]),if_neg (by simp[Expr.op_mk]),if_neg (by simp[Expr.op_mk])];show opv 13 1 ((Expr.mk 2 (wOf p c) c []).ev m m) ((Expr.mk 1 (wOf p c) last []).ev m m) _=_;rw[zQ8,k1,k2]
 have ev3: ∀m,(Expr.mk 14 1 0 [.mk 13 1 0 [.mk 2 (wOf p c) c [],.mk 1 (wOf p c) last []],a,b]).ev m m=if atI m c % 2^wOf p c<=last then a.ev m m else b.ev m m:=fun m=>by
  have e1:=ev2 m
  generalize Expr.mk 13 1 0 [.mk 2 (wOf p c) c [],.mk 1 (wOf p c) last []]=t at e1
  rw[Expr.ev_eq,if_neg (by simp[Expr.op_mk]),if_neg (by simp[Expr.op_mk]),if_neg (by simp[Expr.op_mk])];show opv 14 1 (t.ev m m) (a.ev m m) (b.ev m m)=_;rw[zQ7,e1];split<;>rfl
 refine⟨rfl,?_,?_,fun m hm=> ?_,fun m hm=> ?_⟩
 ·show(zbk _&&List.all _ (Expr.deep D))=true;rw[zF];refine⟨?_,?_⟩
  ·simp[zbk,Expr.op_mk,Expr.w_mk,Expr.n_mk,Expr.kids_mk,Expr.kw,zcO,da.w,db.w]
  ·simp only[Expr.kids_mk,List.all_cons,List.all_nil,Bool.and_true,zF];exact⟨zHq hD hd,da.deep,db.deep⟩
 ·rw[Expr.allE_eq];simp only[Expr.kids_mk,List.all_cons,List.all_nil,Bool.and_true,zF];refine⟨⟨⟨?_,?_⟩,?_⟩,?_,da.ok,db.ok⟩
  ·simp[zb3,Expr.op_mk]
  ·simp[Expr.op_mk]
  ·simp[Expr.op_mk]
  ·rw[Expr.allE_eq];simp only[Expr.kids_mk,List.all_cons,List.all_nil,Bool.and_true,zF,Expr.allE_eq _ (.mk 2 (wOf p c) c []),Expr.allE_eq _ (.mk 1 (wOf p c) last [])];simp[zb3,Expr.op_mk,Expr.n_mk,Expr.w_mk,hx,UN,hc]
 ·rw[ev3];split<;>rename_i hq
  ·rw[if_pos hq]at hm;exact da.one m hm
  ·rw[if_neg hq]at hm;exact db.one m hm
 ·rw[ev3];split<;>rename_i hq
  ·rw[if_pos hq]at hm;exact da.zero m hm
  ·rw[if_neg hq]at hm;exact db.zero m hm
structure RnC (b w:Nat) (C:List (Int×List Int)):Prop where
 inc:C.Pairwise fun a b=>a.1<b.1
 lt: ∀r∈C,0<=r.1/\r.1<2^w
 el: ∀r∈C,∃s:List Nat,r.2=nI s/\s.Pairwise (· < ·)/\ ∀n∈s,n<2^b
theorem RnC.sub {b w:Nat} {C D:List (Int×List Int)} (h:RnC b w C) (hs:D.Sublist C):RnC b w D:=
 ⟨h.inc.sublist hs,fun r hr=>h.lt r (hs.subset hr),fun r hr=>h.el r (hs.subset hr)⟩
def TC (p:Prog) (l:List Int) (c:Int) (C:List (Int×List Int)) (m:List Int):Prop:= ∃r,C.find? (fun r=>decide (atI m c % 2^wOf p c<=r.1))=some r/\zGE p m l∈r.2
def FC (p:Prog) (l:List Int) (c:Int) (C:List (Int×List Int)) (m:List Int):Prop:= ∃r,C.find? (fun r=>decide (atI m c % 2^wOf p c<=r.1))=some r/\zGE p m l∉ r.2
theorem zQ3 {p:Prog} {l:List Int} {c:Int} (By:CL p (l++[c])) (hl:l.length<32)
 (ih: ∀s:List Nat,s.Pairwise (· < ·)->(∀n∈s,n<2^zcD p l)-> ∃e,Den Γ G 547 [.t (ints l),.t (ints (wsM p l)),.t (ints (nI s))]=some (eV e)/\Des p l (zcD p l+2) (fun m=>zGE p m l∈nI s) (fun m=>zGE p m l∉ nI s) e):
 ∀(n:Nat) (C:List (Int×List Int)),n<=12->C≠[]->C.length<=2^n->RnC (zcD p l) (wOf p c) C-> ∃e,Den Γ G 579 [.t (ints (l++[c])),.t (ints (wsM p l++[(wOf p c:Int)])),.t (zNl C)]=some (eV e)/\
  Des p (l++[c]) (n+(zcD p l+2)) (TC p l c C) (FC p l c C) e:=by
 have Er:(wsM p l).length=l.length:=by simp[wsM]
 have one: ∀r:Int×List Int,RnC (zcD p l) (wOf p c) [r]-> ∀n,∃e,Den Γ G 579 [.t (ints (l++[c])),.t (ints (wsM p l++[(wOf p c:Int)])),.t (zNl [r])]=some (eV e)/\Des p (l++[c]) (n+(zcD p l+2)) (TC p l c [r]) (FC p l c [r]) e:=by
  intro r hr n;obtain⟨s,h1,h2,h3⟩:=hr.el r (by simp);obtain⟨e,he,hd⟩:=ih s h2 h3;refine⟨e,zLK l (wsM p l) c (wOf p c) r.1 r.2 e (by omega) Er (by rw[h1];exact he),hd.mono (by omega) (fun c hc=>by simp[hc]) (fun m hm=> ?_) (fun m hm=> ?_)⟩
  ·obtain⟨q,hq,hm⟩:=hm;have:=List.mem_of_find?_eq_some hq;simp at this;subst this;rw[<- h1];exact hm
  ·obtain⟨q,hq,hm⟩:=hm;have:=List.mem_of_find?_eq_some hq;simp at this;subst this;rw[<- h1];exact hm
 intro n
 induction n with
 | zero=>
   intro C _ h0 Ac hR
   match C,h0,Ac,hR with
   | [r],_,_,hR=>exact one r hR 0
   | _::_::_,_,Ac,_=>simp at Ac
 | succ n ihn=>
   intro C hn h0 Ac hR
   match hC:C,h0,Ac,hR with
   | [r],_,_,hR=>exact one r hR (n+1)
   | a::b::C',_,Ac,hR=>
     have hp:(2:Nat)^(n+1)=2*2^n:=by rw[Nat.pow_succ];omega
     have S1:(2:Nat)^(n+1)<=2^12:=Nat.pow_le_pow_right (by omega) hn;rw[<- hC]at Ac hR⊢;have h2:2<=C.length:=by rw[hC];simp
     generalize hh:(C.length+1)/ 2=h
     have DC:1<=h/\h<C.length:=by omega
     obtain⟨x,hx,C1⟩:=zai (show h-1<C.length by omega);obtain⟨ea,ha,da⟩:=ihn (C.take h) (by omega) (fun e=>by have:=congrArg List.length e;rw[List.length_take,List.length_nil]at this;omega) (by rw[List.length_take];omega) (hR.sub (List.take_sublist _ _));obtain⟨eb,hb,db⟩:=ihn (C.drop h) (by omega) (fun e=>by have:=congrArg List.length e;rw[List.length_drop,List.length_nil]at this;omega) (by rw[List.length_drop];omega) (hR.sub (List.drop_sublist _ _));have Iq:=hR.lt x C1;have hi:=Des.ite By (c:=c) (by simp) Iq.1 Iq.2 (by omega) da db
     have PB:x∈C.take h:=by
      refine zL (i:=h-1) ?_;rw[zO,if_pos (by omega)];exact hx
     have Ad: ∀r∈C.take h,r.1<=x.1:=fun r hr=>by
      obtain⟨i,hi,rfl⟩:=List.getElem_of_mem hr;rw[List.length_take]at hi;rw[List.getElem_take];have e2:=(zH.1 hx).2
      by_cases hq:i=h-1
      ·subst hq;rw[e2];exact Int.le_refl _
      ·have:=(List.pairwise_iff_getElem.1 hR.inc) i (h-1) (by omega) (by omega) (by omega);rw[e2]at this;omega
     have hf: ∀v:Int,C.find? (fun r=>decide (v<=r.1))=if v<=x.1 then(C.take h).find? (fun r=>decide (v<=r.1))else(C.drop h).find? (fun r=>decide (v<=r.1)):=fun v=>by
      rw[<- List.take_append_drop h C,List.find?_append,List.take_append_drop];split
      ·rename_i hv
       cases hq:(C.take h).find? (fun r=>decide (v<=r.1))with
       | some r=>rfl
       | none=>exact absurd (List.find?_eq_none.1 hq x PB) (by simp[hv])
      ·rename_i hv;rw[List.find?_eq_none.2 (fun r hr=>by have:=Ad r hr;simp;omega),Option.none_or]
     refine⟨_,zLJ l (wsM p l) c (wOf p c) C h hh.symm h2 (by omega) x hx ea eb (by omega) Er ha hb,hi.mono (by omega) (fun _ h=>h) (fun m hm=> ?_) (fun m hm=> ?_)⟩
     ·obtain⟨r,h1,h2⟩:=hm;rw[hf]at h1;show if _ then _ else _
      split<;>rename_i hq
      ·rw[if_pos hq]at h1;exact⟨r,h1,h2⟩
      ·rw[if_neg hq]at h1;exact⟨r,h1,h2⟩
     ·obtain⟨r,h1,h2⟩:=hm;rw[hf]at h1;show if _ then _ else _
      split<;>rename_i hq
      ·rw[if_pos hq]at h1;exact⟨r,h1,h2⟩
      ·rw[if_neg hq]at h1;exact⟨r,h1,h2⟩
theorem Rep.at {part:Nat->List Int} {C:List (Int×List Int)} {v:Nat} (R:Rep part C v) {r:Int×List Int} (hr:r∈C):r.2=part r.1.toNat:=by
 have hl:=R.lt r hr;obtain⟨q,h1,h2⟩:=R.find r.1.toNat (by omega);have hq:=List.find?_some h1;simp only[decide_eq_true_eq]at hq;have PZ:=List.mem_of_find?_eq_some h1
 have:q=r:=by
  obtain⟨A,B,M9,hA⟩:=List.find?_eq_some_iff_append.1 h1 |>.2;rw[M9]at hr;rcases List.mem_append.1 hr with h | h
  ·have:=hA r h;simp at this;omega
  ·rcases List.mem_cons.1 h with h | h
   ·exact h.symm
   ·have hi:=R.inc;rw[M9]at hi;have:=(List.pairwise_cons.1 (List.pairwise_append.1 hi).2.1).1 r h;omega
 rw[<- h2,this]
theorem Rep.len {part:Nat->List Int} {C:List (Int×List Int)} {v:Nat} (R:Rep part C v):C.length<=v:=by
 have:=zgX v (C.map fun r=>r.1) (List.pairwise_map.2 (R.inc.imp fun h=>by omega)) (fun k hk=>by
  obtain⟨r,hr,rfl⟩:=List.mem_map.1 hk
  exact R.lt r hr)
 rwa[List.length_map]at this
theorem zOi {s:List Nat} (hp:s.Pairwise (· < ·)) {low:Nat} (v:Nat):(zIa s low v).Pairwise (· < ·)/\ ∀n∈zIa s low v,n<2^low:=by
 have Nt:=Nat.two_pow_pos low;refine⟨?_,fun n hn=> ?_⟩
 ·unfold zIa zKc;rw[List.pairwise_map];refine List.Pairwise.imp_of_mem ?_ (List.Pairwise.filter _ hp);intro a b ha hb Ca;have h1:=(List.mem_filter.1 ha).2;have h2:=(List.mem_filter.1 hb).2;simp only[decide_eq_true_eq]at h1 h2;have e1:=Nat.div_add_mod a (2^low);have e2:=Nat.div_add_mod b (2^low);rw[h1]at e1;rw[h2]at e2;omega
 ·obtain⟨m,_,rfl⟩:=List.mem_map.1 hn;exact Nat.mod_lt _ Nt
theorem zOM {s:List Nat} {low n v:Nat} (hn:n<2^low):n∈zIa s low v<->n+2^low*v∈s:=by
 have Nt:=Nat.two_pow_pos low;unfold zIa zKc;rw[List.mem_map];constructor
 ·rintro⟨m,hm,rfl⟩;obtain⟨h1,h2⟩:=List.mem_filter.1 hm;simp only[decide_eq_true_eq]at h2;have:=Nat.div_add_mod m (2^low);rw[h2]at this;rwa[show m % 2^low+2^low*v=m by omega]
 ·intro h;refine⟨_,List.mem_filter.2 ⟨h,?_⟩,?_⟩
  ·rw[Nat.add_mul_div_left _ _ Nt,Nat.div_eq_of_lt hn];simp
  ·rw[Nat.add_mul_mod_self_left,Nat.mod_eq_of_lt hn]
theorem zNX {s:List Nat} {N:Nat} (hp:s.Pairwise (· < ·)) (Ad: ∀n∈s,n<N) (hl:s.length=N) {x:Nat} (hx:x<N):x∈s:=by
 rcases Classical.em (x∈s)with h | h
 ·exact h
 ·have:=zgX N ((x::s).map fun n:Nat=>(n:Int)) (List.pairwise_map.2 (List.pairwise_cons.2 ⟨fun y hy e=>h (by rw[show x=y by omega];exact hy),hp.imp fun h=>by omega⟩)) (fun k hk=>by
   obtain⟨n,hn,rfl⟩:=List.mem_map.1 hk;rcases List.mem_cons.1 hn with rfl | hn
   ·omega
   ·have:=Ad n hn;omega)
  rw[List.length_map,List.length_cons]at this;omega
theorem zRt {p:Prog}: ∀(k:Nat) (l:List Int),l.length=k->CL p l->zcD p l<=12->l.length<=32-> ∀s:List Nat,s.Pairwise (· < ·)->(∀n∈s,n<2^zcD p l)->
 ∃e,Den Γ G 547 [.t (ints l),.t (ints (wsM p l)),.t (ints (nI s))]=some (eV e)/\Des p l (zcD p l+2) (fun m=>zGE p m l∈nI s) (fun m=>zGE p m l∉ nI s) e:=by
 intro k
 induction k with
 | zero=>
   intro l hk _ _ _ s hp Ad;obtain rfl:l=[]:=List.eq_nil_of_length_eq_zero hk
   by_cases h0:s=[]
   ·subst h0;exact⟨_,zJ4 [] [] (by simp) (by simp),(Des.const0 p [] _ (by omega)).mono (Nat.le_refl _) (fun _ h=>h) (fun m h=>by simp at h) (fun _ _=>trivial)⟩
   ·have h1:s=[0]:=by
     cases s with
     | nil=>exact absurd rfl h0
     | cons a r=>
       have ha:=Ad a (by simp);simp[zcD]at ha;subst ha
       cases r with
       | nil=>rfl
       | cons b r=>
         have hb:=Ad b (by simp);simp[zcD]at hb;have:=(List.pairwise_cons.1 hp).1 b (by simp);omega
    subst h1
    exact⟨_,zJ3 [] [] (by simp) (by simp) 0 rfl (by omega) [0] rfl,(Des.const1 p [] _ (by omega)).mono (Nat.le_refl _) (fun _ h=>h) (fun _ _=>trivial) (fun m h=>h (by simp[zGE]))⟩
 | succ k ih=>
   intro l hk By hb hl s hp Ad
   have Er: ∀l:List Int,CL p l-> ∀n∈wsM p l,0<=n/\n<=8:=fun l h n hn=>by
    obtain⟨c,hc,rfl⟩:=List.mem_map.1 hn;have:=h.w hc;omega
   by_cases h0:s=[]
   ·subst h0;exact⟨_,zJ4 l _ (Er l By) (by simp[wsM];omega),(Des.const0 p l _ (by omega)).mono (Nat.le_refl _) (fun _ h=>h) (fun m h=>by simp at h) (fun _ _=>trivial)⟩
   by_cases h1:s.length=2^zcD p l
   ·exact⟨_,zJ3 l _ (Er l By) (by simp[wsM];omega) (zcD p l) (zHb p l) hb s h1,(Des.const1 p l _ (by omega)).mono (Nat.le_refl _) (fun _ h=>h) (fun _ _=>trivial) (fun m h=>h (by
     obtain⟨q1,q2⟩:=zHm (p:=p) (mem:=m) l;rw[<- q1]
     exact List.mem_map.2 ⟨_,zNX hp Ad h1 q2,rfl⟩))⟩
   obtain⟨l',c,rfl⟩: ∃l' c,l=l'++ [c]:=by
    rcases List.eq_nil_or_concat l with h | ⟨L,b,h⟩
    ·subst h;simp at hk
    ·exact⟨L,b,by rw[h];simp⟩
   have Ah:l'.length=k:=by simpa using hk
   have Oe:CL p l':=fun d hd=>By d (by simp[hd])
   have Ay:=zhF p l' c;rw[Ay]at hb Ad h1;rw[zM,List.length_singleton]at hl;have Fy:wsM p (l'++ [c])=wsM p l'++ [(wOf p c:Int)]:=by simp[wsM]
   have ihl:=ih l' Ah Oe (by omega) (by omega);have Cj:=(By.w (c:=c) (by simp))
   rw[Fy]
   have:=zMI l' (wsM p l') c (wOf p c) (zcD p l') (by rw[<- Fy];exact Er _ By) (by simp[wsM]) (by omega) (zHb p l') hb s h0 h1 hp Ad (fun e=>Des p (l'++ [c]) (zcD p (l'++ [c])+2) (fun m=>zGE p m (l'++ [c])∈nI s) (fun m=>zGE p m (l'++ [c])∉ nI s) e) (fun C R=>by
    have hR:RnC (zcD p l') (wOf p c) C:=⟨R.inc,fun r hr=>by have:=R.lt r hr;exact⟨this.1,by have h2:=this.2;push_cast at h2;exact h2⟩,fun r hr=>⟨_,R.at hr,(zOi hp _).1,(zOi hp _).2⟩⟩
    have Az:C≠[]:=by
     rintro rfl;obtain⟨r,h1,_⟩:=R.find 0 (Nat.two_pow_pos _);simp at h1
    obtain⟨e,he,hd⟩:=zQ3 By (by omega) ihl (wOf p c) C (by omega) Az R.len hR
    have key: ∀m,∃r,C.find? (fun r=>decide (atI m c % 2^wOf p c<=r.1))=some r/\(zGE p m l'∈r.2<->zGE p m (l'++ [c])∈nI s):=fun m=>by
     have Fz:0<=atI m c % 2^wOf p c:=Int.emod_nonneg _ (by have:=zcn (wOf p c);omega);have AX:atI m c % 2^wOf p c<2^wOf p c:=Int.emod_lt_of_pos _ (zcn _);obtain⟨v,hv⟩: ∃v:Nat,atI m c % 2^wOf p c=v:=⟨(atI m c % 2^wOf p c).toNat,by omega⟩
     rw[hv]at AX;rw[zIu,hv];have RY:(v:Int)<((2^wOf p c:Nat):Int):=by push_cast;exact AX
     obtain⟨r,f1,f2⟩:=R.find v (by omega);refine⟨r,f1,?_⟩;rw[f2];obtain⟨q1,q2⟩:=zHm (p:=p) (mem:=m) l';rw[<- q1]
     generalize(zGE p m l').toNat=n at q2
     have mI: ∀(n:Nat) (L:List Nat),((n:Int)∈nI L)<->n∈L:=fun n L=>by
      rw[List.mem_map];exact⟨fun⟨a,ha,e⟩=>by rwa[<- show a=n by omega],fun h=>⟨n,h,rfl⟩⟩
     have e2:((n:Int)+2^zcD p l'*(v:Int)∈nI s)<->n+2^zcD p l'*v∈s:=by
      rw[show(n:Int)+2^zcD p l'*(v:Int)=((n+2^zcD p l'*v:Nat):Int)by push_cast;rfl];exact mI _ _
     rw[mI,e2,zOM q2]
    refine⟨e,he,hd.mono (by omega) (fun _ h=>h) (fun m hm=> ?_) (fun m hm=> ?_)⟩
    ·obtain⟨r,f1,f2⟩:=key m;exact⟨r,f1,f2.2 hm⟩
    ·obtain⟨r,f1,f2⟩:=key m
     exact⟨r,f1,fun h=>hm (f2.1 h)⟩)
   obtain⟨r,hr,e,rfl,hP⟩:=this;exact⟨e,hr,hP⟩
def kT (ks:List Expr):V:=.t (.sl (ks.map Expr.enc))
def Stk (h:Nat->Option O) (x:Nat) (v:V) (L:List (List Expr)):Prop:= ∃k rest,v= .ms k 0 L.length/\k<x/\h k=some (.rows 1 (L.map (fun ks=>[kT ks])++rest) false)
theorem Stk.le {h:Nat->Option O} {x y:Nat} {v:V} {L:List (List Expr)} (o:Stk h x v L) (BW:x<=y):Stk h y v L:=by
 obtain⟨k,rest,h1,h2,h3⟩:=o;exact⟨k,rest,h1,by omega,h3⟩
theorem Stk.upd {h:Nat->Option O} {x:Nat} {v:V} {L:List (List Expr)} (o:Stk h x v L) {q:Nat} (hq:x<=q) (b:Option O):Stk (updC h q b) (q+1) v L:=by
 obtain⟨k,rest,h1,h2,h3⟩:=o;exact⟨k,rest,h1,by omega,by rw[zaa,if_neg (by omega)];exact h3⟩
theorem Stk.valOf {h:Nat->Option O} {x:Nat} {v:V} {L:List (List Expr)} (o:Stk h x v L):Rg.valOf v=some v:=by obtain⟨k,rest,rfl,_⟩:=o;rfl
theorem Stk.lenS {h:Nat->Option O} {x:Nat} {v:V} {L:List (List Expr)} (o:Stk h x v L):Rg.lenS h v=some L.length:=by
 obtain⟨k,rest,rfl,_,h3⟩:=o;simp[Rg.lenS,h3]
theorem Stk.rowsS {h:Nat->Option O} {x:Nat} {v:V} {L:List (List Expr)} (o:Stk h x v L):Rg.rowsS h v=some (L.map fun ks=>[kT ks]):=by
 obtain⟨k,rest,rfl,_,h3⟩:=o;unfold Rg.rowsS;simp only[h3,rd,Nat.zero_add,List.drop_zero];rw[if_pos (by simp),List.take_append_of_le_length (by simp),List.take_of_length_le (by simp)]
theorem Stk.r2 {h:Nat->Option O} {x:Nat} {v:V} {L:List (List Expr)} (o:Stk h x v L) (a c:Nat) (b:Option O):Rg.rowsS (updC h (x+a+c) b) v=some (L.map fun ks=>[kT ks]):=(o.upd (by omega) b).rowsS
theorem Stk.r3 {h:Nat->Option O} {x:Nat} {v:V} {L:List (List Expr)} (o:Stk h x v L) (a c d:Nat) (b:Option O):Rg.rowsS (updC h (x+a+c+d) b) v=some (L.map fun ks=>[kT ks]):=(o.upd (by omega) b).rowsS
theorem Stk.r4 {h:Nat->Option O} {x:Nat} {v:V} {L:List (List Expr)} (o:Stk h x v L) (a c d e:Nat) (b:Option O):Rg.rowsS (updC h (x+a+c+d+e) b) v=some (L.map fun ks=>[kT ks]):=(o.upd (by omega) b).rowsS
theorem zpa {h:Nat->Option O} {x q:Nat} {v:V} {L:List (List Expr)} {ks:List Expr} {K:V->List (Nat×O)->Prop} {w:WK K} (hv:Stk h x v L) (hx:x<=q) (hl:L.length<2^30)
 (hK: ∀v' hp,Stk (At h hp) (q+1) v' (L++[ks])->K v' hp):ziX false (zck h q 1 24 v (L.map fun ks=>[kT ks]) [[kT ks]]) K w:=by
 unfold zck;rw[if_pos ⟨⟨by simp;omega,by decide⟩,by simp,by simp⟩];obtain⟨k,rest,rfl,hk,hh⟩:=hv;simp only[List.isEmpty_cons,hh,zG,if_false,and_self,if_true,zcb]
 have Oo: ∃rest',zbU (L.map fun ks=>[kT ks]) [[kT ks]] ((L.map fun ks=>[kT ks])++rest)=(L++[ks]).map (fun ks=>[kT ks])++rest':=by
  unfold zbU;split
  ·exact⟨[],by simp⟩
  ·exact⟨_,by rw[List.map_append];rfl⟩
 obtain⟨rest',Oo⟩:=Oo;refine hK _ _ ⟨q,rest',?_,by omega,?_⟩
 ·simp
 ·rw[Oo];have:q≠k:=by omega
  simp[zaC,zaA,zaa]
def zHR (ks:List Expr):Nat:=(ks.map Expr.size).sum
def zH6 (L:List (List Expr)):Nat:=(L.map zHR).sum
theorem zLL (L:List (List Expr)) (ks:List Expr):zH6 (L++[ks])=zH6 L+zHR ks:=by simp[zH6]
def psh (ks:List Expr):List (List Expr):=(ks.filter fun k=> !k.kids.isEmpty).map Expr.kids
theorem zNL (ks:List Expr) (k:Expr):psh (ks++[k])=if k.kids=[]then psh ks else psh ks++[k.kids]:=by
 unfold psh;rw[List.filter_append,List.map_append,List.filter_cons,List.filter_nil]
 cases hk:k.kids with
 | nil=>simp
 | cons a r=>simp[hk]
theorem zOh: ∀ks:List Expr,zHR ks=ks.length+zH6 (psh ks)
 | []=>rfl
 | k::ks=>by
   have ih:=zOh ks;have h1:zHR (k::ks)=k.size+zHR ks:=by simp[zHR]
   have h2:k.size=zHR k.kids+1:=Expr.size_eq k;rw[h1,ih,h2,List.length_cons];unfold psh
   cases hk:k.kids with
   | nil=>rw[List.filter_cons,if_neg (by simp[hk])];simp[zHR];omega
   | cons a r=>rw[List.filter_cons,if_pos (by simp[hk])];simp[zH6,hk];omega
theorem zMA (ks:List Expr):(psh ks).length<=ks.length:=by unfold psh;rw[List.length_map];exact List.length_filter_le _ _
theorem zMl (e:Expr) (hn:e.nneg=true): ∃r,Den Γ G 548 [(.agg [.t (ti (e).op),.t (ti (e).w),.t (ti (e).n),.t (.sl ((e).kids.map (Expr.enc)))]),vi 601]=some r/\ ∃n:Nat,r=vi n/\(n<=600->e.size<=600):=by
 have kl: ∀k:Expr,k.nneg=true->k.kids.length<=3/\ ∀j∈k.kids,j.nneg=true:=fun k hk=>by
  unfold Expr.nneg at hk⊢;rw[Expr.allE_eq]at hk;simp only[zF,zN,decide_eq_true_eq]at hk;exact⟨hk.1.2,hk.2⟩
 refine zJx Γ548 rfl ?_;dsimp only[zQi];simp -dsimp -implicitDefEqProofs only[go_sem,seval];refine zaq 144115188075823840 601 (fun i f h x=> ∃(c:Nat) (L:List (List Expr)),(f 5).v=vi c/\Stk h x (f 6).v L/\c+zH6 L=e.size/\i<=c/\L.length<=c/\1<=c/\c<=610/\(∀ks∈L,ks.length<=3/\ ∀k∈ks,k.nneg=true)/\((i=0/\L.length<=1)\/ ∀ks∈L,ks≠[])) rfl ⟨1,[e.kids],by simp -dsimp -implicitDefEqProofs only[go_sem,seval],?_,?_,by omega,by simp,by omega,by omega,?_,.inl ⟨rfl,by simp⟩⟩ ?_
 ·refine⟨7,[],by simp -dsimp -implicitDefEqProofs only[go_sem,seval];(try rfl),by(try simp -dsimp -implicitDefEqProofs only[go_sem,seval]);(try omega),?_⟩;simp only[zaC,zaA];rw[zaa,if_pos rfl];rfl
 ·simp[zH6,zHR];rw[Expr.size_eq];omega
 ·intro ks Dn;simp at Dn;subst Dn;exact kl e hn
 rintro i f u h x bb hi ⟨c,L,g5,hS,AS,U6,Vo,Dr,Vy,Aa,Az⟩;have y1:=hS.valOf;have y2:=hS.lenS
 have Cf:(601<=c\/L=[])-> ∃n:Nat,(if(601:Int)<(c:Int)then(601:Int)else(c:Int))=n/\(n<=600->e.size<=600):=fun hq=>by
  by_cases h6:601<c
  ·exact⟨601,by rw[if_pos (by omega)];rfl,by omega⟩
  ·refine⟨c,by rw[if_neg (by omega)],fun h=> ?_⟩;rcases hq with h1 | h1
   ·omega
   ·subst h1;simp[zH6]at AS;omega
 rcases List.eq_nil_or_concat L with hL | ⟨L0,ks,hL⟩
 ·obtain⟨n,Fj,Fh⟩:=Cf (.inr hL);subst hL;simp -dsimp -implicitDefEqProofs only[go_sem,seval,g5,y1,y2,Fj];exact⟨_,rfl,n,rfl,Fh⟩
 rw[List.concat_eq_append]at hL;subst hL;have AO:(L0++[ks]).length=L0.length+1:=by simp
 have p0:(((L0.length+1:Nat):Int)>0)=True:=eq_true (by omega);rw[AO]at y2 Vo
 by_cases h6:c<601
 rotate_left
 ·obtain⟨n,Fj,Fh⟩:=Cf (.inl (by omega));have c6:((c:Int)<601)=False:=eq_false (by omega);simp -dsimp -implicitDefEqProofs only[go_sem,seval,g5,y1,y2,p0,c6,Fj];exact⟨_,rfl,n,rfl,Fh⟩
 have c6:((c:Int)<601)=True:=eq_true (by omega);obtain⟨SH,EK⟩:=Aa ks (by simp);have w1:IntKind.i64.wrap (((L0.length+1:Nat):Int)-1)=(L0.length:Int):=by rw[show((L0.length+1:Nat):Int)-1=L0.length by omega];exact zaH (by omega)
 have hg: ∀rest:List (List V),((L0++[ks]).map (fun ks=>[kT ks])++rest)[L0.length]? =some [.t (.sl (ks.map Expr.enc))]:=fun rest=>by simp[kT]
 obtain⟨k,rest,e6,hk,hh⟩:=hS;rw[AO]at e6;have w2:IntKind.i64.wrap ((c:Int)+(ks.length:Int))=((c+ks.length:Nat):Int):=by rw[show(c:Int)+(ks.length:Int)=((c+ks.length:Nat):Int)by simp];exact zaH (by omega)
 have kl1:(ks.map Expr.enc).length=ks.length:=by simp
 have s1:((L0.length:Int)<=((L0.length+1:Nat):Int))=True:=eq_true (by omega);have s2:(((L0.length:Int))-0).toNat=L0.length:=by omega
 by_cases h7:c+ks.length>=601
 ·have c7:(((c+ks.length:Nat):Int)>=601)=True:=eq_true (by omega);have c8:(if(601:Int)<((c+ks.length:Nat):Int)then(601:Int)else((c+ks.length:Nat):Int))=((601:Nat):Int):=by split<;>omega
  simp -dsimp -implicitDefEqProofs only[go_sem,seval,g5,e6,y2,p0,c6,w1,hh,hg,w2,kl1,s1,s2,c7,c8];exact⟨_,rfl,601,rfl,by omega⟩
 have c7:(((c+ks.length:Nat):Int)>=601)=False:=eq_false (by omega);simp -dsimp -implicitDefEqProofs only[go_sem,seval,g5,e6,y2,p0,c6,w1,hh,hg,w2,kl1,s1,s2,c7];refine zaq 144106391982834240 ks.length (fun j f h x=>(f 43).v=vi j/\Stk h x (f 6).v (L0++psh (ks.take j))) rfl ⟨by simp -dsimp -implicitDefEqProofs only[go_sem,seval],?_⟩ ?_
 ·refine⟨k,[kT ks]::rest,by simp -dsimp -implicitDefEqProofs only[go_sem,seval];simp[psh],by(try simp -dsimp -implicitDefEqProofs only[go_sem,seval]);(try omega),?_⟩;rw[hh];simp[psh]
 rintro j f1 u1 h1 x1 bb1 hj ⟨g43,SY⟩;have C9:=zan j (by omega)
 by_cases AN:j<ks.length
 rotate_left
 ·have Ba:(j<ks.length)=False:=eq_false AN;have:j=ks.length:=by omega
  subst this;rw[List.take_length]at SY;simp -dsimp -implicitDefEqProofs only[go_sem,seval,g43,Ba,kl1]
  have B8:i+1<=c+ks.length:=by
   rcases Az with h | h
   ·omega
   ·have:ks.length≠0:=fun e=>h ks (by simp) (List.eq_nil_of_length_eq_zero e)
    omega
  refine⟨by omega,c+ks.length,L0++psh ks,by simp -dsimp -implicitDefEqProofs only[go_sem,seval],?_,?_,B8,?_,by omega,by omega,fun q hq=> ?_,.inr fun q hq=> ?_⟩
  ·simp -dsimp -implicitDefEqProofs only[go_sem,seval];exact SY.le (by(try simp -dsimp -implicitDefEqProofs only[go_sem,seval]);(try omega))
  ·have h1:=zOh ks;have h2:zH6 (L0++psh ks)=zH6 L0+zH6 (psh ks):=by simp[zH6]
   rw[zLL]at AS;omega
  ·have:=zMA ks;rw[zM];omega
  ·rcases List.mem_append.1 hq with h | h
   ·exact Aa q (by simp[h])
   ·obtain⟨y,hy,rfl⟩:=List.mem_map.1 h;exact kl y (EK y (List.mem_filter.1 hy).1)
  ·rcases List.mem_append.1 hq with h | h
   ·rcases Az with⟨_,h2⟩ | h2
    ·rw[AO]at h2;rw[List.eq_nil_of_length_eq_zero (show L0.length=0 by omega)]at h;cases h
    ·exact h2 q (by simp[h])
   ·obtain⟨y,hy,rfl⟩:=List.mem_map.1 h;have:=(List.mem_filter.1 hy).2;intro e;rw[e]at this;simp at this
 have Ba:(j<ks.length)=True:=eq_true AN;obtain⟨y,hy,TY⟩:=zai AN;have Tw:(ks.map Expr.enc)[j]? =some y.enc:=by rw[zJ,hy];rfl
 have z1:=SY.valOf;have HG:=(kl y (EK y TY)).1;have TK:psh (ks.take (j+1))=if y.kids=[]then psh (ks.take j)else psh (ks.take j)++[y.kids]:=by rw[zaf hy,zNL]
 by_cases TE:y.kids=[]
 ·rw[if_pos TE]at TK;simp -dsimp -implicitDefEqProofs only[go_sem,seval,g43,Ba,kl1,Tw,TE];refine⟨AN,by simp -dsimp -implicitDefEqProofs only[go_sem,seval,C9],?_⟩;simp -dsimp -implicitDefEqProofs only[go_sem,seval];rw[TK];exact SY.le (by(try simp -dsimp -implicitDefEqProofs only[go_sem,seval]);(try omega))
 ·rw[if_neg TE]at TK;have y0:(y.kids.map Expr.enc).length=y.kids.length:=by simp
  have yne:y.kids.length≠0:=fun h=>TE (List.eq_nil_of_length_eq_zero h)
  have y00:((y.kids.length:Int)>0)=True:=eq_true (by omega);have r2:=SY.r2;have r3:=SY.r3;have r4:=SY.r4;simp -dsimp -implicitDefEqProofs only[go_sem,seval,g43,Ba,kl1,Tw,y0,y00,z1,r2,r3,r4];refine zpa (ks:=y.kids) (SY.upd (by omega) _) (by omega) (by have:=zMA (ks.take j);rw[zM];rw[List.length_take]at this;omega) ?_;intro v hp hP;have z2:=hP.valOf;simp -dsimp -implicitDefEqProofs only[go_sem,seval,g43,z2];refine⟨AN,by simp -dsimp -implicitDefEqProofs only[go_sem,seval,C9],?_⟩;simp -dsimp -implicitDefEqProofs only[go_sem,seval];rw[TK,<- zQ];exact hP.le (by(try simp -dsimp -implicitDefEqProofs only[go_sem,seval]);(try omega))
theorem zM5 {p:Prog} {l:List Int} (S:Shp l (wsM p l)) (By:CL p l) {s:List Nat} (E:Elems (wsM p l) s):
 ∃r,Den Γ G 514 [zGj l (wsM p l) (nI s)]=some r/\ ∃e:Expr,r=eV e/\(e=zrE\/(e.formed=true/\Des p l 40 (fun m=>zGE p m l∈nI s) (fun m=>zGE p m l∉ nI s) e)):=by
 have a1:=zGV S E;have hb:zcD p l<=12:=by have:=S.sum.2;rw[zHb]at this;omega
 obtain⟨e,he,hd⟩:=zRt (p:=p) l.length l rfl By hb S.len s E.inc (fun n hn=>by have:=E.lt n hn;rwa[zHb,Int.toNat_natCast]at this);have Ts:=hd.mono (D':=40) (by omega) (fun _ h=>h) (fun _ h=>h) (fun _ h=>h);obtain⟨r,hr,n,rfl,hn⟩:=zMl e (zs6 40 e Ts.deep);unfold eV at he;unfold zGj at a1⊢;refine zJx Γ514 rfl ?_;dsimp only[zQG]
 by_cases h6:n<=600
 ·have c6:((n:Int)>600)=False:=eq_false (by omega);simp -dsimp -implicitDefEqProofs only[go_sem,seval,a1,he,hr,c6];exact⟨_,rfl,e,rfl,.inr ⟨by simp only[Expr.formed,zF,decide_eq_true_eq];exact⟨hn h6,Ts.deep⟩,Ts⟩⟩
 ·have c6:((n:Int)>600)=True:=eq_true (by omega);simp -dsimp -implicitDefEqProofs only[go_sem,seval,a1,he,hr,c6];exact⟨_,rfl,zrE,rfl,.inl rfl⟩
def zMb (a:Expr):Expr:=if a.op=4 then a.kids.getD 0 zrE else .mk 4 a.w 0 [a]
def zKF (a b:Expr):Expr:=.mk 6 1 0 [a,b]
def fmE (e:Expr):Expr:=if e.formed then e else zrE
def zLo (a b:Expr):Expr:=
 if(zIe a&&zIe b)=false then zrE else if isC 0 a=true\/isC 1 b=true then zIT 1 else if isC 1 a=true then b else if isC 0 b=true then fmE (zMb a)else fmE (zKF (zMb a) b)
theorem zOO (a:Expr) (hf:a.formed=true):Den Γ G 572 [(.agg [.t (ti (a).op),.t (ti (a).w),.t (ti (a).n),.t (.sl ((a).kids.map (Expr.enc)))])]=some (eV (zMb a)):=by
 unfold zMb eV
 (refine zag Γ572 rfl ?_;dsimp only[zP4])
 by_cases c:a.op=4
 ·have c':=eq_true c;rw[if_pos c];have hn:=zcq (zcp hf);have ha:=zct hn;rw[c]at ha
  cases hk:a.kids with
  | nil=>rw[hk]at ha;simp[zcO]at ha
  | cons x r=>
    simp -dsimp -implicitDefEqProofs only[go_sem,seval,c',hk]
    (try first | rfl | exact⟨rfl,rfl,rfl,rfl⟩)
 ·have c':=eq_false c;rw[if_neg c];simp -dsimp -implicitDefEqProofs only[go_sem,seval,c']
  (try first | rfl | exact⟨rfl,rfl,rfl,rfl⟩)
theorem zM3 (e:Expr):Den Γ G 571 [(.agg [.t (ti (e).op),.t (ti (e).w),.t (ti (e).n),.t (.sl ((e).kids.map (Expr.enc)))])]=some (eV (fmE e)):=by
 rw[zIz];unfold fmE eV;split<;>rfl
theorem zKR (a b:Expr):Den Γ G 525 [(.agg [.t (ti (a).op),.t (ti (a).w),.t (ti (a).n),.t (.sl ((a).kids.map (Expr.enc)))]),(.agg [.t (ti (b).op),.t (ti (b).w),.t (ti (b).n),.t (.sl ((b).kids.map (Expr.enc)))])]=some (eV (zLo a b)):=by
 have h1:=zJA a;have h2:=zJA b;have i0:=zHY a 0;have i1:=zHY a 1;have j0:=zHY b 0;have j1:=zHY b 1;have k1:=zKY 1;have n2:=zM3 (zKF (zMb a) b);have n1:=zM3 (zMb a);unfold zLo
 (refine zag Γ525 rfl ?_;dsimp only[zQD])
 cases ca:zIe a
 ·rw[ca]at h1;rw[if_pos (by simp)];unfold eV;simp -dsimp -implicitDefEqProofs only[go_sem,seval,h1];exact⟨rfl,rfl,rfl,rfl⟩
 cases cb:zIe b
 ·rw[ca]at h1;rw[cb]at h2;rw[if_pos (by simp)];unfold eV;simp -dsimp -implicitDefEqProofs only[go_sem,seval,h1,h2];exact⟨rfl,rfl,rfl,rfl⟩
 rw[ca]at h1;rw[cb]at h2;have fa:a.formed=true:=by simp[zIe]at ca;exact ca.2
 have fb:b.formed=true:=by simp[zIe]at cb;exact cb.2
 have q1:=zIJ a fa;have q2:=zIJ b fb;have q3:=zOO a fa;unfold eV at q3 n1 n2⊢;rw[if_neg (by simp)];cases c0:isC 0 a
 rotate_left
 ·rw[c0]at i0;rw[if_pos (by simp)];simp -dsimp -implicitDefEqProofs only[go_sem,seval,h1,h2,q1,q2,i0,k1]
  (try first | rfl | exact⟨rfl,rfl,rfl,rfl⟩)
 rw[c0]at i0;cases d1:isC 1 b
 rotate_left
 ·rw[d1]at j1;rw[if_pos (by simp)];simp -dsimp -implicitDefEqProofs only[go_sem,seval,h1,h2,q1,q2,i0,j1,k1]
  (try first | rfl | exact⟨rfl,rfl,rfl,rfl⟩)
 rw[d1]at j1;rw[if_neg (by simp)];cases c1:isC 1 a
 rotate_left
 ·rw[c1]at i1;rw[if_pos rfl];simp -dsimp -implicitDefEqProofs only[go_sem,seval,h1,h2,q1,q2,i0,j1,i1]
  (try first | rfl | exact⟨rfl,rfl,rfl,rfl⟩)
 rw[c1]at i1;rw[if_neg (by simp)];cases d0:isC 0 b
 rotate_left
 ·rw[d0]at j0;rw[if_pos rfl];simp -dsimp -implicitDefEqProofs only[go_sem,seval,h1,h2,q1,q2,i0,j1,i1,j0,q3,n1]
  (try first | rfl | exact⟨rfl,rfl,rfl,rfl⟩)
 rw[d0]at j0;rw[if_neg (by simp)];have n3:Den Γ G 571 [.agg [vi 6,vi 1,vi 0,.t (.sl [(zMb a).enc,b.enc])]]=_:=n2;rw[Expr.enc_eq,Expr.enc_eq]at n3;simp -dsimp -implicitDefEqProofs only[go_sem,seval,h1,h2,q1,q2,i0,j1,i1,j0,q3,n3]
 (try first | rfl | exact⟨rfl,rfl,rfl,rfl⟩)
def bfL (x:Expr):Expr:=.mk (if x.op=2 then 3 else x.op) x.w x.n []
theorem zO7 (h:Nat->Option O) (n:Nat) (v:V) (x:Expr) (hk:x.kids=[]) (hs:Sh h v x):
 ∃r h' n',DenR Γ G 526 [v] h n=some (r,h',n')/\(r= .agg [.t (ti (bfL x).op),.t (ti x.w),.t (ti x.n),.t .nils]/\h'=h/\n<=n'):=by
 (refine zay Γ526 rfl ?_;dsimp only[zQC])
 have F4:=hs;rcases F4 with rfl | ⟨k,fz,rfl,AB⟩
 ·simp -dsimp -implicitDefEqProofs only[go_sem,seval];refine zas (zIF h _ _ x hs) ?_;rintro r h' n' ⟨rfl,rfl,A5⟩
  by_cases c:x.op=2
  ·have c':=eq_true c;have e1:(bfL x).op=3:=by simp[bfL,c,Expr.op_mk]
   simp -dsimp -implicitDefEqProofs only[go_sem,seval,c',e1];exact⟨by rw[e1];rfl,rfl,by(try simp -dsimp -implicitDefEqProofs only[go_sem,seval]);(try omega)⟩
  ·have c':=eq_false c;have e1:(bfL x).op=x.op:=by simp[bfL,c,Expr.op_mk]
   simp -dsimp -implicitDefEqProofs only[go_sem,seval,c',e1];exact⟨by rw[e1];rfl,rfl,by(try simp -dsimp -implicitDefEqProofs only[go_sem,seval]);(try omega)⟩
 ·simp -dsimp -implicitDefEqProofs only[go_sem,seval];refine zas (zIF h _ _ x hs) ?_;rintro r h' n' ⟨rfl,rfl,A5⟩
  by_cases c:x.op=2
  ·have c':=eq_true c;have e1:(bfL x).op=3:=by simp[bfL,c,Expr.op_mk]
   simp -dsimp -implicitDefEqProofs only[go_sem,seval,AB,c',e1];exact⟨by rw[e1];rfl,rfl,by(try simp -dsimp -implicitDefEqProofs only[go_sem,seval]);(try omega)⟩
  ·have c':=eq_false c;have e1:(bfL x).op=x.op:=by simp[bfL,c,Expr.op_mk]
   simp -dsimp -implicitDefEqProofs only[go_sem,seval,AB,c',e1];exact⟨by rw[e1];rfl,rfl,by(try simp -dsimp -implicitDefEqProofs only[go_sem,seval]);(try omega)⟩
def zNn (e:Expr):Expr:=if e.formed then e.mapL bfL else zrE
theorem zN3: ∀e:Expr,(e.mapL bfL).size=e.size:=by
 intro e
 induction e using Expr.ind with
 | _ e ih=>
 by_cases hk:e.kids=[]
 ·rw[Expr.mapL_leaf hk,Expr.size_eq,Expr.size_eq e,hk];rfl
 ·rw[Expr.mapL_node hk,Expr.size_eq,Expr.size_eq e,Expr.kids_mk,List.map_map]
  congr 2
  exact List.map_congr_left fun k hk=>ih k hk
theorem zL9 (e:Expr):Den Γ G 507 [(.agg [.t (ti (e).op),.t (ti (e).w),.t (ti (e).n),.t (.sl ((e).kids.map (Expr.enc)))])]=some (eV (zNn e)):=by
 have h1:=zeo e;unfold zNn eV
 (refine zag Γ507 rfl ?_;dsimp only[zQN])
 cases hf:e.formed
 ·rw[hf]at h1;simp -dsimp -implicitDefEqProofs only[go_sem,seval,h1];exact⟨rfl,rfl,rfl,rfl⟩
 rw[hf]at h1;simp -dsimp -implicitDefEqProofs only[go_sem,seval,h1]
 have AS:e.size<=1000:=by
  simp only[Expr.formed,zF,decide_eq_true_eq]at hf;omega
 refine zas (zIp (σ:=Unit) (.t (.fn 526 [] [])) 526 [] rfl rfl 1 (fun _ h=>h 0=some (.rows 4 [[.t (ti e.op),.t (ti e.w),.t (ti e.n),.t (.sl (e.kids.map Expr.enc))]] false)) (fun s _=>s) bfL lcS
  (fun s h h' hI hk=>(hk 0 (by omega)).trans hI) ?_ e _ () _ _ (zpJ 40 e (zcp hf)) (by simp -dsimp -implicitDefEqProofs only[go_sem,seval]) (by omega) (fun s h hI=> .inr ⟨0,false,rfl,hI⟩)) ?_
 ·intro s h n v x hI hk _ hs hn;obtain⟨r,h',n',hd,rfl,rfl,A5⟩:=zO7 h n v x hk hs;exact⟨_,_,_,hd,⟨_,rfl,Cut.leaf _ _ _ rfl⟩,hI,A5,fun _ _=>rfl⟩
 ·rintro r h' n' ⟨⟨cs,rfl,x,rfl,hx,ht⟩,Hi,A5,A8⟩;have h1:=ht h' 1000 (by rw[zN3];exact AS) fun _ _ _=>rfl
  simp -dsimp -implicitDefEqProofs only[go_sem,seval,hx,h1]
theorem zJN {cells:List Cell} {e x:Expr} {pair:Bool} (h:e.valid cells pair=true) (hx:x∈e.lv):x.kids=[]/\(x.op=1\/(x.op=2\/x.op=3)/\0<=x.n/\x.n<32/\ ∃c,cells[x.n.toNat]? =some c/\c.w=x.w):=by
 simp only[Expr.valid,zF]at h;have hk:=zLk hx;have hl:=zHW h.2 hx;have hc:=zHW (zpJ 40 e (zcp h.1)) hx;simp only[lcS,zF,decide_eq_true_eq]at hc;refine⟨hk,?_⟩;rcases hc.1.2 hk with h1 | ⟨h2,Ad⟩
 ·exact .inl h1
 ·refine .inr ⟨h2,hc.1.1,Ad,?_⟩;unfold zb3 at hl;split at hl
  ·cases hl
  ·rw[if_pos (by omega)]at hl
   cases Fs:cells[x.n.toNat]? with
   | none=>simp[Fs]at hl
   | some c=>exact⟨c,rfl,by simpa[Fs]using hl⟩
theorem zOS {e x:Expr} (hf:e.formed=true) (hx:x∈e.lv):x.op=1\/((x.op=2\/x.op=3)/\0<=x.n/\x.n<32):=by
 have hc:=zHW (zpJ 40 e (zcp hf)) hx;simp only[lcS,zF,decide_eq_true_eq]at hc;rcases hc.1.2 (zLk hx)with h1 | ⟨h2,Ad⟩
 ·exact .inl h1
 ·exact .inr ⟨h2,hc.1.1,Ad⟩
theorem zM6 {p:Prog} {e:Expr} {pair:Bool} (he:e.valid p.cells pair=true) {m m' o o':List Int}
 (h2: ∀c∈e.sup 2,atI m c % 2^wOf p c=atI m' c % 2^wOf p c) (h3: ∀c∈e.sup 3,atI o c % 2^wOf p c=atI o' c % 2^wOf p c):e.eval o m=e.eval o' m':=by
 have hv:=he;simp only[Expr.valid,zF]at hv;rw[Expr.eval,Expr.eval,if_pos hv.1,if_pos hv.1]
 have:=zJq (f:=fun x=>x) (o1:=o) (o2:=o') (m1:=m) (m2:=m') (zcp hv.1) (fun x hx=>by
  obtain⟨hk,ho⟩:=zJN he hx;rcases ho with ho | ⟨ho,h0,Ad,c,hc,QK⟩
  ·simp[Expr.ev_eq,ho]
  ·have hw:wOf p x.n=x.w.toNat:=by rw[wOf,hc];simp[QK]
   rcases ho with ho | ho
   ·have hg:=h2 x.n (zIh hv.1 hx ho h0 Ad);rw[hw]at hg;simp[Expr.ev_eq,ho,hg]
   ·have hg:=h3 x.n (zIh hv.1 hx ho h0 Ad);rw[hw]at hg
    simp[Expr.ev_eq,ho,hg])
 rwa[zHN]at this
theorem zMj {p:Prog}: ∀{l:List Int} (n:Int),l.Pairwise (fun a b=>a.toNat≠b.toNat)-> ∀c∈l,∃v,0<=v/\v<2^wOf p c/\ ∀s:List Int,(∀c∈l,c.toNat<s.length)->atI (stM p l n s) c=v
 | [],_,_,c,hc=>by simp at hc
 | x::r,n,hp,c,hc=>by
   obtain⟨p1,p2⟩:=List.pairwise_cons.1 hp;have CB:(0:Int)<2^wOf p x:=zcn _
   by_cases U9:c∈r
   ·obtain⟨v,h0,h1,h2⟩:=zMj (n/ 2^wOf p x) p2 c U9;exact⟨v,h0,h1,fun s hs=>by rw[stM];exact h2 _ fun y hy=>by simpa using hs y (by simp[hy])⟩
   ·have:c=x:=by rcases List.mem_cons.1 hc with h | h
                 ·exact h
                 ·exact absurd h U9
    subst this;refine⟨n % 2^wOf p c,Int.emod_nonneg _ (by omega),Int.emod_lt_of_pos _ CB,fun s hs=> ?_⟩;rw[stM,atI,zHh fun y hy=>fun e=>p1 y hy e.symm];have:=hs c (by simp);simp[zK,List.getElem?_set,this]
theorem zIy {e:Expr} (he:e.formed=true):e.op≠0:=fun h=>by
 simp only[Expr.formed,zF]at he;have h2:=he.2;rw[show(40:Nat)=39+1 from rfl,Expr.deep,zF]at h2;have:=h2.1;simp[zbk,h,zcO]at this
theorem zLF {l:List Expr} (hz:(zHc l).op≠0): ∀e∈l,e.w=1/\e.formed=true:=fun e he=>by
 unfold zHc at hz
 by_cases h1:l.all zIe=false
 ·rw[if_pos h1]at hz;exact absurd rfl hz
 have:=zN.1 (by simpa using h1) e he;simpa[zIe]using this
structure VS (p:Prog) (l:List Int) (e:Expr):Prop where
 valid:e.valid p.cells true=true
 sup: ∀op,op=2\/op=3-> ∀c∈e.sup op,c∈l
theorem VS.formed {p:Prog} {l:List Int} {e:Expr} (h:VS p l e):e.formed=true:=by
 have:=h.valid;simp only[Expr.valid,zF]at this;exact this.1
def LfP (p:Prog) (l:List Int) (x:Expr):Prop:=x.op=1\/(x.op=2\/x.op=3)/\x.n∈l/\ ∃c,p.cells[x.n.toNat]? =some c/\c.w=x.w
theorem VS.lv {p:Prog} {l:List Int} {e:Expr} (h:VS p l e) {x:Expr} (hx:x∈e.lv):LfP p l x:=by
 obtain⟨hk,ho⟩:=zJN h.valid hx;rcases ho with ho | ⟨ho,h0,Ad,hc⟩
 ·exact .inl ho
 ·exact .inr ⟨ho,h.sup x.op ho _ (zIh h.formed hx rfl h0 Ad),hc⟩
theorem VS.of_lv {p:Prog} {l:List Int} {e:Expr} (hf:e.formed=true) (h: ∀x∈e.lv,LfP p l x):VS p l e:=by
 refine⟨?_,fun op Ao c hc=> ?_⟩
 ·rw[Expr.valid,hf,Bool.true_and,zvP (fun x=>zje p.cells true) 40 _ (zcp hf),zN];intro x hx;unfold zb3;rw[if_neg (by simp)];rcases h x hx with h1 | ⟨_,_,c,hc,hw⟩
  ·rw[if_neg (by omega)]
  ·split
   ·rw[hc];simpa using hw
   ·rfl
 ·obtain⟨h0,_,x,hx,h1,h2⟩:=zrn hc;have h3:=zOS hf hx;rcases h x hx with h4 | ⟨_,h4,_⟩
  ·omega
  ·have:x.n=c:=by omega
   rwa[this]at h4
theorem VS.of_false {p:Prog} {l:List Int} {e:Expr} (h:e.valid p.cells false=true) (hs: ∀c∈e.sup 2,c∈l):VS p l e:=by
 have hf:e.formed=true:=by simp only[Expr.valid,zF]at h;exact h.1
 refine VS.of_lv hf fun x hx=> ?_
 obtain⟨hk,hn,ho⟩:=zH7 h hx;rcases ho with ho | ⟨ho,h0,Ad,hc⟩
 ·exact .inl ho
 ·exact .inr ⟨.inl ho,hs _ (zIh hf hx ho h0 Ad),hc⟩
theorem VS.cst {p:Prog} {l:List Int} {k:Int} (h:k=0\/k=1):VS p l (zIT k):=⟨zIE h p.cells true,fun op Ao c hc=>by rw[zKX op Ao]at hc;simp at hc⟩
theorem VS.and {p:Prog} {l:List Int} {L:List Expr} (hz:(zHc L).op≠0) (h: ∀e∈L,VS p l e):VS p l (zHc L):=by
 have A:=zJJ hz;exact⟨A.valid _ _ fun e he=>(h e he).valid,fun op Ao c hc=>by obtain⟨e,he,hc⟩:=A.sup op Ao c hc;exact(h e he).sup op Ao c hc⟩
theorem zPD {e:Expr} (h:(fmE e).op≠0):e.formed=true/\fmE e=e:=by
 unfold fmE at h⊢;split at h
 ·rename_i hf;exact⟨hf,if_pos hf⟩
 ·exact absurd rfl h
theorem zOk {a x:Expr} (hf:a.formed=true) (hx:x∈(zMb a).lv):x∈a.lv:=by
 unfold zMb at hx;split at hx
 ·rename_i h4;have ha:=zct (zcq (zcp hf));rw[h4]at ha
  cases hk:a.kids with
  | nil=>rw[hk]at ha;simp[zcO]at ha
  | cons y r=>
    rw[hk]at hx;exact zMK (k:=y) (by rw[hk];simp) (by simpa using hx)
 ·rw[Expr.lv_eq,if_neg (by simp[Expr.kids_mk])]at hx;simpa[Expr.kids_mk]using hx
theorem zLi {a:Expr} (hf:a.formed=true) (hw:a.w=1) (hn:(zMb a).formed=true) (o m:List Int):(zMb a).eval o m=1<->a.eval o m=0:=by
 have hb:=zGJ hf hw o m;unfold zMb at hn⊢;split at hn
 ·rename_i h4;rw[if_pos h4];have ha:=zct (zcq (zcp hf));rw[h4]at ha
  cases hk:a.kids with
  | nil=>rw[hk]at ha;simp[zcO]at ha
  | cons y r=>
    rw[hk]at hn;simp only[List.getD_cons_zero]at hn⊢
    have e1:a.eval o m=1-y.eval o m:=by
     rw[Expr.eval,if_pos hf,Expr.ev_eq,if_neg (by omega),if_neg (by omega),if_neg (by omega),h4,hk,hw,Expr.eval,if_pos hn];simp[opv]
    omega
 ·rename_i h4;rw[if_neg h4]
  have e1:(Expr.mk 4 a.w 0 [a]).eval o m=1-a.eval o m:=by
   rw[Expr.eval,if_pos hn,Expr.ev_eq,Expr.eval,if_pos hf];simp[Expr.op_mk,Expr.w_mk,Expr.kids_mk,opv,hw]
  omega
theorem zI2 {a b:Expr} (h:(zKF a b).formed=true):a.formed=true/\b.formed=true/\a.w=1/\b.w=1:=by
 simp only[Expr.formed,zF,decide_eq_true_eq]at h⊢;obtain⟨h1,h2⟩:=h;have ka:a∈(zKF a b).kids:=by simp[zKF,Expr.kids_mk]
 have kb:b∈(zKF a b).kids:=by simp[zKF,Expr.kids_mk]
 have hn:zbk (zKF a b)=true:=by
  simp only[Expr.deep,zF]at h2;exact h2.1
 have sa:=Expr.size_kid ka;have sb:=Expr.size_kid kb;refine⟨⟨by omega,zHq (by omega) (zc7 h2 ka)⟩,⟨by omega,zHq (by omega) (zc7 h2 kb)⟩,?_⟩;simp[zbk,zKF,Expr.op_mk,Expr.kids_mk,Expr.w_mk,Expr.n_mk,Expr.kw,zcO]at hn;exact hn
theorem zNO {a b:Expr} (h:(zKF a b).formed=true) (o m:List Int):(zKF a b).eval o m=1<->a.eval o m=1\/b.eval o m=1:=by
 obtain⟨ha,hb,aw,bw⟩:=zI2 h;have h1:=zGJ ha aw o m;have h2:=zGJ hb bw o m
 have e1:(zKF a b).eval o m=(((a.eval o m).toNat ||| (b.eval o m).toNat:Nat):Int):=by
  rw[Expr.eval,if_pos h,Expr.ev_eq,Expr.eval,if_pos ha,Expr.eval,if_pos hb];simp[zKF,Expr.op_mk,Expr.kids_mk,opv]
 rw[e1];rcases h1 with h1 | h1<;>rcases h2 with h2 | h2<;>rw[h1,h2]<;>decide
theorem zMX {a b:Expr} (hz:(zLo a b).op≠0):(∀o m,(zLo a b).eval o m=1<->(a.eval o m=1->b.eval o m=1))/\ ∀p l,VS p l a->VS p l b->VS p l (zLo a b):=by
 unfold zLo at hz⊢;cases hc:zIe a&&zIe b
 ·rw[hc,if_pos rfl]at hz;exact absurd rfl hz
 rw[hc,if_neg (by simp)]at hz;rw[if_neg (by simp)];simp only[zIe,zF,decide_eq_true_eq]at hc;obtain⟨⟨aw,af⟩,bw,bf⟩:=hc;have ba:=zGJ af aw;have bb:=zGJ bf bw
 by_cases h1:isC 0 a=true\/isC 1 b=true
 ·rw[if_pos h1];refine⟨fun o m=> ?_,fun p l _ _=>VS.cst (.inr rfl)⟩;rw[zJy (.inr rfl)];refine⟨fun _ h=> ?_,fun _=>rfl⟩;rcases h1 with h1 | h1
  ·rw[zG6 af h1]at h;cases h
  ·exact zG6 bf h1 o m
 rw[if_neg h1]at hz⊢
 by_cases h2:isC 1 a=true
 ·rw[if_pos h2];exact⟨fun o m=>⟨fun h _=>h,fun h=>h (zG6 af h2 o m)⟩,fun p l _ h=>h⟩
 rw[if_neg h2]at hz⊢
 by_cases h3:isC 0 b=true
 ·rw[if_pos h3]at hz⊢;obtain⟨nf,e⟩:=zPD hz;rw[e];refine⟨fun o m=> ?_,fun p l ha _=>VS.of_lv nf fun x hx=>ha.lv (zOk af hx)⟩;rw[zLi af aw nf,zG6 bf h3];have:=ba o m;omega
 rw[if_neg h3]at hz⊢;obtain⟨nf,e⟩:=zPD hz;rw[e];have q:=zI2 nf;refine⟨fun o m=> ?_,fun p l ha hb=>VS.of_lv nf fun x hx=> ?_⟩
 ·rw[zNO nf,zLi af aw q.1];have:=ba o m;omega
 ·rw[Expr.lv_eq,if_neg (by simp[zKF,Expr.kids_mk])]at hx;simp only[zKF,Expr.kids_mk,List.flatMap_cons,List.flatMap_nil,List.append_nil,List.mem_append]at hx;rcases hx with hx | hx
  ·exact ha.lv (zOk af hx)
  ·exact hb.lv hx
theorem zRi: ∀{e x:Expr},x∈(e.mapL bfL).lv-> ∃y∈e.lv,x=bfL y:=by
 intro e
 induction e using Expr.ind with
 | _ e ih=>
 intro x hx
 by_cases hk:e.kids=[]
 ·rw[Expr.mapL_leaf hk,Expr.lv_eq,if_pos (by simp[bfL,Expr.kids_mk])]at hx;rw[Expr.lv_eq,if_pos hk];exact⟨e,by simp,by simpa using hx⟩
 ·rw[Expr.mapL_node hk,Expr.lv_eq,if_neg (by simpa[Expr.kids_mk]using hk),Expr.kids_mk]at hx;obtain⟨k',Ah,hx⟩:=List.mem_flatMap.1 hx;obtain⟨k,It,rfl⟩:=List.mem_map.1 Ah;obtain⟨y,hy,rfl⟩:=ih k It hx;exact⟨y,zMK It hy,rfl⟩
theorem zPN {e:Expr} (he:e.formed=true) (hf:(zNn e).formed=true):(∀o m,(zNn e).eval o m=e.eval o o)/\ ∀p l,VS p l e->VS p l (zNn e):=by
 unfold zNn at hf⊢;rw[if_pos he]at hf⊢;refine⟨fun o m=> ?_,fun p l h=>VS.of_lv hf fun x hx=> ?_⟩
 ·rw[Expr.eval,if_pos hf,Expr.eval,if_pos he];refine zJq (zcp he) fun x hx=> ?_
  rcases zOS he hx with h1 | ⟨h1 | h1,_⟩<;>simp[Expr.ev_eq,bfL,h1,Expr.op_mk,Expr.n_mk,Expr.w_mk]
 ·obtain⟨y,hy,rfl⟩:=zRi hx;rcases h.lv hy with h1 | ⟨h1,h2,c,h3,h4⟩
  ·exact .inl (by simp[bfL,h1,Expr.op_mk])
  ·refine .inr ⟨?_,by simpa[bfL,Expr.n_mk]using h2,c,by simpa[bfL,Expr.n_mk]using h3,by simpa[bfL,Expr.w_mk]using h4⟩;rcases h1 with h1 | h1<;>simp[bfL,h1,Expr.op_mk]
end Rg
end
