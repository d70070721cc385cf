/- Part of the proof of laws of relyguardlaw31. No condition. -/
import Derived.Test.YtcmeofagpechdaaGreatDoorPartBH
import Derived.Test.YtcmeofagpechdaaGreatDoorPartBG
set_option linter.unusedSimpArgs false
set_option linter.unusedVariables false
section
set_option maxRecDepth 100000
namespace Rg
open Go
set_option maxHeartbeats 2000000
theorem zdX (p:Prog) (hp:p.ok) (hs:p.sane) (he:p.smE) (l:List Pl) (hl:l.length<2^20) (hpl: ∀x∈l,znZ p x):Den Γ G 404 [(.agg [.t (.sl ((p).cells.map (Cell.enc))),.t (.sl ((p).modules.map (Contract.enc))),.t (.sl ((p).locks.map (Lock.enc))),.t (.sl ((p).threads.map (Thread.enc)))]),.t (.sl (l.map Pl.enc))]=some (.tup [(.agg [.t (.sl (((insM p l).1).cells.map (Cell.enc))),.t (.sl (((insM p l).1).modules.map (Contract.enc))),.t (.sl (((insM p l).1).locks.map (Lock.enc))),.t (.sl (((insM p l).1).threads.map (Thread.enc)))]),vi (insM p l).2]):=by
 have hv:=zeq p hs;have hvb:validB p=true:=by simpa[validB]using hp
 rw[hvb]at hv;have hins:=zfH p hp he l hl hpl
 (refine den_ofY Γ404 rfl ?_;dsimp only[zrq])
 simp -dsimp -implicitDefEqProofs only[go_sem,seval,hv];refine zaz 562949953405104 l.length (fun i f=>(f 14).v=vi i/\(f 4).v= .lb/\ ∃b,(f 4).box=some b/\b.length=4) rfl rfl ⟨by simp -dsimp -implicitDefEqProofs only[go_sem,seval],by simp -dsimp -implicitDefEqProofs only[go_sem,seval],[zn,zn,zn,zn],by simp -dsimp -implicitDefEqProofs only[go_sem,seval],rfl⟩ ?_;rintro i f u x bs hi ⟨h14,h4,b,h4b,hb⟩;have hw:=zah i (by omega);simp -dsimp -implicitDefEqProofs only[go_sem,seval,h14]
 by_cases hlt:i<l.length
 ·have hlt1:=eq_true hlt;obtain⟨z,hz,hzm⟩:=zaf hlt;obtain⟨y,hy,hyl⟩:=hpl z hzm;have htl:=(zH.1 hy).1;have k1: ¬((z.1:Int)<0):=by omega
  have k2: ¬((z.2:Int)<0):=by omega
  have k3: ¬((z.1:Int)>=(p.threads.length:Int)):=by omega
  have k4: ¬((z.2:Int)>=(y.steps.length:Int)):=by omega
  simp -dsimp -implicitDefEqProofs only[go_sem,seval,h14,hlt1,hz,hy,k1,k2,k3,k4];exact⟨hlt,by simp -dsimp -implicitDefEqProofs only[go_sem,seval,hw],by simp -dsimp -implicitDefEqProofs only[go_sem,seval];exact h4,b,by simp -dsimp -implicitDefEqProofs only[go_sem,seval];exact h4b,hb⟩
 ·have hlt1:=eq_false hlt
  obtain⟨a1,a2,a3,a4,rfl⟩: ∃a1 a2 a3 a4,b=[a1,a2,a3,a4]:=by
   match b,hb with
   | [a1,a2,a3,a4],_=>exact⟨_,_,_,_,rfl⟩
  simp -dsimp -implicitDefEqProofs only[go_sem,seval,h14,hlt1,hins,h4,h4b]
theorem zjz (p:Prog) (hl:p.lite):Den Γ G 409 [(.agg [.t (.sl ((p).cells.map (Cell.enc))),.t (.sl ((p).modules.map (Contract.enc))),.t (.sl ((p).locks.map (Lock.enc))),.t (.sl ((p).threads.map (Thread.enc)))])]=some (vb (fewM p&&formedM p)):=by
 have h1:=zni p hl.steps
 (refine den_ofY Γ409 rfl ?_;dsimp only[zro])
 simp -dsimp -implicitDefEqProofs only[go_sem,seval,h1];cases h:fewM p
 ·simp -dsimp -implicitDefEqProofs only[go_sem,seval];rfl
 ·have h2:=zh2 p (few_sane hl h);simp -dsimp -implicitDefEqProofs only[go_sem,seval,h2]
theorem zjQ (p:Prog) (hp:p.ok):Den Γ G 414 [(.agg [.t (.sl ((p).cells.map (Cell.enc))),.t (.sl ((p).modules.map (Contract.enc))),.t (.sl ((p).locks.map (Lock.enc))),.t (.sl ((p).threads.map (Thread.enc)))])]=some (.t (.sl ((candM p).map Pl.enc))):=by
 obtain⟨⟨b1,b2,b3,b4⟩,b5⟩:=limits_iff.1 (ok_iff.1 hp).lim
 (refine den_ofY Γ414 rfl ?_;dsimp only[zrn])
 simp -dsimp -implicitDefEqProofs only[go_sem,seval];refine zaj 18014398509481976 p.threads.length (fun t f h z=>(f 4).v=vi t/\OwnB h z (f 3).v 2 (rwG Pl.enc (candN p t))) rfl ⟨by simp -dsimp -implicitDefEqProofs only[go_sem,seval],.inl ⟨by simp -dsimp -implicitDefEqProofs only[go_sem,seval],rfl⟩⟩ ?_;rintro t f u H q bq ht ⟨h4,hO⟩;have hw:=zah t (by omega);simp -dsimp -implicitDefEqProofs only[go_sem,seval,h4]
 by_cases hlt:t<p.threads.length
 ·have hlt1:=eq_true hlt;obtain⟨x,hx,hxm⟩:=zaf hlt;have hsl:=(b5 x hxm).2.1;have hcn:=zdD (fun x hx=>(b5 x hx).2.1) t (by omega);simp -dsimp -implicitDefEqProofs only[go_sem,seval,h4,hlt1,hx]
  refine zaj 18014398505288136 x.steps.length (fun i f h z=>(f 6).v=vi i/\OwnB h z (f 3).v 2 (rwG Pl.enc (candN p t++firN t x i))) rfl
   ⟨by simp -dsimp -implicitDefEqProofs only[go_sem,seval],by simp -dsimp -implicitDefEqProofs only[go_sem,seval];rw[show firN t x 0=[]from rfl,List.append_nil];exact hO.le (by omega)⟩ ?_
  rintro i f2 u2 H2 q2 bq2 hi ⟨h6,hO2⟩;have hwi:=zah i (by omega);simp -dsimp -implicitDefEqProofs only[go_sem,seval,h6]
  by_cases hil:i<x.steps.length
  ·have hil1:=eq_true hil;obtain⟨s,hs,hsm⟩:=zaf hil;have hsuc:=zhf t x i;have hln:=zh4 t x i;simp -dsimp -implicitDefEqProofs only[go_sem,seval,h6,hil1,hs];refine zaj 140737219920256 i (fun k f h z=>(f 8).v=vi k/\(f 7).v=vb ((x.steps.take k).all fun z=>decide (z.fr≠s.fr))/\OwnB h z (f2 3).v 2 (rwG Pl.enc (candN p t++firN t x i))) rfl ⟨by simp -dsimp -implicitDefEqProofs only[go_sem,seval],by simp -dsimp -implicitDefEqProofs only[go_sem,seval],by simp -dsimp -implicitDefEqProofs only[go_sem,seval];exact hO2.le (by omega)⟩ ?_;rintro k f3 u3 H3 q3 b3 hk ⟨h8,h7,hO3⟩;have hwk:=zah k (by omega);simp -dsimp -implicitDefEqProofs only[go_sem,seval,h8,h6]
   by_cases hki:k<i
   ·have hki1:=eq_true hki;obtain⟨z,hz,hzm⟩:=zaf (show k<x.steps.length by omega)
    have hall:(x.steps.take (k+1)).all (fun z=>decide (z.fr≠s.fr))=((x.steps.take k).all (fun z=>decide (z.fr≠s.fr))&&decide (z.fr≠s.fr)):=by
     rw[zae hz,List.all_append];simp
    simp -dsimp -implicitDefEqProofs only[go_sem,seval,hki1,h7];cases hb:(x.steps.take k).all fun z=>decide (z.fr≠s.fr)
    ·rw[hb]at hall;simp -dsimp -implicitDefEqProofs only[go_sem,seval,h8];refine⟨hki,by simp -dsimp -implicitDefEqProofs only[go_sem,seval,hwk],by simp -dsimp -implicitDefEqProofs only[go_sem,seval];rw[hall];rfl,?_⟩;simp -dsimp -implicitDefEqProofs only[go_sem,seval];exact hO3.le (by omega)
    ·rw[hb]at hall;simp -dsimp -implicitDefEqProofs only[go_sem,seval,h8,hz,h6,hs];refine⟨hki,by simp -dsimp -implicitDefEqProofs only[go_sem,seval,hwk],by simp -dsimp -implicitDefEqProofs only[go_sem,seval];rw[hall];simp,?_⟩;simp -dsimp -implicitDefEqProofs only[go_sem,seval];exact hO3.le (by omega)
   ·have hki2:k=i:=by omega
    have hki1:=eq_false hki;subst hki2;simp -dsimp -implicitDefEqProofs only[go_sem,seval,hki1,h7]
    have hfi:isFirst x k=(x.steps.take k).all fun z=>decide (z.fr≠s.fr):=by
     unfold isFirst;rw[show x.steps.getD k default=s by simp[List.getD_eq_getElem?_getD,hs]];exact Bool.decide_coe _
    rw[<- hfi];cases hb:isFirst x k
    ·rw[hb]at hsuc;simp only[zG,if_false,List.append_nil]at hsuc;simp -dsimp -implicitDefEqProofs only[go_sem,seval,h6];refine⟨hil,by simp -dsimp -implicitDefEqProofs only[go_sem,seval,hwi],?_⟩;simp -dsimp -implicitDefEqProofs only[go_sem,seval];rw[hsuc];exact hO3.le (by omega)
    ·rw[hb]at hsuc;simp only[if_true]at hsuc;replace hO3:=hO3.le (y:=q3+3+1) (by omega);have v1:=hO3.valOf;have v2:=hO3.r1;simp -dsimp -implicitDefEqProofs only[go_sem,seval,h6,h4,v1,v2];refine zas ((hO3.le (y:=q3+3+1+4) (by omega)).upd (Nat.le_refl _) _) (by omega) (by rw[zbm,List.length_append];omega) (by decide) rfl (rwG_all _ pl_elen _) ?_;intro v hp hO4 hoffs hkeep;have w1:=hO4.valOf
     replace hO4:=zdQ hO4 (show _=rwG Pl.enc (candN p t++firN t x (k+1))by
      rw[hsuc,<- List.append_assoc,zcf];rfl)
     simp -dsimp -implicitDefEqProofs only[go_sem,seval,h6,w1];refine⟨hil,by simp -dsimp -implicitDefEqProofs only[go_sem,seval,hwi],?_⟩;simp -dsimp -implicitDefEqProofs only[go_sem,seval];exact hO4.le (by omega)
  ·have hil2:i=x.steps.length:=by omega
   have hil1:=eq_false hil;rw[hil2]at hO2;rw[show candN p t++firN t x x.steps.length=candN p (t+1)by rw[zdU hx];rfl]at hO2;simp -dsimp -implicitDefEqProofs only[go_sem,seval,h6,hil1,h4];refine⟨hlt,by simp -dsimp -implicitDefEqProofs only[go_sem,seval,hw],?_⟩;simp -dsimp -implicitDefEqProofs only[go_sem,seval];exact hO2.le (by omega)
 ·have ht2:t=p.threads.length:=by omega
  have hlt1:=eq_false hlt;rw[ht2]at hO;have t0:=hO.reify (rwG_norm _ pl_norm _);have t1:=hO.valOf;have t2:=hO.resVal;simp only[Rg.resVal]at t2;simp -dsimp -implicitDefEqProofs only[go_sem,seval,h4,hlt1,t1,t2];exact t0
end Rg
end
section
namespace Rg
open Go
def rowsBo (b:Nat->Bool) (n:Nat):List (List V):=(boolL b n).map fun x=>[V.t (tb x)]
theorem zwl (b:Nat->Bool) (n:Nat):(rowsBo b n).length=n:=by simp[rowsBo,boolL]
theorem zwz (b:Nat->Bool) {n k:Nat} (h:k<n):(rowsBo b n)[k]? =some [V.t (tb (b k))]:=by unfold rowsBo;rw[zJ,zwa h];rfl
theorem zwx (b:Nat->Bool) (n k:Nat):(rowsBo b n).set k [V.t (tb true)]=rowsBo (fun m=>b m||decide (k=m)) n:=by
 refine List.ext_getElem? fun i=> ?_
 unfold rowsBo boolL;rw[List.getElem?_set,List.map_map,List.map_map,zJ,zJ,List.length_map,List.length_range]
 by_cases hi:i<n
 ·rw[List.getElem?_range hi]
  by_cases h:k=i
  ·subst h;simp[hi]
  ·simp[h]
 ·rw[List.getElem?_eq_none (by simpa using hi)]
  by_cases h:k=i
  ·subst h;simp[hi]
  ·simp[h]
theorem zwy (n:Nat):List.replicate n [V.t (tb false)]=rowsBo (fun _=>false) n:=by
 refine List.ext_getElem? fun i=> ?_
 unfold rowsBo boolL;rw[List.map_map,zJ,List.getElem?_replicate]
 by_cases hi:i<n
 ·rw[List.getElem?_range hi,if_pos hi];rfl
 ·rw[List.getElem?_eq_none (by simpa using hi),if_neg hi];rfl
theorem zwK {p:Prog} {l:List Pl} {i:Nat} {x:Pl} (h:l[i]? =some x) (t n:Nat):ptB p (l.take (i+1)) t n=(ptB p (l.take i) t n||(decide (x.1=t)&&decide ((p.stepAt x.1 x.2).fr=n))):=by
 unfold ptB;rw[zae h,List.any_append];simp
theorem zwk (p:Prog) (hp:p.ok) (l:List Pl) (hl:l.length<2^20) (hpl: ∀x∈l,znZ p x) {t:Nat} {y:Thread} (hy:p.threads[t]? =some y):Den Γ G 420 [(.agg [.t (.sl ((p).cells.map (Cell.enc))),.t (.sl ((p).modules.map (Contract.enc))),.t (.sl ((p).locks.map (Lock.enc))),.t (.sl ((p).threads.map (Thread.enc)))]),.t (.sl (l.map Pl.enc)),vi t]=some (.t (boolT (ptB p l t) y.points.toNat)):=by
 obtain⟨_,_,hpt,hsl,_⟩:=ziN hp hy;obtain⟨N,hN⟩: ∃N:Nat,y.points.toNat=N:=⟨_,rfl⟩
 have hPN:y.points=(N:Int):=by omega
 rw[hN]
 (refine den_ofY Γ420 rfl ?_;dsimp only[zw1])
 have c1:((N:Int)<=(N:Int))=True:=eq_true (Int.le_refl _);have c2:((N:Int)<=4294967296)=True:=eq_true (by omega);have hrep:=zwy N;simp -dsimp -implicitDefEqProofs only[go_sem,seval,hy,hPN,c1,c2];refine zaj 35184372023552 l.length (fun i f h z=>(f 8).v=vi i/\h 8=some (.rows 1 (rowsBo (ptB p (l.take i) t) N) false)/\9<=z) rfl ⟨by simp -dsimp -implicitDefEqProofs only[go_sem,seval],by simp -dsimp -implicitDefEqProofs only[go_sem,seval];exact congrArg (fun r=>O.rows 1 r false) hrep,by simp -dsimp -implicitDefEqProofs only[go_sem,seval]⟩ ?_;rintro i f u H q bq hi ⟨h8,hB,hq⟩;have hw:=zah i (by omega);simp -dsimp -implicitDefEqProofs only[go_sem,seval,h8]
 by_cases hlt:i<l.length
 ·have hlt1:=eq_true hlt;obtain⟨x,hx,hxm⟩:=zaf hlt;have hsu:=zwK (p:=p) hx t
  by_cases hxt:x.1=t
  ·have hxt1:((x.1:Int)=(t:Int))=True:=eq_true (by omega);obtain⟨y',hy',hlt2⟩:=hpl x hxm;rw[hxt,hy]at hy';cases hy';have hs:y.steps[x.2]? =some y.steps[x.2]:=zI hlt2
   generalize y.steps[x.2]=s at hs
   have hsa:=zdo hy hs;obtain⟨kf,hkf⟩:=Int.eq_ofNat_of_zero_le (ok_stp hp hy hs).1.1;have hkl:kf<N:=by have:=(ok_stp hp hy hs).1.2;omega
   have hkl1:(kf<N)=True:=eq_true hkl;have hget:=zwz (ptB p (l.take i) t) hkl;have hlb:=zwl (ptB p (l.take i) t) N;have hset:=zwx (ptB p (l.take i) t) N kf;simp -dsimp -implicitDefEqProofs only[go_sem,seval,h8,hlt1,hx,hxt1,hy,hs,hkf,hB,hkl1,hget,hlb];refine⟨hlt,by simp -dsimp -implicitDefEqProofs only[go_sem,seval,hw],?_,by simp -dsimp -implicitDefEqProofs only[go_sem,seval]<;>omega⟩;simp -dsimp -implicitDefEqProofs only[go_sem,seval];refine congrArg (fun r=>O.rows 1 r false) ((hset.trans ?_))
   rw[show(fun m=>ptB p (l.take i) t m||decide (kf=m))=ptB p (l.take (i+1)) t by
    funext m;rw[hsu,decide_eq_true hxt,hxt,hsa,hkf]
    simp only[Bool.true_and]
    congr 1
    exact decide_eq_decide.2 (by omega)]
  ·have hxt1:((x.1:Int)=(t:Int))=False:=eq_false (by omega);simp -dsimp -implicitDefEqProofs only[go_sem,seval,h8,hlt1,hx,hxt1];refine⟨hlt,by simp -dsimp -implicitDefEqProofs only[go_sem,seval,hw],?_,by simp -dsimp -implicitDefEqProofs only[go_sem,seval]<;>omega⟩;simp -dsimp -implicitDefEqProofs only[go_sem,seval];rw[show ptB p (l.take (i+1)) t=ptB p (l.take i) t by funext n;rw[hsu,decide_eq_false hxt];simp];exact hB
 ·have hil:i=l.length:=by omega
  subst hil;have hlt1:=eq_false hlt;rw[List.take_length]at hB;have hlb:=zwl (ptB p l t) N;have tk:(rowsBo (ptB p l t) N).take N=rowsBo (ptB p l t) N:=List.take_of_length_le (by rw[hlb];exact Nat.le_refl _)
  have nm: ∀d,(rowsBo (ptB p l t) N).mapM (fun row=>row.mapM (toT H d))=some ((boolL (ptB p l t) N).map fun x=>[tb x]):=fun d=>by
   have:=zkl H d ((boolL (ptB p l t) N).map fun x=>[tb x]);have e1:((boolL (ptB p l t) N).map fun x=>[tb x]).map (·.map V.t)=rowsBo (ptB p l t) N:=by simp[rowsBo,List.map_map,Function.comp_def]
   have e2:((boolL (ptB p l t) N).map fun x=>[tb x]).map (·.map T.norm)=(boolL (ptB p l t) N).map fun x=>[tb x]:=by simp[List.map_map,Function.comp_def,T.norm]
   rw[e1,e2]at this;exact this
  have le1:(N<=N)=True:=eq_true (Nat.le_refl _);simp -dsimp -implicitDefEqProofs only[go_sem,seval,h8,hlt1,hB,hlb,tk,nm,le1]
theorem zwR (p:Prog) {x:Pl} (hx:znZ p x):Den Γ G 421 [(.agg [.t (.sl ((p).cells.map (Cell.enc))),.t (.sl ((p).modules.map (Contract.enc))),.t (.sl ((p).locks.map (Lock.enc))),.t (.sl ((p).threads.map (Thread.enc)))]),.agg [.t (ti x.1),.t (ti x.2)]]=some (vb true):=by
 obtain⟨y,hy,hlt⟩:=hx;have htl:=(zH.1 hy).1;have k1:((x.1:Int)>=0)=True:=eq_true (by omega);have k2:((x.2:Int)>=0)=True:=eq_true (by omega);have k3:(x.1<p.threads.length)=True:=eq_true htl;have k4:(x.2<y.steps.length)=True:=eq_true hlt
 (refine den_ofY Γ421 rfl ?_;dsimp only[zw0])
 simp -dsimp -implicitDefEqProofs only[go_sem,seval,k1,k2,k3,k4,hy]
def insT (p:Prog) (l:List Pl) (k:Nat):List Thread:=(p.threads.take k).mapIdx fun t x=>x.ins (ptB p l t)
theorem zwN (p:Prog) (l:List Pl) {k:Nat} (h:k<=p.threads.length):(insT p l k).length=k:=by simp[insT];omega
theorem zwI {p:Prog} (l:List Pl) {k:Nat} {x:Thread} (h:p.threads[k]? =some x):insT p l (k+1)=insT p l k++[x.ins (ptB p l k)]:=zhT _ h
theorem zwM {p:Prog} {B:Nat->Nat->Bool} {k:Nat} {x:Thread} (h:p.threads[k]? =some x) (ho:zgW (B k) x=true):zhW B p=true:=by
 unfold zhW;rw[List.any_eq_true];exact⟨(x,k),List.mem_zipIdx_iff_getElem?.2 h,ho⟩
set_option maxHeartbeats 2000000
theorem zwt (p:Prog) (hp:p.ok) (hs:p.sane) (he:p.smE) (l:List Pl) (hl:l.length<2^20) (hpl: ∀x∈l,znZ p x):Den Γ G 408 [(.agg [.t (.sl ((p).cells.map (Cell.enc))),.t (.sl ((p).modules.map (Contract.enc))),.t (.sl ((p).locks.map (Lock.enc))),.t (.sl ((p).threads.map (Thread.enc)))]),.t (.sl (l.map Pl.enc))]=some (.tup [(.agg [.t (.sl (((insM p l).1).cells.map (Cell.enc))),.t (.sl (((insM p l).1).modules.map (Contract.enc))),.t (.sl (((insM p l).1).locks.map (Lock.enc))),.t (.sl (((insM p l).1).threads.map (Thread.enc)))]),vi (insM p l).2]):=by
 obtain⟨⟨b1,b2,b3,b4⟩,b5⟩:=limits_iff.1 (ok_iff.1 hp).lim;have hf:=zh2 p hs;rw[show formedM p=true from decide_eq_true hp]at hf
 (refine den_ofY Γ408 rfl ?_;dsimp only[zw2])
 simp -dsimp -implicitDefEqProofs only[go_sem,seval,hf];refine zaj 268419184 l.length (fun i f h z=>(f 6).v=vi i/\(f 4).v= .lb/\(f 4).box=some [zn,zn,zn,zn]) rfl ⟨by simp -dsimp -implicitDefEqProofs only[go_sem,seval],by simp -dsimp -implicitDefEqProofs only[go_sem,seval],by simp -dsimp -implicitDefEqProofs only[go_sem,seval]⟩ ?_;rintro i f u H q bq hi ⟨h6,h4,h4b⟩;have hw:=zah i (by omega);simp -dsimp -implicitDefEqProofs only[go_sem,seval,h6]
 by_cases hlt:i<l.length
 ·have hlt1:=eq_true hlt;obtain⟨x,hx,hxm⟩:=zaf hlt;have his:=zwR p (hpl x hxm);simp -dsimp -implicitDefEqProofs only[go_sem,seval,h6,hlt1,hx,his];exact⟨hlt,by simp -dsimp -implicitDefEqProofs only[go_sem,seval,hw],by simp -dsimp -implicitDefEqProofs only[go_sem,seval];exact h4,by simp -dsimp -implicitDefEqProofs only[go_sem,seval];exact h4b⟩
 have hlt1:=eq_false hlt;simp -dsimp -implicitDefEqProofs only[go_sem,seval,h6,hlt1]
 refine zaj 295147905144993088432 p.threads.length (fun t f h z=>(f 8).v=vi t/\(f 4).v= .lb/\(f 4).box=some [zn,zn,zn,zn]/\(f 7).v= .lb/\(∀k y,k<t->p.threads[k]? =some y->zgW (ptB p l k) y=false)/\
  ∃vt,(f 7).box=some [.t (.sl (p.cells.map Cell.enc)),.t (.sl (p.modules.map Contract.enc)),.t (.sl (p.locks.map Lock.enc)),vt]/\zdJ h 0 z vt 7 (rwG Thread.enc (insT p l t))) rfl
  ⟨by simp -dsimp -implicitDefEqProofs only[go_sem,seval],by simp -dsimp -implicitDefEqProofs only[go_sem,seval,h4],by simp -dsimp -implicitDefEqProofs only[go_sem,seval,h4b],by simp -dsimp -implicitDefEqProofs only[go_sem,seval],fun k y hk=>by omega,zn,by simp -dsimp -implicitDefEqProofs only[go_sem,seval],zcV⟩ ?_
 clear h6 h4 h4b hw hlt hlt1;rintro t f u H q bq ht ⟨h8,h4,h4b,h7,hov,vt,h7b,hT⟩;have hw:=zah t (by omega);simp -dsimp -implicitDefEqProofs only[go_sem,seval,h8]
 by_cases hlt:t<p.threads.length
 ·have hlt1:=eq_true hlt;obtain⟨x,hx,hxm⟩:=zaf hlt;have hsp:=zwk p hp l hl hpl hx;have hth:=zwp x (ptB p l t) (spl_ok hp he hpl hx);have hpl1:(Thread.ins (ptB p l t) x).points=x.points+cntB (ptB p l t) x.points.toNat:=rfl;have hsl1:(Thread.ins (ptB p l t) x).steps.length=x.steps.length+cntB (ptB p l t) x.points.toNat:=by simp[Thread.ins,zh7]
  simp -dsimp -implicitDefEqProofs only[go_sem,seval,h8,hlt1,hx,hsp,hth]
  by_cases hov1:zgW (ptB p l t) x=true
  ·rw[show insM p l=(zeroP,2)by rw[insM,zwM hx hov1];rfl];simp only[zgW,Bool.or_eq_true,decide_eq_true_eq]at hov1
   by_cases o1:x.points+cntB (ptB p l t) x.points.toNat>48
   ·have o2:=eq_true o1;simp -dsimp -implicitDefEqProofs only[go_sem,seval,hpl1,o2,h4,h4b];exact⟨rfl,rfl,rfl,rfl⟩
   ·have o2:=eq_false o1;have o3:(((x.steps.length+cntB (ptB p l t) x.points.toNat:Nat):Int)>64)=True:=eq_true (by omega);simp -dsimp -implicitDefEqProofs only[go_sem,seval,hpl1,hsl1,o2,o3,h4,h4b];exact⟨rfl,rfl,rfl,rfl⟩
  ·have hov2:zgW (ptB p l t) x=false:=by simpa using hov1
   simp only[zgW,Bool.or_eq_true,decide_eq_true_eq,not_or]at hov1;have o2:(x.points+cntB (ptB p l t) x.points.toNat>48)=False:=eq_false hov1.1;have o3:(((x.steps.length+cntB (ptB p l t) x.points.toNat:Nat):Int)>64)=False:=eq_false (by omega);replace hT:=hT.le (y:=q+5+12+9) (by omega);have v1:=hT.1.valOf;have v2:=hT.1.r1;have hil:=zwN p l (k:=t) (by omega);simp -dsimp -implicitDefEqProofs only[go_sem,seval,hpl1,hsl1,o2,o3,h7,h7b,v1,v2];refine zbt (hT.upd (by omega) _) (by omega) (by omega) (by rw[zbm,hil];omega) (by decide) rfl (rwG_all _ thread_elen _) ?_;intro v hp' H4 e1 hT2 hlow3;rw[za9,e1];clear e1
   replace hT2:=hT2.eq (show _=rwG Thread.enc (insT p l (t+1))by
    rw[zwI l hx,zcf];rfl)
   have w1:=hT2.1.valOf;have w2:=zaW hT2.1;simp only[V.cells]at w2;simp -dsimp -implicitDefEqProofs only[go_sem,seval,h8,h7,h7b,w1,w2];refine⟨hlt,by simp -dsimp -implicitDefEqProofs only[go_sem,seval,hw],by simp -dsimp -implicitDefEqProofs only[go_sem,seval,h4],by simp -dsimp -implicitDefEqProofs only[go_sem,seval,h4b],by simp -dsimp -implicitDefEqProofs only[go_sem,seval,h7],fun k y hk hy=> ?_,v,by simp -dsimp -implicitDefEqProofs only[go_sem,seval],?_⟩
   ·by_cases hkt:k<t
    ·exact hov k y hkt hy
    ·obtain rfl:k=t:=by omega
     rw[hx]at hy;cases hy;exact hov2
   ·simp -dsimp -implicitDefEqProofs only[go_sem,seval];exact hT2.le (by omega)
 ·have htl:t=p.threads.length:=by omega
  subst htl;have hlt1:=eq_false hlt
  have hlim:zhW (ptB p l) p=false:=by
   unfold zhW;rw[List.any_eq_false];intro z hz;rw[List.mem_zipIdx_iff_getElem?]at hz;rw[hov z.2 z.1 (zH.1 hz).1 hz];simp
  rw[show insM p l=(p.ins (ptB p l),0)by rw[insM,hlim];rfl];have tT:=zbu hT.1 (rwG_norm _ thread_norm _);rw[insT,List.take_length]at tT;simp -dsimp -implicitDefEqProofs only[go_sem,seval,h8,hlt1,h7,h7b,h4,h4b,tT];exact⟨rfl,rfl,rfl,rfl⟩
end Rg
end
section
namespace Rg
open Go
theorem zwA (p:Prog) (hp:p.ok) (l:List Pl) (hl:l.length<2^20) (hpl: ∀x∈l,znZ p x):Den Γ G 407 [(.agg [.t (.sl ((p).cells.map (Cell.enc))),.t (.sl ((p).modules.map (Contract.enc))),.t (.sl ((p).locks.map (Lock.enc))),.t (.sl ((p).threads.map (Thread.enc)))]),.t (.sl (l.map Pl.enc))]=some (vi (ptsM p l:Nat)):=by
 obtain⟨⟨b1,b2,b3,b4⟩,b5⟩:=limits_iff.1 (ok_iff.1 hp).lim
 (refine den_ofY Γ407 rfl ?_;dsimp only[zw3])
 simp -dsimp -implicitDefEqProofs only[go_sem,seval];refine zaz 4294967264 p.threads.length (fun t f=>(f 6).v=vi t/\(f 5).v=vi (ptsN p l t:Nat)/\ptsN p l t<=48*t) rfl rfl ⟨by simp -dsimp -implicitDefEqProofs only[go_sem,seval],by simp -dsimp -implicitDefEqProofs only[go_sem,seval];rfl,Nat.le_refl _⟩ ?_;rintro t f u x bs ht ⟨h6,h5,hle⟩;have hw:=zah t (by omega);simp -dsimp -implicitDefEqProofs only[go_sem,seval,h6]
 by_cases hlt:t<p.threads.length
 ·have hlt1:=eq_true hlt;obtain⟨y,hy,hym⟩:=zaf hlt;obtain⟨_,_,hpt,_,_⟩:=ziN hp hy;have hsp:=zwk p hp l hl hpl hy;obtain⟨N,hN⟩: ∃N:Nat,y.points.toNat=N:=⟨_,rfl⟩
  have hbl:=zwj (ptB p l t) N;have hsu:=zwq (l:=l) hy;have hcl:=zcJ (ptB p l t) N;rw[hN]at hsp hsu;simp -dsimp -implicitDefEqProofs only[go_sem,seval,h6,hlt1,hsp];refine zaz 4293919008 N (fun i f=>(f 8).v=vi i/\(f 5).v=vi ((ptsN p l t+cntB (ptB p l t) i:Nat):Int)) rfl rfl ⟨by simp -dsimp -implicitDefEqProofs only[go_sem,seval],by simp -dsimp -implicitDefEqProofs only[go_sem,seval,h5];rfl⟩ ?_;rintro i f2 u2 x2 bs2 hi ⟨h8,h5'⟩;have hwi:=zah i (by omega);have hci:=zcJ (ptB p l t) i;have hw5:=zah (ptsN p l t+cntB (ptB p l t) i) (by omega);simp -dsimp -implicitDefEqProofs only[go_sem,seval,h8]
  by_cases hin:i<N
  ·have hin1:(i<(boolL (ptB p l t) N).length)=True:=eq_true (by omega);have hg:=zwa (b:=ptB p l t) hin;have hcs:=zdB (ptB p l t) i;simp -dsimp -implicitDefEqProofs only[go_sem,seval,h8,hin1,hg];cases hb:ptB p l t i
   ·rw[hb]at hcs;simp -dsimp -implicitDefEqProofs only[go_sem,seval,h8];exact⟨hin,by simp -dsimp -implicitDefEqProofs only[go_sem,seval,hwi],by simp -dsimp -implicitDefEqProofs only[go_sem,seval,h5'];simp[hcs]⟩
   ·rw[hb]at hcs;simp -dsimp -implicitDefEqProofs only[go_sem,seval,h8,h5',hw5];exact⟨hin,by simp -dsimp -implicitDefEqProofs only[go_sem,seval,hwi],by simp -dsimp -implicitDefEqProofs only[go_sem,seval];simp[hcs];omega⟩
  ·have hin2:i=N:=by omega
   subst hin2;have hin1:(i<(boolL (ptB p l t) i).length)=False:=eq_false (by omega);simp -dsimp -implicitDefEqProofs only[go_sem,seval,h8,hin1,h6];exact⟨hlt,by simp -dsimp -implicitDefEqProofs only[go_sem,seval,hw],by simp -dsimp -implicitDefEqProofs only[go_sem,seval,h5'];rw[hsu],by omega⟩
 ·have htl:t=p.threads.length:=by omega
  subst htl;have hlt1:=eq_false hlt;simp -dsimp -implicitDefEqProofs only[go_sem,seval,h6,hlt1,h5];rfl
def allT (t:Nat) (x:Thread):List Pl:=(List.range x.steps.length).map fun i=>(t,i)
def allN (p:Prog) (k:Nat):List Pl:=(p.threads.take k).zipIdx.flatMap fun q=>allT q.2 q.1
def allM (p:Prog):List Pl:=allN p p.threads.length
theorem zwr {p:Prog} {k:Nat} {x:Thread} (h:p.threads[k]? =some x):allN p (k+1)=allN p k++allT k x:=by
 have hn:=(zH.1 h).1;unfold allN;rw[zae h,List.zipIdx_append,List.flatMap_append]
 congr 1
 have:(p.threads.take k).length=k:=by simp;omega
 simp[this]
theorem zwV {p:Prog} {x:Pl} (h:x∈allM p):znZ p x:=by
 unfold allM allN at h;rw[List.take_length,List.mem_flatMap]at h;obtain⟨q,hq,hx⟩:=h;rw[List.mem_zipIdx_iff_getElem?]at hq;simp only[allT,List.mem_map,List.mem_range]at hx;obtain⟨i,hi,rfl⟩:=hx;exact⟨q.1,hq,hi⟩
theorem zwv (t:Nat) (x:Thread):(allT t x).length=x.steps.length:=by simp[allT]
theorem zwo {p:Prog} (h: ∀x∈p.threads,x.steps.length<=64): ∀k,k<=p.threads.length->(allN p k).length<=64*k
 | 0,_=>by simp[allN]
 | k+1,hk=>by
   obtain⟨x,hx,hxm⟩:=zaf (show k<p.threads.length by omega);have h1:=zwo h k (by omega);have h3:=h x hxm;rw[zwr hx,List.length_append,zwv];omega
def placesM (p:Prog) (ks:List Int):List Pl:=if allM p=[]then []else ks.map fun k=>(allM p).getD (k.toNat % (allM p).length) (0,0)
theorem zwE {p:Prog} {ks:List Int}: ∀x∈placesM p ks,znZ p x:=by
 intro x hx;unfold placesM at hx;split at hx
 ·simp at hx
 ·rename_i hne;obtain⟨k,_,rfl⟩:=List.mem_map.1 hx;have hl:0<(allM p).length:=List.length_pos_iff.2 hne;have:=Nat.mod_lt k.toNat hl;rw[List.getD_eq_getElem?_getD,zI this];exact zwV (List.getElem_mem _)
theorem places_len (p:Prog) (ks:List Int):(placesM p ks).length<=ks.length:=by
 unfold placesM;split<;>simp
set_option maxHeartbeats 2000000
theorem zwB (p:Prog) (hp:p.ok) (ks:List Int) (hk: ∀k∈ks,0<=k/\k<256) (hkl:ks.length<2^20):Den Γ G 406 [(.agg [.t (.sl ((p).cells.map (Cell.enc))),.t (.sl ((p).modules.map (Contract.enc))),.t (.sl ((p).locks.map (Lock.enc))),.t (.sl ((p).threads.map (Thread.enc)))]),.t (bytesT ks)]=some (.t (.sl ((placesM p ks).map Pl.enc))):=by
 obtain⟨⟨b1,b2,b3,b4⟩,b5⟩:=limits_iff.1 (ok_iff.1 hp).lim
 (refine den_ofY Γ406 rfl ?_;dsimp only[zw4])
 simp -dsimp -implicitDefEqProofs only[go_sem,seval];refine zaj 17179868384 p.threads.length (fun t f h z=>(f 6).v=vi t/\OwnB h z (f 5).v 2 (rwG Pl.enc (allN p t))) rfl ⟨by simp -dsimp -implicitDefEqProofs only[go_sem,seval],.inl ⟨by simp -dsimp -implicitDefEqProofs only[go_sem,seval],rfl⟩⟩ ?_;rintro t f u H q bq ht ⟨h6,hO⟩;have hw:=zah t (by omega);simp -dsimp -implicitDefEqProofs only[go_sem,seval,h6]
 by_cases hlt:t<p.threads.length
 ·have hlt1:=eq_true hlt;obtain⟨x,hx,hxm⟩:=zaf hlt;have hsl:=(b5 x hxm).2.1;have hcn:=zwo (fun x hx=>(b5 x hx).2.1) t (by omega);simp -dsimp -implicitDefEqProofs only[go_sem,seval,h6,hlt1,hx]
  refine zaj 17179738272 x.steps.length (fun i f h z=>(f 7).v=vi i/\OwnB h z (f 5).v 2 (rwG Pl.enc (allN p t++(allT t x).take i))) rfl
   ⟨by simp -dsimp -implicitDefEqProofs only[go_sem,seval],by simp -dsimp -implicitDefEqProofs only[go_sem,seval];exact hO.le (by omega)⟩ ?_
  rintro i f2 u2 H2 q2 bq2 hi ⟨h7,hO2⟩;have hwi:=zah i (by omega);simp -dsimp -implicitDefEqProofs only[go_sem,seval,h7,h6,hx]
  by_cases hil:i<x.steps.length
  ·have hil1:=eq_true hil;have hat:(allT t x)[i]? =some (t,i):=by unfold allT;rw[zJ,List.getElem?_range hil];rfl
   have hsuc:=zae hat;replace hO2:=hO2.le (y:=q2+9) (by omega);have v1:=hO2.valOf;have v2:=hO2.r1;simp -dsimp -implicitDefEqProofs only[go_sem,seval,h7,h6,hil1,v1,v2];have hlt2:((allT t x).take i).length<=i:=by simp;omega
   refine zas ((hO2.le (y:=q2+9+4) (by omega)).upd (Nat.le_refl _) _) (by omega) (by rw[zbm,List.length_append];omega) (by decide) rfl (rwG_all _ pl_elen _) ?_;intro v hp' hO3 hoffs hkeep;have w1:=hO3.valOf
   replace hO3:=zdQ hO3 (show _=rwG Pl.enc (allN p t++(allT t x).take (i+1))by
    rw[hsuc,<- List.append_assoc,zcf];rfl)
   simp -dsimp -implicitDefEqProofs only[go_sem,seval,h7,w1];refine⟨hil,by simp -dsimp -implicitDefEqProofs only[go_sem,seval,hwi],?_⟩;simp -dsimp -implicitDefEqProofs only[go_sem,seval];exact hO3.le (by omega)
  ·have hil2:i=x.steps.length:=by omega
   have hil1:=eq_false hil;rw[hil2,List.take_of_length_le (by rw[zwv];exact Nat.le_refl _),<- zwr hx]at hO2;simp -dsimp -implicitDefEqProofs only[go_sem,seval,h7,hil1,h6];refine⟨hlt,by simp -dsimp -implicitDefEqProofs only[go_sem,seval,hw],?_⟩;simp -dsimp -implicitDefEqProofs only[go_sem,seval];exact hO2.le (by omega)
 have ht2:t=p.threads.length:=by omega
 have hlt1:=eq_false hlt;have hal:=zwo (fun x hx=>(b5 x hx).2.1) p.threads.length (Nat.le_refl _);rw[ht2]at hO;simp -dsimp -implicitDefEqProofs only[go_sem,seval,h6,hlt1]
 by_cases hne:allM p=[]
 ·rw[show placesM p ks=[]by unfold placesM;rw[if_pos hne]];have hlen:=hO.lenS;rw[zbm,show allN p p.threads.length=allM p from rfl,hne]at hlen;have v1:=hO.valOf;refine zaj 576460735123555072 0 (fun i f h z=>(f 9).v=vi i/\(f 8).v=zn/\h=H) rfl ⟨by simp -dsimp -implicitDefEqProofs only[go_sem,seval],by simp -dsimp -implicitDefEqProofs only[go_sem,seval],by simp -dsimp -implicitDefEqProofs only[go_sem,seval]⟩ ?_;rintro i f2 u2 H2 q2 bq2 hi ⟨h9,h8,rfl⟩;obtain rfl:i=0:=by omega
  simp -dsimp -implicitDefEqProofs only[go_sem,seval,h9]
  by_cases hk0:0<ks.length
  ·have hk1:((0:Int)<(ks.length:Int))=True:=eq_true (by omega);simp -dsimp -implicitDefEqProofs only[go_sem,seval,hk0,hk1,hlen,v1,h8]
  ·have hk1:((0:Int)<(ks.length:Int))=False:=eq_false (by omega);simp -dsimp -implicitDefEqProofs only[go_sem,seval,hk0,hk1,h8]
 ·have hnl:0<(allM p).length:=List.length_pos_iff.2 hne;have hal2:(allM p).length<=256:=by rw[show allM p=allN p p.threads.length from rfl];omega
  rcases hO with⟨_,he⟩ | ⟨k0,hv5,hk0,hh0⟩
  ·exact absurd (by have h1:=congrArg List.length he;rw[zbm]at h1;exact List.length_eq_zero_iff.1 h1) hne
  ·have hpm:placesM p ks=ks.map fun k=>(allM p).getD (k.toNat % (allM p).length) (0,0):=by unfold placesM;rw[if_neg hne]
   rw[hpm];obtain⟨R,hR⟩: ∃R,R=rwG Pl.enc (allM p):=⟨_,rfl⟩
   have hrl:R.length=(allM p).length:=by rw[hR];exact zbm _ _
   rw[show rwG Pl.enc (allN p p.threads.length)=R from hR.symm]at hv5 hh0;rw[hrl]at hv5
   refine zaj 576460735123555072 ks.length (fun i f h z=>(f 9).v=vi i/\q<=z/\(∀j,j<q->h j=H j)/\zdJ h q z (f 8).v 2 (rwG Pl.enc ((ks.take i).map fun k=>(allM p).getD (k.toNat % (allM p).length) (0,0)))) rfl
    ⟨by simp -dsimp -implicitDefEqProofs only[go_sem,seval],by simp -dsimp -implicitDefEqProofs only[go_sem,seval];omega,fun j _=>by simp -dsimp -implicitDefEqProofs only[go_sem,seval],by simp -dsimp -implicitDefEqProofs only[go_sem,seval];exact zcV⟩ ?_
   rintro i f2 u2 H2 q2 bq2 hi ⟨h9,hq,hlow,hZ⟩;have hwi:=zah i (by omega);have hh2:=(hlow k0 (by omega)).trans hh0;simp -dsimp -implicitDefEqProofs only[go_sem,seval,h9]
   by_cases hik:i<ks.length
   ·have hik1:=eq_true hik;obtain⟨k,hk',hkm⟩:=zaf hik;obtain⟨c0,c1⟩:=hk k hkm;have hwk:IntKind.i64.wrap k=k:=zan (by omega);have hgt:(((allM p).length:Int)>0)=True:=eq_true (by omega)
    have hmod:k.tmod ((allM p).length:Int)=((k.toNat % (allM p).length:Nat):Int):=by
     obtain⟨kn,rfl⟩:=Int.eq_ofNat_of_zero_le c0;rw[Int.toNat_natCast];rfl
    have hml:=Nat.mod_lt k.toNat hnl;obtain⟨j,hj⟩: ∃j,j=k.toNat % (allM p).length:=⟨_,rfl⟩
    rw[<- hj]at hmod hml;have hml1:=eq_true hml;have hne0: ¬((allM p).length:Int)=0:=by omega
    obtain⟨z,hz⟩: ∃z,z=(allM p).getD j (0,0):=⟨_,rfl⟩
    have hget:R[j]? =some [V.t (ti z.1),V.t (ti z.2)]:=by
     rw[hR,hz,List.getD_eq_getElem?_getD];unfold rwG;rw[zJ,zJ,zI hml];rfl
    have hsuc:(ks.take (i+1)).map (fun k=>(allM p).getD (k.toNat % (allM p).length) (0,0))=(ks.take i).map (fun k=>(allM p).getD (k.toNat % (allM p).length) (0,0))++[z]:=by
     rw[zae hk',List.map_append,hz,hj];rfl
    replace hZ:=hZ.le (y:=q2+9) (by omega);have v1:=hZ.1.valOf;have v2:=hZ.1.r1;simp -dsimp -implicitDefEqProofs only[go_sem,seval,h9,hik1,hv5,hh2,hgt,hk',hwk,hrl,hmod,hml1,hget,hne0,v1,v2];refine zbt (hZ.upd (by omega) _) (by omega) (by omega) (by rw[zbm];simp;omega) (by decide) rfl (rwG_all _ pl_elen _) ?_;intro v hp' H4 e1 hZ2 hlow3;rw[za9,e1];clear e1;replace hZ2:=hZ2.eq (show _=rwG Pl.enc ((ks.take (i+1)).map fun k=>(allM p).getD (k.toNat % (allM p).length) (0,0))by rw[hsuc,zcf];rfl);have w1:=hZ2.1.valOf;simp -dsimp -implicitDefEqProofs only[go_sem,seval,h9,w1];refine⟨hik,by simp -dsimp -implicitDefEqProofs only[go_sem,seval,hwi],by simp -dsimp -implicitDefEqProofs only[go_sem,seval];omega,fun j hj=> ?_,?_⟩
    ·simp -dsimp -implicitDefEqProofs only[go_sem,seval];rw[hlow3 j hj,zac,if_neg (by omega)];exact hlow j hj
    ·simp -dsimp -implicitDefEqProofs only[go_sem,seval];exact hZ2.le (by omega)
   ·have hil:i=ks.length:=by omega
    subst hil;have hik1:=eq_false hik;rw[List.take_length]at hZ;have t0:=hZ.1.reify (rwG_norm _ pl_norm _);have t1:=hZ.1.valOf;have t2:=hZ.1.resVal;simp only[Rg.resVal]at t2;simp -dsimp -implicitDefEqProofs only[go_sem,seval,h9,hik1,t1,t2];exact t0
end Rg
end
section
-- APPS
set_option maxRecDepth 100000
namespace Rg
open Go
def e31:Expr:=.mk 1 1 1 []
def zs1 (n:UInt8) (t:Int):Thread:=⟨bs [n],3,[e31,e31,e31],[0,0,0],[⟨3,0,1,e31,[⟨t,e31⟩],false,0,0⟩,⟨2,1,2,e31,[⟨2+t,.mk 2 1 (1-t) []⟩],false,0,0⟩],[],false⟩
def exH:Prog:=
 ⟨[⟨bs [77,46,120],1,0,-1,false,0⟩,⟨bs [77,46,121],1,0,-1,false,0⟩,⟨bs [97,46,114],1,0,0,false,0⟩,⟨bs [98,46,114],1,0,1,false,0⟩],[⟨bs [77],bs [111],.mk 0 0 0 [],e31,[0,1]⟩],[],
  [zs1 97 0,zs1 98 1]⟩
set_option maxHeartbeats 4000000
theorem zwn:Den Γ G 412 []=some (.agg [.t (.sl ((exH).cells.map (Cell.enc))),.t (.sl ((exH).modules.map (Contract.enc))),.t (.sl ((exH).locks.map (Lock.enc))),.t (.sl ((exH).threads.map (Thread.enc)))]):=by
 have c1:=zlT 1 1;have c2:=zwu 1 1;have c3:=zwu 0 1
 (refine den_ofY Γ412 rfl ?_;dsimp only[zsY])
 simp -dsimp -implicitDefEqProofs only[go_sem,seval,appS,c1];refine zbg ?_;simp -dsimp -implicitDefEqProofs only[go_sem,seval,appS,c2,Expr.op,Expr.w,Expr.n,Expr.kids];refine zbg ?_;simp -dsimp -implicitDefEqProofs only[go_sem,seval,appS,c3,Expr.op,Expr.w,Expr.n,Expr.kids];refine zbg ?_;simp -dsimp -implicitDefEqProofs only[go_sem,seval,appS];exact⟨rfl,rfl,rfl,rfl⟩
theorem zwP {r:V} {h:Nat->Option O} {vs:List V} {K:V->(Nat->Option O)->Prop} {w:WK K} (hk: ∀h',K r h'):zid (some r) false h vs K w:=by
 unfold zid;simp only;split
 ·exact hk _
 ·exact⟨fun h=>Bool.noConfusion h,hk _⟩
theorem zww:Den Γ G 413 [.t (.sl [[ti 0,ti 1],[ti 1,ti 1]]),.t (.sl [[ti 0,ti 1],[ti 1,ti 1]])]=some (vb true):=by
 (refine den_ofY Γ413 rfl ?_;dsimp only[zsX])
 simp -dsimp -implicitDefEqProofs only[go_sem,seval,appS];refine zbg ?_;simp -dsimp -implicitDefEqProofs only[go_sem,seval,appS,bne_self_eq_false];refine zbg ?_;simp -dsimp -implicitDefEqProofs only[go_sem,seval,appS,bne_self_eq_false];refine zbg ?_;simp -dsimp -implicitDefEqProofs only[go_sem,seval,appS]
theorem zs2:validB exH=true:=by decide+kernel
theorem zug:minM exH 1=some [(0,1),(1,1)]:=by decide+kernel
theorem zuh:minM exH 0=some []:=by decide+kernel
theorem zuf:zhW (ptB exH [(0,1)]) exH=false:=by decide+kernel
theorem zue:robM (exH.ins (ptB exH [(0,1)])) 1=false:=by decide+kernel
theorem exHS:exH.sane:=⟨by decide,by decide,by decide,by decide,by decide+kernel,by decide+kernel,by decide+kernel,by decide+kernel,by decide+kernel⟩
theorem exHT: ∀x∈exH.threads,∀s∈x.steps,s.set.length<2^20:=by decide+kernel
theorem zs4:exH.smE:=⟨by decide+kernel,by decide+kernel,by decide+kernel⟩
theorem exHK:exH.ok:=by have:=zs2;simpa[validB]using this
theorem zs3: ∀x∈[((0,1):Pl)],znZ exH x:=by
 intro x hx;simp only[List.mem_singleton]at hx;subst hx;exact⟨zs1 97 0,rfl,by decide⟩
def zw7:Step:=⟨3,0,1,e31,[⟨0,e31⟩],false,0,0⟩
def zw6:Step:=⟨2,2,3,e31,[⟨2,.mk 2 1 1 []⟩],false,0,0⟩
def zwT:Step:=⟨5,1,2,e31,[],false,0,0⟩
def exX:Thread:=⟨bs [97],4,[e31,e31,e31,e31],[0,0,0,0],[zw7,zw6,zwT],[],false⟩
def exI:Prog:={ exH with threads:=[exX,zs1 98 1] }
set_option maxHeartbeats 4000000
theorem zfK:Den Γ G 401 []=some (vb true):=by
 have h1:=zwn
 have h2:Den Γ G 403 [(.agg [.t (.sl ((exH).cells.map (Cell.enc))),.t (.sl ((exH).modules.map (Contract.enc))),.t (.sl ((exH).locks.map (Lock.enc))),.t (.sl ((exH).threads.map (Thread.enc)))]),vi 1]=some (.tup [.t (.sl [[ti 0,ti 1],[ti 1,ti 1]]),vi 0]):=by
  have:=zcj exH exHS zs4 exHT 1;unfold minR at this;rw[zs2,zug]at this;exact this
 have h3:Den Γ G 403 [(.agg [.t (.sl ((exH).cells.map (Cell.enc))),.t (.sl ((exH).modules.map (Contract.enc))),.t (.sl ((exH).locks.map (Lock.enc))),.t (.sl ((exH).threads.map (Thread.enc)))]),vi 0]=some (.tup [.t (.sl []),vi 0]):=by
  have:=zcj exH exHS zs4 exHT 0;unfold minR at this;rw[zs2,zuh]at this;exact this
 have h4:Den Γ G 404 [(.agg [.t (.sl ((exH).cells.map (Cell.enc))),.t (.sl ((exH).modules.map (Contract.enc))),.t (.sl ((exH).locks.map (Lock.enc))),.t (.sl ((exH).threads.map (Thread.enc)))]),.t (.sl [[ti 0,ti 1]])]=some (.tup [(.agg [.t (.sl ((exI).cells.map (Cell.enc))),.t (.sl ((exI).modules.map (Contract.enc))),.t (.sl ((exI).locks.map (Lock.enc))),.t (.sl ((exI).threads.map (Thread.enc)))]),vi 0]):=by
  have:=zdX exH exHK exHS zs4 [(0,1)] (by decide) zs3;rw[insM,zuf]at this;exact this
 have h5:Den Γ G 289 [(.agg [.t (.sl ((exI).cells.map (Cell.enc))),.t (.sl ((exI).modules.map (Contract.enc))),.t (.sl ((exI).locks.map (Lock.enc))),.t (.sl ((exI).threads.map (Thread.enc)))]),vi 1]=some (vb false):=by
  have:=zcT (exH.ins (ptB exH [(0,1)])) (ins_sane exHK exHS _) (ins_set exHT _) 1;rw[zue]at this;exact this
 have h6:=zww
 (refine den_ofY Γ401 rfl ?_;dsimp only[zsZ])
 simp -dsimp -implicitDefEqProofs only[go_sem,seval,appS,h1,h2,h3,h4];refine zwP fun H=> ?_
 have e1:exI.threads.length=2:=rfl;have e2:exI.threads[0]? =some exX:=rfl;have e3:exX.steps.length=3:=rfl;have e4:exX.points=4:=rfl;have e5:exX.steps[0]? =some zw7:=rfl;have e6:exX.steps[1]? =some zw6:=rfl;have e7:exX.steps[2]? =some zwT:=rfl;have f1:zw7.to=1:=rfl;have f2:zw6.fr=2:=rfl;have f3:zw6.to=3:=rfl;have f4:zwT.kind=5:=rfl;have f5:zwT.fr=1:=rfl;have f6:zwT.to=2:=rfl;simp -dsimp -implicitDefEqProofs only[go_sem,seval,appS,h6,h5,e1,e2,e3,e4,e5,e6,e7,f1,f2,f3,f4,f5,f6]
end Rg
end
section
namespace Rg
open Go
theorem zoS {p:Prog} (h:fewM p=true):p.smE:=by
 simp only[fewM,zF,decide_eq_true_eq,List.all_eq_true]at h;obtain⟨⟨⟨⟨⟨⟨h1,h2⟩,h3⟩,h4⟩,h5⟩,h6⟩,h7⟩:=h;have ht:=zeU h5 (by omega);refine⟨fun m hm=> ?_,fun l hl=> ?_,fun x hx=> ?_⟩
 ·have:=h6 m hm;simp only[zlA,zb5,zF,decide_eq_true_eq]at this;omega
 ·have:=h7 l hl;simp only[zb5,decide_eq_true_eq]at this;omega
 ·obtain⟨a,b,c,d,e⟩:=ht x hx;simp only[fewT,zlz,zoU,zme,zb5,zF,List.all_eq_true,decide_eq_true_eq]at e;refine⟨fun e' he=> ?_,fun s hs=> ?_,fun l hl=> ?_⟩
  ·have:=e.1.2 e' he;omega
  ·have:=e.1.1 s hs;exact⟨by omega,by omega,fun a ha=>by have:=this.2 a ha;omega⟩
  ·have:=e.2 l hl;omega
theorem znh {p:Prog} (h:fewM p=true): ∀x∈p.threads,∀s∈x.steps,s.set.length<2^20:=by
 simp only[fewM,zF,decide_eq_true_eq,List.all_eq_true]at h;obtain⟨⟨⟨⟨⟨⟨h1,h2⟩,h3⟩,h4⟩,h5⟩,h6⟩,h7⟩:=h;intro x hx s hs;obtain⟨a,b,c,d,e⟩:=zeU h5 (by omega) x hx;simp only[fewT,zlz,zoU,zme,zb5,zF,List.all_eq_true,decide_eq_true_eq]at e;have:=e.1.1 s hs;omega
structure Prog.r31 (p:Prog):Prop where
 ok:p.ok
 sane:p.sane
 smE:p.smE
 set: ∀x∈p.threads,∀s∈x.steps,s.set.length<2^20
theorem few_r31 {p:Prog} (hl:p.lite) (hf:fewM p=true) (hg:formedM p=true):p.r31:=
 ⟨by simpa[formedM]using hg,few_sane hl hf,zoS hf,znh hf⟩
theorem Prog.r31.vb {p:Prog} (h:p.r31):validB p=true:=by have:=h.ok;simpa[validB]using this
def tinyM (p:Prog):Bool:=(fewM p&&formedM p)&&decide ((candM p).length<=8)
theorem zio (p:Prog) (hl:p.lite):Den Γ G 402 [(.agg [.t (.sl ((p).cells.map (Cell.enc))),.t (.sl ((p).modules.map (Contract.enc))),.t (.sl ((p).locks.map (Lock.enc))),.t (.sl ((p).threads.map (Thread.enc)))])]=some (vb (tinyM p)):=by
 have h1:=zjz p hl
 (refine den_ofY Γ402 rfl ?_;dsimp only[zrs])
 simp -dsimp -implicitDefEqProofs only[go_sem,seval,h1];unfold tinyM;cases hg:fewM p&&formedM p
 ·simp -dsimp -implicitDefEqProofs only[go_sem,seval];rfl
 ·rw[zF]at hg;have h2:=zjQ p (few_r31 hl hg.1 hg.2).ok;simp -dsimp -implicitDefEqProofs only[go_sem,seval,h2];exact decide_eq_decide.2 (by omega)
theorem zdv {p:Prog} (h:p.r31) {m:Int} (hm:m=0\/m=1\/m=2) {l:List Pl} (hl:minM p m=some l):Den Γ G 403 [(.agg [.t (.sl ((p).cells.map (Cell.enc))),.t (.sl ((p).modules.map (Contract.enc))),.t (.sl ((p).locks.map (Lock.enc))),.t (.sl ((p).threads.map (Thread.enc)))]),vi m]=some (.tup [.t (.sl (l.map Pl.enc)),vi 0]):=by
 have:=zcj p h.sane h.smE h.set m;unfold minR at this;rw[h.vb,show(m==0||m==1||m==2)=true by rcases hm with rfl | rfl | rfl<;>rfl,hl]at this;exact this
theorem zgd {p:Prog} (h:p.r31) {m:Int} (hm:m=0\/m=1\/m=2) (hl:minM p m=none):Den Γ G 403 [(.agg [.t (.sl ((p).cells.map (Cell.enc))),.t (.sl ((p).modules.map (Contract.enc))),.t (.sl ((p).locks.map (Lock.enc))),.t (.sl ((p).threads.map (Thread.enc)))]),vi m]=some (.tup [.t (.sl []),vi 310]):=by
 have:=zcj p h.sane h.smE h.set m;unfold minR at this;rw[h.vb,show(m==0||m==1||m==2)=true by rcases hm with rfl | rfl | rfl<;>rfl,hl]at this;exact this
set_option maxHeartbeats 2000000
end Rg
end
section
namespace Rg
open Go
theorem zt4 (m:Int) (h:0<=m):m.tmod 3=0\/m.tmod 3=1\/m.tmod 3=2:=by
 rw[Int.tmod_eq_emod_of_nonneg h];omega
theorem Prog.r31.rob {p:Prog} (h:p.r31) (B:Nat->Nat->Bool) (m:Int):Den Γ G 289 [(.agg [.t (.sl ((p.ins B).cells.map (Cell.enc))),.t (.sl ((p.ins B).modules.map (Contract.enc))),.t (.sl ((p.ins B).locks.map (Lock.enc))),.t (.sl ((p.ins B).threads.map (Thread.enc)))]),vi m]=some (.t (tb (robM (p.ins B) m))):=
 zcT (p.ins B) (ins_sane h.ok h.sane B) (ins_set h.set B) m
set_option maxHeartbeats 4000000
end Rg
end
