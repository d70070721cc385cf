/- Part of the proof of laws of relyguardlaw31. No condition. -/
import Derived.Test.YtcmeofagpechdaaGreatDoorRartBE
import Derived.Test.YtcmeofagpechdaaGreatDoorRartBC
import Derived.Test.YtcmeofagpechdaaGreatDoorRartBD
import Derived.Test.YtcmeofagpechdaaGreatDoorRartAZ
set_option linter.unusedSimpArgs false
set_option linter.unusedVariables false
section
namespace Rg
open Go
theorem zAg {l:List Int} (h:l.Pairwise (· < ·)):rising l=true:=by
 refine zfq fun j hj=> ?_
 rw[List.pairwise_iff_getElem]at h;have:=h j (j+1) (by omega) hj (by omega);simpa[List.getD_eq_getElem?_getD,zI hj,zI (show j<l.length by omega)]using this
theorem zAU {p:Prog} {B:Nat->Nat->Bool} (i:Nat) (nm:ByteArray):((p.ins B).threads.take i).any (fun d=>d.name.toList==nm.toList)=(p.threads.take i).any (fun d=>d.name.toList==nm.toList):=by
 have h: ∀(l:List Thread) (f:Nat->Thread->Thread),(∀k x,(f k x).name=x.name)->((l.mapIdx f).take i).any (fun d=>d.name.toList==nm.toList)=(l.take i).any (fun d=>d.name.toList==nm.toList):=by
  intro l f hf
  have e:((l.mapIdx f).take i).map (fun d=>d.name.toList)=(l.take i).map (fun d=>d.name.toList):=by
   refine List.ext_getElem? fun j=> ?_
   rw[zJ,zJ,List.getElem?_take,List.getElem?_take];split
   ·rw[List.getElem?_mapIdx]
    cases l[j]? with
    | none=>rfl
    | some y=>simp[hf]
   ·rfl
  have g: ∀m:List Thread,m.any (fun d=>d.name.toList==nm.toList)=(m.map fun d=>d.name.toList).any (fun z=>z==nm.toList):=by intro m;rw[List.any_map];rfl
  rw[g,g,e]
 exact h _ _ fun _ _=>rfl
theorem zz8 {p:Prog} {B:Nat->Nat->Bool} (k:Int):zbS (p.ins B) k=zbS p k:=by
 unfold zbS
 cases h:p.threads[k.toNat]? with
 | none=>
   have:(p.ins B).threads[k.toNat]? =none:=by
    rw[List.getElem?_eq_none_iff]at h⊢;rw[zxv];exact h
   rw[this]
 | some x=>rw[insP_get h];rfl
theorem zAO {p:Prog} {B:Nat->Nat->Bool} (b:Nat->Bool) (t:Int) (s:Step):kindOk (p.ins B) t (s.ins b)=kindOk p t s:=by
 have h1:joinOk (p.ins B) t (s.ins b)=joinOk p t s:=by
  unfold joinOk;rw[zxv];rfl
 unfold kindOk;rw[h1,zz8];rfl
def zzs (p:Prog) (B:Nat->Nat->Bool):Prop:= ∀(t:Nat) (x:Thread) (n:Nat),p.threads[t]? =some x->n<x.points.toNat->B t n=true-> ∃(i:Nat) (s:Step),x.steps[i]? =some s/\s.fr=n
theorem zAW {p:Prog} (hok:p.ok) {B:Nat->Nat->Bool} (hl:zhW B p=false) (hB:zzs p B):(p.ins B).ok:=by
 have R:=ok_iff.1 hok;obtain⟨⟨l1,l2,l3,l4⟩,l5⟩:=limits_iff.1 R.lim
 have hov: ∀{t:Nat} {x:Thread},p.threads[t]? =some x->x.points+cntB (B t) x.points.toNat<=48/\(x.steps.length:Int)+cntB (B t) x.points.toNat<=64:=by
  intro t x hx;have:=(List.any_eq_false.1 hl) (x,t) (List.mem_zipIdx_iff_getElem?.2 hx);simp only[zgW,Bool.or_eq_true,decide_eq_true_eq,not_or]at this;omega
 refine ok_iff.2 ⟨limits_iff.2 ⟨⟨l1,l2,l3,by rw[zxv];exact l4⟩,fun y hy=> ?_⟩,fun i c hc=> ?_,fun i m hm=>R.modules i m hm,fun i l hl=>R.locks i l hl,fun t y hy=> ?_⟩
 ·obtain⟨t,x,hx,rfl⟩:=zlk hy;have h1:=hov hx;have h2:=l5 x (List.mem_of_getElem? hx);refine⟨h1.1,?_,?_⟩
  ·show(x.steps.map (Step.ins (B t))++(fencedL (B t) x.points.toNat).map (fenceS (B t) x)).length<=64;rw[List.length_append,List.length_map,List.length_map,zh7];omega
  ·show(x.loops.map (Loop.ins (B t) x.points.toNat)).length<=8;rw[List.length_map];exact h2.2.2
 ·have:=cellErr_iff.1 (R.cells i c hc);refine cellErr_iff.2 ⟨?_,this.2⟩;have h1:=this.1;unfold zaY at h1⊢;rw[zxv];exact h1
 ·obtain⟨x,hx,rfl⟩:=zy1 hy;obtain⟨r1,r2,r3,r4,r5,r6,r7⟩:=threadErr_iff.1 (R.threads t x hx);obtain⟨k1,k2,k3,k4,k5⟩:=ziN hok hx;obtain⟨N,hN⟩: ∃N:Nat,x.points.toNat=N:=⟨_,rfl⟩
  have hPN:x.points=(N:Int):=by omega
  have hpt:(x.ins (B t)).points=((newB (B t) N:Nat):Int):=by
   show x.points+cntB (B t) x.points.toNat=_;unfold newB;rw[hN];omega
  have hlast:newB (B t) (N-1)+1<=newB (B t) N:=by have:=zoF (b:=B t) (show N-1<N by omega);split at this<;>omega
  have hov': ∀e sh,overOk (p.ins B) e sh t=overOk p e sh t:=fun _ _=>rfl
  refine threadErr_iff.2 ⟨r1,by rw[zAU];exact r2,⟨by rw[hpt];unfold newB;omega,?_,?_⟩,?_,?_,fun j s hs=> ?_,fun j l hl=> ?_⟩
  ·rw[hpt];show((dupL (B t) x.asserts).length:Int)=_;rw[ze3,k1,hN]
  ·rw[hpt];show((dupL (B t) x.modules).length:Int)=_;rw[ze3,k2,hN]
  ·rw[List.all_eq_true]at r4⊢;exact fun m hm=>r4 m (dupL_mem.1 hm)
  ·rw[List.all_eq_true]at r5⊢;exact fun e he=>r5 e (dupL_mem.1 he)
  ·rcases zA6 hs with⟨_,s0,hs0,rfl⟩ | ⟨_,f,hf,hb,rfl⟩
   ·obtain⟨q1,q2,q3,q4⟩:=stepErr_iff.1 (r6 j s0 hs0);obtain⟨⟨a1,a2⟩,⟨a3,a4⟩,a5⟩:=ok_stp hok hx hs0;refine stepErr_iff.2 ⟨?_,q2,q3,?_⟩
    ·have e1:inR (s0.ins (B t)).fr ((x.ins (B t)).points-1)=true:=by
      rw[hpt,zBr];have h1:=zoF (b:=B t) (show s0.fr.toNat<N-1 by omega);unfold inR;exact decide_eq_true (by split at h1<;>split<;>simp_all<;>omega)
     have e2:inR (s0.ins (B t)).to (x.ins (B t)).points=true:=by
      rw[hpt,zBq];have h1:=zoF (b:=B t) (show s0.to.toNat<N by omega);unfold inR;exact decide_eq_true (by split at h1<;>omega)
     unfold zbl at q1⊢;rw[e1,e2];simp only[Bool.or_eq_false_iff]at q1⊢;exact⟨⟨⟨⟨⟨q1.1.1.1.1.1,rfl⟩,rfl⟩,q1.1.1.2⟩,q1.1.2⟩,q1.2⟩
    ·rw[zAO];exact q4
   ·obtain⟨i0,s0,hs0,hfr⟩:=hB t x f hx (by omega) hb;obtain⟨j0,s1,hj1,hj2,hj3⟩:=zlp hs0 hfr;obtain⟨⟨a1,a2⟩,_,_⟩:=ok_stp hok hx hs0;have hmod:=(ok_stp hok hx hj2).2.2;have h1:=zoF (b:=B t) (show f<N-1 by omega);rw[hb]at h1;simp only[if_true]at h1;have htr:=zAi p false t;unfold truthOk at htr;rw[zF,zF]at htr;refine stepErr_iff.2 ⟨?_,⟨htr.1.1,rfl⟩,fun j a h=>by simp[fenceS]at h,rfl⟩
    have e1:inR (fenceS (B t) x f).fr ((x.ins (B t)).points-1)=true:=by
     rw[hpt,zBt];unfold inR;exact decide_eq_true (by omega)
    have e2:inR (fenceS (B t) x f).to (x.ins (B t)).points=true:=by
     rw[hpt,zBs];unfold inR;exact decide_eq_true (by omega)
    have e3:inR (fenceS (B t) x f).module (p.ins B).modules.length=true:=by
     show inR (firstS x f).module p.modules.length=true;rw[show firstS x f=s1 from hj3.symm];exact hmod
    unfold zbl;rw[e1,e2,e3];rfl
  ·have hl':(x.loops.map (Loop.ins (B t) x.points.toNat))[j]? =some l:=hl;rw[zJ,zE]at hl';obtain⟨l0,hl0,rfl⟩:=hl';obtain⟨⟨q1,q2,q3⟩,q4,q5⟩:=loopErr_iff.1 (r7 j l0 hl0);obtain⟨⟨a1,a2⟩,a3,a4⟩:=ok_loop hok hx hl0;obtain⟨kh,hkh⟩:=Int.eq_ofNat_of_zero_le a1;rw[hN];have hhd:(l0.ins (B t) N).head=((newB (B t) kh:Nat):Int):=by show newI (B t) l0.head=_;unfold newI;rw[hkh];rfl
   refine loopErr_iff.2 ⟨⟨?_,zAg (loopBN_pair _ _ _),?_⟩,q4,q5⟩
   ·rw[hhd,hpt];have h1:=zoF (b:=B t) (show kh<N by omega);unfold inR;exact decide_eq_true (by split at h1<;>omega)
   ·rw[List.all_eq_true];intro z hz;obtain⟨k,hk,hz'⟩:=zfC.1 (show z∈loopBN (B t) l0 N from hz);have h1:=zoF (b:=B t) hk;rw[hhd,hpt];rw[zF,decide_eq_true_eq];rcases hz' with⟨h2,rfl⟩ | ⟨h2,h3,rfl⟩
    ·refine⟨?_,fun he=> ?_⟩
     ·unfold inR;exact decide_eq_true (by split at h1<;>omega)
     ·have e1:=zBn (Int.ofNat.inj he);exact(a4 _ h2).2 (by rw[hkh,e1])
    ·rw[h2]at h1;simp only[if_true]at h1;refine⟨?_,fun he=> ?_⟩
     ·unfold inR;exact decide_eq_true (by omega)
     ·exact zAL (g:=kh) h2 (by omega)
end Rg
end
section
namespace Rg
open Go
def allT (t:Nat) (x:Thread):List Pl:=(List.range x.steps.length).map fun i=>(t,i)
def allN (p:Prog) (k:Nat):List Pl:=(p.threads.take k).zipIdx.flatMap fun q=>allT q.2 q.1
def allM (p:Prog):List Pl:=allN p p.threads.length
theorem zwr {p:Prog} {k:Nat} {x:Thread} (h:p.threads[k]? =some x):allN p (k+1)=allN p k++allT k x:=by
 have hn:=(zH.1 h).1;unfold allN;rw[zae h,List.zipIdx_append,List.flatMap_append]
 congr 1
 have:(p.threads.take k).length=k:=by simp;omega
 simp[this]
theorem zwV {p:Prog} {x:Pl} (h:x∈allM p):znZ p x:=by
 unfold allM allN at h;rw[List.take_length,List.mem_flatMap]at h;obtain⟨q,hq,hx⟩:=h;rw[List.mem_zipIdx_iff_getElem?]at hq;simp only[allT,List.mem_map,List.mem_range]at hx;obtain⟨i,hi,rfl⟩:=hx;exact⟨q.1,hq,hi⟩
theorem zwv (t:Nat) (x:Thread):(allT t x).length=x.steps.length:=by simp[allT]
theorem zwo {p:Prog} (h: ∀x∈p.threads,x.steps.length<=64): ∀k,k<=p.threads.length->(allN p k).length<=64*k
 | 0,_=>by simp[allN]
 | k+1,hk=>by
   obtain⟨x,hx,hxm⟩:=zaf (show k<p.threads.length by omega);have h1:=zwo h k (by omega);have h3:=h x hxm;rw[zwr hx,List.length_append,zwv];omega
def placesM (p:Prog) (ks:List Int):List Pl:=if allM p=[]then []else ks.map fun k=>(allM p).getD (k.toNat % (allM p).length) (0,0)
theorem zwE {p:Prog} {ks:List Int}: ∀x∈placesM p ks,znZ p x:=by
 intro x hx;unfold placesM at hx;split at hx
 ·simp at hx
 ·rename_i hne;obtain⟨k,_,rfl⟩:=List.mem_map.1 hx;have hl:0<(allM p).length:=List.length_pos_iff.2 hne;have:=Nat.mod_lt k.toNat hl;rw[List.getD_eq_getElem?_getD,zI this];exact zwV (List.getElem_mem _)
theorem places_len (p:Prog) (ks:List Int):(placesM p ks).length<=ks.length:=by
 unfold placesM;split<;>simp
set_option maxHeartbeats 2000000
theorem zwB (p:Prog) (hp:p.ok) (ks:List Int) (hk: ∀k∈ks,0<=k/\k<256) (hkl:ks.length<2^20):Den Γ G 406 [(.agg [.t (.sl ((p).cells.map (Cell.enc))),.t (.sl ((p).modules.map (Contract.enc))),.t (.sl ((p).locks.map (Lock.enc))),.t (.sl ((p).threads.map (Thread.enc)))]),.t (bytesT ks)]=some (.t (.sl ((placesM p ks).map Pl.enc))):=by
 obtain⟨⟨b1,b2,b3,b4⟩,b5⟩:=limits_iff.1 (ok_iff.1 hp).lim
 (refine den_ofY Γ406 rfl ?_;dsimp only[zw4])
 simp -dsimp -implicitDefEqProofs only[go_sem,seval];refine zaj 17179868384 p.threads.length (fun t f h z=>(f 6).v=vi t/\zxp h z (f 5).v 2 (rwG Pl.enc (allN p t))) rfl ⟨by simp -dsimp -implicitDefEqProofs only[go_sem,seval],.inl ⟨by simp -dsimp -implicitDefEqProofs only[go_sem,seval],rfl⟩⟩ ?_;rintro t f u H q bq ht ⟨h6,hO⟩;have hw:=zah t (by omega);simp -dsimp -implicitDefEqProofs only[go_sem,seval,h6]
 by_cases hlt:t<p.threads.length
 ·have hlt1:=eq_true hlt;obtain⟨x,hx,hxm⟩:=zaf hlt;have hsl:=(b5 x hxm).2.1;have hcn:=zwo (fun x hx=>(b5 x hx).2.1) t (by omega);simp -dsimp -implicitDefEqProofs only[go_sem,seval,h6,hlt1,hx]
  refine zaj 17179738272 x.steps.length (fun i f h z=>(f 7).v=vi i/\zxp h z (f 5).v 2 (rwG Pl.enc (allN p t++(allT t x).take i))) rfl
   ⟨by simp -dsimp -implicitDefEqProofs only[go_sem,seval],by simp -dsimp -implicitDefEqProofs only[go_sem,seval];exact hO.le (by omega)⟩ ?_
  rintro i f2 u2 H2 q2 bq2 hi ⟨h7,hO2⟩;have hwi:=zah i (by omega);simp -dsimp -implicitDefEqProofs only[go_sem,seval,h7,h6,hx]
  by_cases hil:i<x.steps.length
  ·have hil1:=eq_true hil;have hat:(allT t x)[i]? =some (t,i):=by unfold allT;rw[zJ,List.getElem?_range hil];rfl
   have hsuc:=zae hat;replace hO2:=hO2.le (y:=q2+9) (by omega);have v1:=hO2.valOf;have v2:=hO2.r1;simp -dsimp -implicitDefEqProofs only[go_sem,seval,h7,h6,hil1,v1,v2];have hlt2:((allT t x).take i).length<=i:=by simp;omega
   refine zas ((hO2.le (y:=q2+9+4) (by omega)).upd (Nat.le_refl _) _) (by omega) (by rw[zbm,List.length_append];omega) (by decide) rfl (rwG_all _ pl_elen _) ?_;intro v hp' hO3 hoffs hkeep;have w1:=hO3.valOf
   replace hO3:=zdQ hO3 (show _=rwG Pl.enc (allN p t++(allT t x).take (i+1))by
    rw[hsuc,<- List.append_assoc,zcf];rfl)
   simp -dsimp -implicitDefEqProofs only[go_sem,seval,h7,w1];refine⟨hil,by simp -dsimp -implicitDefEqProofs only[go_sem,seval,hwi],?_⟩;simp -dsimp -implicitDefEqProofs only[go_sem,seval];exact hO3.le (by omega)
  ·have hil2:i=x.steps.length:=by omega
   have hil1:=eq_false hil;rw[hil2,List.take_of_length_le (by rw[zwv];exact Nat.le_refl _),<- zwr hx]at hO2;simp -dsimp -implicitDefEqProofs only[go_sem,seval,h7,hil1,h6];refine⟨hlt,by simp -dsimp -implicitDefEqProofs only[go_sem,seval,hw],?_⟩;simp -dsimp -implicitDefEqProofs only[go_sem,seval];exact hO2.le (by omega)
 have ht2:t=p.threads.length:=by omega
 have hlt1:=eq_false hlt;have hal:=zwo (fun x hx=>(b5 x hx).2.1) p.threads.length (Nat.le_refl _);rw[ht2]at hO;simp -dsimp -implicitDefEqProofs only[go_sem,seval,h6,hlt1]
 by_cases hne:allM p=[]
 ·rw[show placesM p ks=[]by unfold placesM;rw[if_pos hne]];have hlen:=hO.lenS;rw[zbm,show allN p p.threads.length=allM p from rfl,hne]at hlen;have v1:=hO.valOf;refine zaj 576460735123555072 0 (fun i f h z=>(f 9).v=vi i/\(f 8).v=zn/\h=H) rfl ⟨by simp -dsimp -implicitDefEqProofs only[go_sem,seval],by simp -dsimp -implicitDefEqProofs only[go_sem,seval],by simp -dsimp -implicitDefEqProofs only[go_sem,seval]⟩ ?_;rintro i f2 u2 H2 q2 bq2 hi ⟨h9,h8,rfl⟩;obtain rfl:i=0:=by omega
  simp -dsimp -implicitDefEqProofs only[go_sem,seval,h9]
  by_cases hk0:0<ks.length
  ·have hk1:((0:Int)<(ks.length:Int))=True:=eq_true (by omega);simp -dsimp -implicitDefEqProofs only[go_sem,seval,hk0,hk1,hlen,v1,h8]
  ·have hk1:((0:Int)<(ks.length:Int))=False:=eq_false (by omega);simp -dsimp -implicitDefEqProofs only[go_sem,seval,hk0,hk1,h8]
 ·have hnl:0<(allM p).length:=List.length_pos_iff.2 hne;have hal2:(allM p).length<=256:=by rw[show allM p=allN p p.threads.length from rfl];omega
  rcases hO with⟨_,he⟩ | ⟨k0,hv5,hk0,hh0⟩
  ·exact absurd (by have h1:=congrArg List.length he;rw[zbm]at h1;exact List.length_eq_zero_iff.1 h1) hne
  ·have hpm:placesM p ks=ks.map fun k=>(allM p).getD (k.toNat % (allM p).length) (0,0):=by unfold placesM;rw[if_neg hne]
   rw[hpm];obtain⟨R,hR⟩: ∃R,R=rwG Pl.enc (allM p):=⟨_,rfl⟩
   have hrl:R.length=(allM p).length:=by rw[hR];exact zbm _ _
   rw[show rwG Pl.enc (allN p p.threads.length)=R from hR.symm]at hv5 hh0;rw[hrl]at hv5
   refine zaj 576460735123555072 ks.length (fun i f h z=>(f 9).v=vi i/\q<=z/\(∀j,j<q->h j=H j)/\zdJ h q z (f 8).v 2 (rwG Pl.enc ((ks.take i).map fun k=>(allM p).getD (k.toNat % (allM p).length) (0,0)))) rfl
    ⟨by simp -dsimp -implicitDefEqProofs only[go_sem,seval],by simp -dsimp -implicitDefEqProofs only[go_sem,seval];omega,fun j _=>by simp -dsimp -implicitDefEqProofs only[go_sem,seval],by simp -dsimp -implicitDefEqProofs only[go_sem,seval];exact zcV⟩ ?_
   rintro i f2 u2 H2 q2 bq2 hi ⟨h9,hq,hlow,hZ⟩;have hwi:=zah i (by omega);have hh2:=(hlow k0 (by omega)).trans hh0;simp -dsimp -implicitDefEqProofs only[go_sem,seval,h9]
   by_cases hik:i<ks.length
   ·have hik1:=eq_true hik;obtain⟨k,hk',hkm⟩:=zaf hik;obtain⟨c0,c1⟩:=hk k hkm;have hwk:IntKind.i64.wrap k=k:=zan (by omega);have hgt:(((allM p).length:Int)>0)=True:=eq_true (by omega)
    have hmod:k.tmod ((allM p).length:Int)=((k.toNat % (allM p).length:Nat):Int):=by
     obtain⟨kn,rfl⟩:=Int.eq_ofNat_of_zero_le c0;rw[Int.toNat_natCast];rfl
    have hml:=Nat.mod_lt k.toNat hnl;obtain⟨j,hj⟩: ∃j,j=k.toNat % (allM p).length:=⟨_,rfl⟩
    rw[<- hj]at hmod hml;have hml1:=eq_true hml;have hne0: ¬((allM p).length:Int)=0:=by omega
    obtain⟨z,hz⟩: ∃z,z=(allM p).getD j (0,0):=⟨_,rfl⟩
    have hget:R[j]? =some [V.t (ti z.1),V.t (ti z.2)]:=by
     rw[hR,hz,List.getD_eq_getElem?_getD];unfold rwG;rw[zJ,zJ,zI hml];rfl
    have hsuc:(ks.take (i+1)).map (fun k=>(allM p).getD (k.toNat % (allM p).length) (0,0))=(ks.take i).map (fun k=>(allM p).getD (k.toNat % (allM p).length) (0,0))++[z]:=by
     rw[zae hk',List.map_append,hz,hj];rfl
    replace hZ:=hZ.le (y:=q2+9) (by omega);have v1:=hZ.1.valOf;have v2:=hZ.1.r1;simp -dsimp -implicitDefEqProofs only[go_sem,seval,h9,hik1,hv5,hh2,hgt,hk',hwk,hrl,hmod,hml1,hget,hne0,v1,v2];refine zbt (hZ.upd (by omega) _) (by omega) (by omega) (by rw[zbm];simp;omega) (by decide) rfl (rwG_all _ pl_elen _) ?_;intro v hp' H4 e1 hZ2 hlow3;rw[za9,e1];clear e1;replace hZ2:=hZ2.eq (show _=rwG Pl.enc ((ks.take (i+1)).map fun k=>(allM p).getD (k.toNat % (allM p).length) (0,0))by rw[hsuc,zcf];rfl);have w1:=hZ2.1.valOf;simp -dsimp -implicitDefEqProofs only[go_sem,seval,h9,w1];refine⟨hik,by simp -dsimp -implicitDefEqProofs only[go_sem,seval,hwi],by simp -dsimp -implicitDefEqProofs only[go_sem,seval];omega,fun j hj=> ?_,?_⟩
    ·simp -dsimp -implicitDefEqProofs only[go_sem,seval];rw[hlow3 j hj,zac,if_neg (by omega)];exact hlow j hj
    ·simp -dsimp -implicitDefEqProofs only[go_sem,seval];exact hZ2.le (by omega)
   ·have hil:i=ks.length:=by omega
    subst hil;have hik1:=eq_false hik;rw[List.take_length]at hZ;have t0:=hZ.1.reify (rwG_norm _ pl_norm _);have t1:=hZ.1.valOf;have t2:=hZ.1.resVal;simp only[Rg.resVal]at t2;simp -dsimp -implicitDefEqProofs only[go_sem,seval,h9,hik1,t1,t2];exact t0
end Rg
end
section
-- APPS
set_option maxRecDepth 100000
namespace Rg
open Go
def e31:Expr:=.mk 1 1 1 []
def zs1 (n:UInt8) (t:Int):Thread:=⟨bs [n],3,[e31,e31,e31],[0,0,0],[⟨3,0,1,e31,[⟨t,e31⟩],false,0,0⟩,⟨2,1,2,e31,[⟨2+t,.mk 2 1 (1-t) []⟩],false,0,0⟩],[],false⟩
def exH:Prog:=
 ⟨[⟨bs [77,46,120],1,0,-1,false,0⟩,⟨bs [77,46,121],1,0,-1,false,0⟩,⟨bs [97,46,114],1,0,0,false,0⟩,⟨bs [98,46,114],1,0,1,false,0⟩],[⟨bs [77],bs [111],.mk 0 0 0 [],e31,[0,1]⟩],[],
  [zs1 97 0,zs1 98 1]⟩
set_option maxHeartbeats 4000000
theorem zwn:Den Γ G 412 []=some (.agg [.t (.sl ((exH).cells.map (Cell.enc))),.t (.sl ((exH).modules.map (Contract.enc))),.t (.sl ((exH).locks.map (Lock.enc))),.t (.sl ((exH).threads.map (Thread.enc)))]):=by
 have c1:=zlT 1 1;have c2:=zwu 1 1;have c3:=zwu 0 1
 (refine den_ofY Γ412 rfl ?_;dsimp only[zsY])
 simp -dsimp -implicitDefEqProofs only[go_sem,seval,appS,c1];refine zbg ?_;simp -dsimp -implicitDefEqProofs only[go_sem,seval,appS,c2,Expr.op,Expr.w,Expr.n,Expr.kids];refine zbg ?_;simp -dsimp -implicitDefEqProofs only[go_sem,seval,appS,c3,Expr.op,Expr.w,Expr.n,Expr.kids];refine zbg ?_;simp -dsimp -implicitDefEqProofs only[go_sem,seval,appS];exact⟨rfl,rfl,rfl,rfl⟩
theorem zww:Den Γ G 413 [.t (.sl [[ti 0,ti 1],[ti 1,ti 1]]),.t (.sl [[ti 0,ti 1],[ti 1,ti 1]])]=some (vb true):=by
 (refine den_ofY Γ413 rfl ?_;dsimp only[zsX])
 simp -dsimp -implicitDefEqProofs only[go_sem,seval,appS];refine zbg ?_;simp -dsimp -implicitDefEqProofs only[go_sem,seval,appS,bne_self_eq_false];refine zbg ?_;simp -dsimp -implicitDefEqProofs only[go_sem,seval,appS,bne_self_eq_false];refine zbg ?_;simp -dsimp -implicitDefEqProofs only[go_sem,seval,appS]
theorem zs2:validB exH=true:=by decide+kernel
theorem exHS:exH.sane:=⟨by decide,by decide,by decide,by decide,by decide+kernel,by decide+kernel,by decide+kernel,by decide+kernel,by decide+kernel⟩
theorem zs4:exH.smE:=⟨by decide+kernel,by decide+kernel,by decide+kernel⟩
theorem exHK:exH.ok:=by have:=zs2;simpa[validB]using this
def zw7:Step:=⟨3,0,1,e31,[⟨0,e31⟩],false,0,0⟩
def zw6:Step:=⟨2,2,3,e31,[⟨2,.mk 2 1 1 []⟩],false,0,0⟩
def zwT:Step:=⟨5,1,2,e31,[],false,0,0⟩
def exX:Thread:=⟨bs [97],4,[e31,e31,e31,e31],[0,0,0,0],[zw7,zw6,zwT],[],false⟩
def exI:Prog:={ exH with threads:=[exX,zs1 98 1] }
set_option maxHeartbeats 4000000
end Rg
end
section
namespace Rg
open Go
theorem zoS {p:Prog} (h:fewM p=true):p.smE:=by
 simp only[fewM,zF,decide_eq_true_eq,List.all_eq_true]at h;obtain⟨⟨⟨⟨⟨⟨h1,h2⟩,h3⟩,h4⟩,h5⟩,h6⟩,h7⟩:=h;have ht:=zeU h5 (by omega);refine⟨fun m hm=> ?_,fun l hl=> ?_,fun x hx=> ?_⟩
 ·have:=h6 m hm;simp only[zlA,zb5,zF,decide_eq_true_eq]at this;omega
 ·have:=h7 l hl;simp only[zb5,decide_eq_true_eq]at this;omega
 ·obtain⟨a,b,c,d,e⟩:=ht x hx;simp only[fewT,zlz,zoU,zme,zb5,zF,List.all_eq_true,decide_eq_true_eq]at e;refine⟨fun e' he=> ?_,fun s hs=> ?_,fun l hl=> ?_⟩
  ·have:=e.1.2 e' he;omega
  ·have:=e.1.1 s hs;exact⟨by omega,by omega,fun a ha=>by have:=this.2 a ha;omega⟩
  ·have:=e.2 l hl;omega
theorem znh {p:Prog} (h:fewM p=true): ∀x∈p.threads,∀s∈x.steps,s.set.length<2^20:=by
 simp only[fewM,zF,decide_eq_true_eq,List.all_eq_true]at h;obtain⟨⟨⟨⟨⟨⟨h1,h2⟩,h3⟩,h4⟩,h5⟩,h6⟩,h7⟩:=h;intro x hx s hs;obtain⟨a,b,c,d,e⟩:=zeU h5 (by omega) x hx;simp only[fewT,zlz,zoU,zme,zb5,zF,List.all_eq_true,decide_eq_true_eq]at e;have:=e.1.1 s hs;omega
structure Prog.r31 (p:Prog):Prop where
 ok:p.ok
 sane:p.sane
 smE:p.smE
 set: ∀x∈p.threads,∀s∈x.steps,s.set.length<2^20
theorem zAt {p:Prog} (hl:p.lite) (hf:fewM p=true) (hg:formedM p=true):p.r31:=
 ⟨by simpa[formedM]using hg,few_sane hl hf,zoS hf,znh hf⟩
set_option maxHeartbeats 2000000
end Rg
end
section
namespace Rg
open Go
theorem fen_ok {p:Prog} (hok:p.ok) {l:List Pl} (hpl: ∀x∈l,znZ p x):zzs p (ptB p l):=by
 intro t x n hx hn hb;obtain⟨z,hz,e1,e2⟩:=zf7.1 hb;obtain⟨y,hy,hlt⟩:=hpl z hz;rw[e1,hx]at hy;cases hy;have hs:x.steps[z.2]? =some x.steps[z.2]:=zI hlt;rw[zdo (by rw[e1];exact hx) hs]at e2;exact⟨_,_,hs,e2⟩
set_option maxHeartbeats 4000000
end Rg
end
section
namespace Rg
open Go
theorem zx2 {b:Nat->Bool} {m n:Nat} (h:newB b m=newB b n):m=n:=by
 rcases Nat.lt_trichotomy m n with h1 | h1 | h1
 ·have:=zoF (b:=b) h1;omega
 ·exact h1
 ·have:=zoF (b:=b) h1;omega
theorem newB_mid {b:Nat->Bool} {m n:Nat} (hb:b n=true):newB b m≠newB b n+1:=by
 intro h;rcases Nat.lt_trichotomy m n with h1 | h1 | h1
 ·have:=zoF (b:=b) h1;omega
 ·subst h1;omega
 ·have:=zoF (b:=b) h1;rw[hb]at this;simp at this;omega
section
variable {p:Prog} {B:Nat->Nat->Bool} {c d:Config}
theorem zyo {b:Nat->Bool} {x:Thread} {a:Int} {j:Nat} {s:Step} (h:(x.ins b).steps[j]? =some s) (hj:x.steps.length<=j) (hs:s.fr=a): ∃m,m<x.points.toNat/\b m=true/\a=newB b m/\s=fenceS b x m:=by
 have h':(x.steps.map (Step.ins b)++(fencedL b x.points.toNat).map (fenceS b x))[j]? =some s:=h;rw[List.getElem?_append_right (by rw[List.length_map];exact hj),zJ,zE]at h';obtain⟨m,hm,rfl⟩:=h';have h2:=List.mem_of_getElem? hm;unfold fencedL at h2;rw[List.mem_filter,List.mem_range]at h2;exact⟨m,h2.1,h2.2,hs.symm,rfl⟩
theorem fen_lt (hok:p.ok) (h:zzs p B): ∀t x,p.threads[t]? =some x-> ∀n,n<x.points.toNat->B t n=true->(n:Int)<x.points-1:=by
 intro t x hx n hn hb;obtain⟨i,s,hs,he⟩:=h t x n hx hn hb;have:=(ok_stp hok hx hs).1.2;omega
theorem zxN {l:List Int} {t:Nat} {a:Int} (h:l[t]? =some a):atI l (t:Int)=a:=by
 simp[atI,List.getD_eq_getElem?_getD,h]
theorem bufs_nil {q:Prog} (hd:isM q d=true):(q.threads.map fun _=>([]:List Entry))=d.buf:=by
 rw[is_iff]at hd;refine List.ext_getElem? fun i=> ?_
 rw[zJ];rcases Nat.lt_or_ge i q.threads.length with h | h
 ·rw[zI h,zI (show i<d.buf.length by rw[hd.lb];exact h)];simp[hd.buf _ (List.getElem_mem (show i<d.buf.length by rw[hd.lb];exact h))]
 ·rw[List.getElem?_eq_none h,List.getElem?_eq_none (by rw[hd.lb];exact h)];rfl
theorem zxZ {b:Nat->Bool} {n:Nat} {z:Nat} (hz:z<n):zyy b n (z:Int) (newB b z:Nat):=.inr ⟨z,hz,rfl,.inl rfl⟩
end
end Rg
end
section
namespace Rg
open Go
theorem zzb {p:Prog} {B:Nat->Nat->Bool} (hf:formedM p=true) (hq:formedM (p.ins B)=true):RelC p B (startM p) (startM (p.ins B)):=by
 have hl:(p.ins B).threads.length=p.threads.length:=zxv;rw[startM,startM,if_pos hf,if_pos hq];refine⟨rfl,?_,by simp,by simp[hl],?_⟩
 ·refine List.ext_getElem? fun i=> ?_
  rw[zJ,zJ];rcases Nat.lt_or_ge i p.threads.length with h | h
  ·rw[zI h,zI (show i<(p.ins B).threads.length by omega)];rfl
  ·rw[List.getElem?_eq_none h,List.getElem?_eq_none (by omega)]
 ·intro t x a a' hx ha ha';have hxq:=insP_get (B:=B) hx;simp only[zJ,hx,hxq,Option.map_some,zA]at ha ha';have hp:=points_bound hf hx;have hs:(x.ins (B t)).asleep=x.asleep:=rfl;rw[hs]at ha';cases hx':x.asleep
  ·simp only[hx',zG,if_false]at ha ha';subst ha ha';exact zxZ (b:=B t) (show 0<x.points.toNat by omega)
  ·simp only[hx',if_true]at ha ha';subst ha ha';exact .inl ⟨rfl,rfl⟩
set_option maxHeartbeats 4000000
end Rg
end
section
namespace Rg
open Go
namespace Expr
mutual
def mapL (f:Expr->Expr):Expr->Expr
 | .mk o w n []=>f (.mk o w n [])
 | .mk o w n (k::ks)=> .mk o w n (mapL f k::zAN f ks)
def zAN (f:Expr->Expr):List Expr->List Expr
 | []=>[]
 | e::r=>mapL f e::zAN f r
end
end Expr
end Rg
end
section
namespace Rg
open Go
def asg (set:List Assign) (c:Int):Option Expr:=(set.find? fun a=>decide (a.cell=c)).map Assign.to
end Rg
end
section
namespace Rg
open Go
structure SetOk (p:Prog) (set:List Assign):Prop where
 rng: ∀a∈set,inR a.cell p.cells.length=true/\a.to.valid p.cells false=true
 wid: ∀a∈set,∃y,p.cells[a.cell.toNat]? =some y/\a.to.w=y.w
 dif: ∀(i j:Nat) (a b:Assign),set[i]? =some a->set[j]? =some b->a.cell=b.cell->i=j
end Rg
end
section
namespace Rg
open Go
end Rg
end
section
namespace Rg
open Go
theorem StepOk.set {p:Prog} {t:Int} {x:Thread} {s:Step} (h:StepOk p t x s):SetOk p s.set:=⟨h.rng.2,h.wid,h.dif⟩
end Rg
end
section
namespace Rg
open Go
end Rg
end
section
set_option maxRecDepth 10000
namespace Rg
open Go
end Rg
end
section
namespace Rg
open Go
end Rg
end
section
set_option maxRecDepth 10000
namespace Rg
open Go
end Rg
end
section
namespace Rg
open Go
structure Proper (p:Prog) (e:Entry):Prop where
 ne:e.cells≠[]
 len:e.values.length=e.cells.length
 nd:e.cells.Nodup
 cell: ∀(i:Nat) (n v:Int),e.cells[i]? =some n->e.values[i]? =some v->0<=n/\ ∃y,p.cells[n.toNat]? =some y/\y.thread= -1/\y.ghost=decide (0<i)/\0<=v/\v<2^y.w.toNat
structure IsB (p:Prog) (c:Config):Prop where
 lm:c.mem.length=p.cells.length
 la:c.at_.length=p.threads.length
 lb:c.buf.length=p.threads.length
 mem: ∀(i:Nat) (v:Int) (y:Cell),c.mem[i]? =some v->p.cells[i]? =some y->0<=v/\v<2^y.w.toNat
 at_: ∀(i:Nat) (a:Int) (x:Thread),c.at_[i]? =some a->p.threads[i]? =some x-> -1<=a/\a<x.points/\(a= -1->x.asleep=true)
 buf: ∀(t:Nat) (b:List Entry),c.buf[t]? =some b->b.length<=3/\(∀e∈b,Proper p e)/\(c.at_[t]? =some (-1)->b=[])
def putE (m:List Int) (e:Entry):List Int:=(e.cells.zip e.values).foldl (fun m q=>m.set q.1.toNat q.2) m
def bufM (c:Config) (t:Nat):List Entry:=c.buf.getD t []
def viewM (c:Config) (t:Nat):List Int:=(bufM c t).foldl putE c.mem
def zAM (a b:Entry):Bool:=b.cells.any fun n=>a.cells.contains n
def blockedM (older:List Entry) (e:Entry):Bool:=older.any fun o=>zAM o e
def openM (k:Int) (b:List Entry) (i:Nat) (e:Entry):Bool:=decide (i=0)||(decide (k=2)&& !blockedM (b.take i) e)
def enabledB (p:Prog) (c:Config) (t:Nat) (s:Step):Bool:=
 decide (atI c.at_ t=s.fr)&&decide (s.guard.eval (viewM c t) (viewM c t)=1)&&
  (if s.kind=3 then(if s.release then decide ((bufM c t).length=0)else decide ((bufM c t).length<3))
   else if s.kind=4\/s.kind=5 then decide ((bufM c t).length=0)
   else if s.kind=6 then decide ((bufM c t).length=0)&&decide (atI c.at_ s.target= -1)
   else if s.kind=7 then decide ((bufM c t).length=0)&&(decide (atI c.at_ s.target=zxl p s.target-1)&&decide ((bufM c s.target.toNat).length=0))
   else true)
def stepsB (p:Prog) (c:Config) (t:Nat) (x:Thread) (i:Nat):List Choice:=
 (x.steps.take i).zipIdx.filterMap fun q=>if enabledB p c t q.1 then some ⟨t,q.2,0⟩else none
def headC (e:Entry):Int:=e.cells.headD 0
def entsB (k:Int) (t:Nat) (b:List Entry) (i:Nat):List Choice:=
 (b.take i).zipIdx.filterMap fun q=>if openM k b q.2 q.1 then some ⟨t,-1,headC q.1⟩else none
def choicesBN (p:Prog) (k:Int) (c:Config) (i:Nat):List Choice:=
 (p.threads.take i).zipIdx.flatMap fun q=>stepsB p c q.2 q.1 q.1.steps.length++entsB k q.2 (bufM c q.2) (bufM c q.2).length
def choicesB (p:Prog) (k:Int) (c:Config):List Choice:=choicesBN p k c p.threads.length
def sharedA (p:Prog) (a:Assign):Bool:=zaJ p a.cell fun y=>decide (y.thread= -1)
def entryOf (p:Prog) (view:List Int) (set:List Assign):Entry:=⟨(set.filter (sharedA p)).map Assign.cell,(set.filter (sharedA p)).map fun a=>a.to.eval view view⟩
def execB (p:Prog) (c:Config) (t:Nat) (s:Step):Config:=
 ⟨writeM c.mem (viewM c t) (if s.kind=3 then s.set.filter (fun a=> !sharedA p a)else s.set),
  if s.kind=6 then(c.at_.set t s.to).set s.target.toNat 0 else c.at_.set t s.to,
  if s.kind=3 then c.buf.set t (bufM c t++[entryOf p (viewM c t) s.set])else c.buf⟩
def commitB (c:Config) (t i:Nat):Config:=match(bufM c t)[i]? with
 | some e=>⟨putE c.mem e,c.at_,c.buf.set t ((bufM c t).eraseIdx i)⟩
 | none=>zeroC
def findB (k:Int) (b:List Entry) (n:Int):Option Nat:=(List.range b.length).find? fun i=>match b[i]? with
 | some e=>openM k b i e&&decide (headC e=n)
 | none=>false
def nextB (p:Prog) (k:Int) (c:Config) (x:Choice):Config×Int:=
 if x.thread<0\/(p.threads.length:Int)<=x.thread\/x.step< -1 then(zeroC,110)
 else if x.step= -1 then(match findB k (bufM c x.thread.toNat) x.cell with
  | some i=>(commitB c x.thread.toNat i,0)
  | none=>(zeroC,110))
 else match stepAt p x with
  | some s=>if decide (x.cell=0)&&enabledB p c x.thread.toNat s then(execB p c x.thread.toNat s,0)else(zeroC,110)
  | none=>(zeroC,110)
theorem bufM_at {c:Config} {t:Nat} (h:t<c.buf.length):c.buf[t]? =some (bufM c t):=by simp[bufM,List.getD,zI h]
theorem zxP: ∀(l:List (Int×Int)) (m:List Int),(l.foldl (fun m q=>m.set q.1.toNat q.2) m).length=m.length
 | [],m=>rfl
 | q::l,m=>by rw[List.foldl_cons,zxP l];simp
theorem zx1 (m:List Int) (e:Entry):(putE m e).length=m.length:=zxP _ m
theorem zx9: ∀(l:List Entry) (m:List Int),(l.foldl putE m).length=m.length
 | [],m=>rfl
 | e::l,m=>by rw[List.foldl_cons,zx9 l,zx1]
theorem zAE (c:Config) (t:Nat):(viewM c t).length=c.mem.length:=zx9 _ _
theorem zyr {p:Prog}: ∀(l:List (Int×Int)) (m:List Int),(∀q∈l,∀y,p.cells[q.1.toNat]? =some y->0<=q.2/\q.2<2^y.w.toNat)->
 (∀(i:Nat) (v:Int) (y:Cell),m[i]? =some v->p.cells[i]? =some y->0<=v/\v<2^y.w.toNat)->
 ∀(i:Nat) (v:Int) (y:Cell),(l.foldl (fun m q=>m.set q.1.toNat q.2) m)[i]? =some v->p.cells[i]? =some y->0<=v/\v<2^y.w.toNat
 | [],m,_,hm=>hm
 | q::l,m,hl,hm=>by
   rw[List.foldl_cons];refine zyr l _ (fun r hr=>hl r (List.mem_cons_of_mem _ hr)) ?_;intro i v y hv hy;rw[List.getElem?_set]at hv;split at hv
   ·rename_i hi;split at hv
    ·cases hv;subst hi;exact hl q List.mem_cons_self y hy
    ·simp at hv
   ·exact hm i v y hv hy
theorem zzt {p:Prog} {e:Entry} (h:Proper p e) {q:Int×Int} (hq:q∈e.cells.zip e.values):0<=q.1/\ ∃y,p.cells[q.1.toNat]? =some y/\y.thread= -1/\0<=q.2/\q.2<2^y.w.toNat:=by
 obtain⟨i,hi⟩:=List.getElem?_of_mem hq;rw[List.getElem?_zip_eq_some]at hi;obtain⟨h0,y,h1,h2,_,h3⟩:=h.cell i q.1 q.2 hi.1 hi.2;exact⟨h0,y,h1,h2,h3⟩
theorem zA1 {p:Prog} {e:Entry} (he:Proper p e) {m:List Int} (hm: ∀(i:Nat) (v:Int) (y:Cell),m[i]? =some v->p.cells[i]? =some y->0<=v/\v<2^y.w.toNat):
 ∀(i:Nat) (v:Int) (y:Cell),(putE m e)[i]? =some v->p.cells[i]? =some y->0<=v/\v<2^y.w.toNat:=by
 refine zyr _ m (fun q hq y hy=> ?_) hm;obtain⟨_,z,hz,_,h⟩:=zzt he hq;rw[hy]at hz;cases hz;exact h
theorem zxM {p:Prog} {e:Entry} (h:Proper p e) {n:Int} (hn:n∈e.cells):0<=n/\n.toNat<p.cells.length/\ ∃y,p.cells[n.toNat]? =some y/\y.thread= -1:=by
 obtain⟨i,hi⟩:=List.getElem?_of_mem hn;have hlt:i<e.values.length:=by rw[h.len];exact(zH.1 hi).1
 obtain⟨h0,y,h1,h2,_⟩:=h.cell i n _ hi (zI hlt);exact⟨h0,(zH.1 h1).1,y,h1,h2⟩
theorem zyF: ∀(n:Nat) (l:List Int),l.Nodup->(∀x∈l,0<=x/\x<n)->l.length<=n
 | 0,[],_,_=>Nat.le_refl _
 | 0,x::l,_,hl=>by have:=hl x List.mem_cons_self;omega
 | n+1,l,hnd,hl=>by
   have h:=zyF n (l.erase (n:Int)) (hnd.erase _) fun x hx=>by
    have h1:=hnd.mem_erase_iff.1 hx;have h2:=hl x h1.2;have h3:=h1.1;omega
   rw[List.length_erase]at h;split at h<;>omega
theorem zxy {p:Prog} {e:Entry} (h:Proper p e):e.cells.length<=p.cells.length:=
 zyF _ _ h.nd fun x hx=>by have:=zxM h hx;omega
theorem zAe {p:Prog} {a:Assign} (h:sharedA p a=true): ∃y,p.cells[a.cell.toNat]? =some y/\y.thread= -1:=by
 unfold sharedA zaJ at h;split at h
 ·rename_i y hy;exact⟨y,hy,by simpa using h⟩
 ·simp at h
theorem zyB {p:Prog} {t:Int} {s:Step} (hk:s.kind=3) (h:kindOk p t s=true): ∃a r,s.set=a::r/\valuesOk p s false t=true/\sharedA p a=true/\zaJ p a.cell Cell.ghost=false/\
 ∀b∈r,zaJ p b.cell Cell.ghost=true/\sees p t b.cell=true:=by
 rw[kindOk,if_neg (by omega),if_neg (by omega),if_pos hk,storeOk]at h;split at h
 ·simp at h
 ·rename_i a r hs;simp only[zF,Bool.not_eq_true',List.all_eq_true]at h;obtain⟨⟨⟨h1,h2⟩,h3⟩,h4⟩:=h;obtain⟨h0,y,hy,ht⟩:=zhO h2;exact⟨a,r,hs,h1,by rw[sharedA,zaH hy];simpa using ht,h3,h4⟩
theorem dif_nodup {l:List Assign} (h: ∀(i j:Nat) (a b:Assign),l[i]? =some a->l[j]? =some b->a.cell=b.cell->i=j):(l.map Assign.cell).Nodup:=by
 rw[List.nodup_iff_pairwise_ne,List.pairwise_iff_getElem];intro i j hi hj hij he;simp only[List.length_map]at hi hj;simp only[List.getElem_map]at he;have:=h i j _ _ (zI hi) (zI hj) he;omega
theorem zys {p:Prog} {t:Int} {x:Thread} {s:Step} (hok:StepOk p t x s) (hk:s.kind=3) (view:List Int):Proper p (entryOf p view s.set):=by
 obtain⟨a,r,hs,hv,ha,hg,hr⟩:=zyB hk hok.row;have hf:s.set.filter (sharedA p)=a::r.filter (sharedA p):=by rw[hs,List.filter_cons,if_pos ha]
 refine⟨by simp[entryOf,hf],by simp[entryOf],?_,?_⟩
 ·exact List.Nodup.sublist ((List.filter_sublist).map _) (dif_nodup hok.dif)
 ·intro i n v hn hvv;simp only[entryOf,zJ,zE]at hn hvv;obtain⟨b,hb,rfl⟩:=hn;obtain⟨b',hb',rfl⟩:=hvv;rw[hb]at hb';cases hb';have hbm:=List.mem_of_getElem? hb;obtain⟨hbs,hsh⟩:=List.mem_filter.1 hbm;obtain⟨y,hy,hyt⟩:=zAe hsh;have hin:=(hok.rng.2 b hbs).1;simp only[inR,decide_eq_true_eq]at hin;obtain⟨z,hz,hw⟩:=hok.wid b hbs;rw[hy]at hz;cases hz;refine⟨hin.1,y,hy,hyt,?_,by rw[<- hw];exact zyV _ _ _⟩;rw[hf]at hb
  cases i with
  | zero=>
    simp only[List.getElem?_cons_zero,zA]at hb;subst hb;rw[zaH hy]at hg
    simpa using hg
  | succ i=>
    simp only[List.getElem?_cons_succ]at hb;have:=(hr b (List.mem_filter.1 (List.mem_of_getElem? hb)).1).1;rw[zaH hy]at this;simpa using this
theorem zBb {p:Prog} {c:Config} {t i:Nat} {x:Thread} {s:Step} (hf:formedM p=true) (hx:p.threads[t]? =some x) (hok:StepOk p t x s)
 (hat: ∀(i:Nat) (a:Int) (x:Thread),c.at_[i]? =some a->p.threads[i]? =some x-> -1<=a/\a<x.points/\(a= -1->x.asleep=true)):
 ∀(i:Nat) (a:Int) (z:Thread),(if s.kind=6 then(c.at_.set t s.to).set s.target.toNat 0 else c.at_.set t s.to)[i]? =some a->p.threads[i]? =some z-> -1<=a/\a<z.points/\(a= -1->z.asleep=true):=by
 have key: ∀(j:Nat) (a:Int) (z:Thread),(c.at_.set t s.to)[j]? =some a->p.threads[j]? =some z-> -1<=a/\a<z.points/\(a= -1->z.asleep=true):=by
  intro j a z ha hz;rw[List.getElem?_set]at ha;split at ha
  ·rename_i hj;split at ha
   ·cases ha;subst hj;rw[hx]at hz;cases hz;have:=hok.to;exact⟨by omega,by omega,by omega⟩
   ·simp at ha
  ·exact hat j a z ha hz
 intro j a z ha hz;split at ha
 ·rw[List.getElem?_set]at ha;split at ha
  ·split at ha
   ·cases ha;have:=points_bound hf hz;exact⟨by omega,by omega,by omega⟩
   ·simp at ha
  ·exact key j a z ha hz
 ·exact key j a z ha hz
theorem exec_asleep {c:Config} {t j:Nat} {s:Step} (h0:0<=s.to) (h:(if s.kind=6 then(c.at_.set t s.to).set s.target.toNat 0 else c.at_.set t s.to)[j]? =some (-1)):c.at_[j]? =some (-1):=by
 have key:(c.at_.set t s.to)[j]? =some (-1)->c.at_[j]? =some (-1):=by
  intro h;rw[List.getElem?_set]at h;split at h
  ·split at h
   ·simp only[zA]at h;omega
   ·simp at h
  ·exact h
 split at h
 ·rw[List.getElem?_set]at h;split at h
  ·split at h
   ·simp at h
   ·simp at h
  ·exact key h
 ·exact key h
theorem zzP {p:Prog} (hf:formedM p=true) {c:Config} (hc:IsB p c) {t i:Nat} {x:Thread} {s:Step} (hx:p.threads[t]? =some x) (hs:x.steps[i]? =some s) (he:enabledB p c t s=true):IsB p (execB p c t s):=by
 have hok:=formed_step hf hx hs;have htl:t<c.buf.length:=by rw[hc.lb];exact(zH.1 hx).1
 refine⟨by simp only[execB,zxq];exact hc.lm,?_,?_,?_,zBb (i:=i) hf hx hok hc.at_,?_⟩
 ·show(if s.kind=6 then _ else _:List Int).length=_;split
  ·rw[List.length_set,List.length_set];exact hc.la
  ·rw[List.length_set];exact hc.la
 ·show(if s.kind=3 then _ else _:List (List Entry)).length=_;split
  ·rw[List.length_set];exact hc.lb
  ·exact hc.lb
 ·refine zyY (fun a ha=> ?_) hc.mem;refine hok.wid a ?_
  try simp only at ha
  split at ha
  ·exact(List.mem_filter.1 ha).1
  ·exact ha
 ·intro t' b hb;simp only[execB]at hb⊢
  by_cases hk:s.kind=3
  ·rw[if_pos hk,List.getElem?_set]at hb;split at hb
   ·rename_i htt;subst htt
    try rw[if_pos htl]at hb
    simp only[zA]at hb;subst hb;have hold:=hc.buf t _ (bufM_at htl);refine⟨?_,?_,?_⟩
    ·simp only[enabledB,zF,hk,if_true]at he;have h3:=he.2;split at h3
     ·have:(bufM c t).length=0:=by simpa using h3
      simp[this]
     ·have:(bufM c t).length<3:=by simpa using h3
      simp;omega
    ·intro e hem;rcases List.mem_append.1 hem with h | h
     ·exact hold.2.1 e h
     ·rw[List.mem_singleton]at h;subst h;exact zys hok hk _
    ·intro ha;have:=exec_asleep hok.to.1 ha;simp only[enabledB,zF,decide_eq_true_eq]at he;have h1:atI c.at_ t= -1:=zya (by simpa using this);have:=hok.fr.1;omega
   ·obtain⟨q1,q2,q3⟩:=hc.buf t' b hb;exact⟨q1,q2,fun ha=>q3 (exec_asleep hok.to.1 ha)⟩
  ·rw[if_neg hk]at hb;obtain⟨q1,q2,q3⟩:=hc.buf t' b hb;exact⟨q1,q2,fun ha=>q3 (exec_asleep hok.to.1 ha)⟩
theorem zyW {p:Prog} {c:Config} (hc:IsB p c) {t i:Nat} {e:Entry} (hi:(bufM c t)[i]? =some e):IsB p (commitB c t i):=by
 have htl:t<c.buf.length:=by
  rcases Nat.lt_or_ge t c.buf.length with h | h
  ·exact h
  ·simp[bufM,List.getD,List.getElem?_eq_none h]at hi
 have hold:=hc.buf t _ (bufM_at htl);have hC:commitB c t i=⟨putE c.mem e,c.at_,c.buf.set t ((bufM c t).eraseIdx i)⟩:=by simp only[commitB,hi]
 rw[hC];refine⟨by simp only[zx1];exact hc.lm,hc.la,by simp;exact hc.lb,zA1 (hold.2.1 e (List.mem_of_getElem? hi)) hc.mem,hc.at_,?_⟩;intro t' b hb;rw[List.getElem?_set]at hb;split at hb
 ·rename_i htt;subst htt
  try rw[if_pos htl]at hb
  simp only[zA]at hb;subst hb;refine⟨Nat.le_trans (List.length_eraseIdx_le _ _) hold.1,fun e he=>hold.2.1 e (List.mem_of_mem_eraseIdx he),fun ha=> ?_⟩;have:=hold.2.2 ha;rw[this]at hi;simp at hi
 ·exact hc.buf t' b hb
theorem zAd {p:Prog} (hf:formedM p=true):IsB p (startM p):=by
 have h:=is_iff.1 (start_is hf);refine⟨h.lm,h.la,h.lb,h.mem,h.at_,fun t b hb=> ?_⟩;have:=h.buf b (List.mem_of_getElem? hb);subst this;exact⟨by simp,by simp,fun _=>rfl⟩
theorem zAV {p:Prog} {c:Config} (h:IsC p c):IsB p c:=
 ⟨h.lm,h.la,h.lb,h.mem,h.at_,fun t b hb=>by
   have:=h.buf b (List.mem_of_getElem? hb);subst this
   exact⟨by simp,by simp,fun _=>rfl⟩⟩
theorem isC_of {p:Prog} {c:Config} (h:IsB p c) (hq: ∀b∈c.buf,b=[]):IsC p c:=⟨h.lm,h.la,h.lb,h.mem,h.at_,hq⟩
theorem stepsB_mem {p:Prog} {c:Config} {t:Nat} {x:Thread} {n:Nat} {y:Choice}:y∈stepsB p c t x n<-> ∃i s,i<n/\x.steps[i]? =some s/\enabledB p c t s=true/\y=⟨t,i,0⟩:=by
 unfold stepsB;rw[List.mem_filterMap];constructor
 ·rintro⟨⟨s,i⟩,hm,h⟩;rw[List.mem_zipIdx_iff_getElem?]at hm;simp only at hm;rw[List.getElem?_take]at hm;split at hm
  ·rename_i hi;split at h
   ·rename_i he;simp only[zA]at h;exact⟨i,s,hi,hm,he,h.symm⟩
   ·simp at h
  ·simp at hm
 ·rintro⟨i,s,hi,hs,he,rfl⟩;refine⟨(s,i),?_,by simp[he]⟩;rw[List.mem_zipIdx_iff_getElem?];simp only;rw[List.getElem?_take,if_pos hi];exact hs
theorem entsB_mem {k:Int} {t:Nat} {b:List Entry} {n:Nat} {y:Choice}:y∈entsB k t b n<-> ∃i e,i<n/\b[i]? =some e/\openM k b i e=true/\y=⟨t,-1,headC e⟩:=by
 unfold entsB;rw[List.mem_filterMap];constructor
 ·rintro⟨⟨e,i⟩,hm,h⟩;rw[List.mem_zipIdx_iff_getElem?]at hm;simp only at hm;rw[List.getElem?_take]at hm;split at hm
  ·rename_i hi;split at h
   ·rename_i he;simp only[zA]at h;exact⟨i,e,hi,hm,he,h.symm⟩
   ·simp at h
  ·simp at hm
 ·rintro⟨i,e,hi,hs,he,rfl⟩;refine⟨(e,i),?_,by simp[he]⟩;rw[List.mem_zipIdx_iff_getElem?];simp only;rw[List.getElem?_take,if_pos hi];exact hs
theorem zyw {p:Prog} {k:Int} {c:Config} {y:Choice}:y∈choicesB p k c<->
 (∃(t:Nat) (x:Thread) (i:Nat) (s:Step),p.threads[t]? =some x/\x.steps[i]? =some s/\enabledB p c t s=true/\y=⟨t,i,0⟩)\/
 (∃(t i:Nat) (e:Entry),t<p.threads.length/\(bufM c t)[i]? =some e/\openM k (bufM c t) i e=true/\y=⟨t,-1,headC e⟩):=by
 unfold choicesB choicesBN;rw[List.mem_flatMap];constructor
 ·rintro⟨⟨x,t⟩,hm,h⟩;rw[List.mem_zipIdx_iff_getElem?,List.take_length]at hm;rcases List.mem_append.1 h with h | h
  ·obtain⟨i,s,_,hs,he,rfl⟩:=stepsB_mem.1 h;exact .inl ⟨t,x,i,s,hm,hs,he,rfl⟩
  ·obtain⟨i,e,_,hs,he,rfl⟩:=entsB_mem.1 h;exact .inr ⟨t,i,e,(zH.1 hm).1,hs,he,rfl⟩
 ·rintro(⟨t,x,i,s,hx,hs,he,rfl⟩ | ⟨t,i,e,ht,hi,ho,rfl⟩)
  ·refine⟨(x,t),?_,List.mem_append_left _ (stepsB_mem.2 ⟨i,s,(zH.1 hs).1,hs,he,rfl⟩)⟩;rw[List.mem_zipIdx_iff_getElem?,List.take_length];exact hx
  ·refine⟨(p.threads[t],t),?_,List.mem_append_right _ (entsB_mem.2 ⟨i,e,(zH.1 hi).1,hi,ho,rfl⟩)⟩;rw[List.mem_zipIdx_iff_getElem?,List.take_length];exact zI ht
theorem head_mem {p:Prog} {e:Entry} (h:Proper p e):headC e∈e.cells:=by
 have:=h.ne;unfold headC
 cases hc:e.cells with
 | nil=>exact absurd hc this
 | cons a r=>simp
theorem open_one {p:Prog} {k:Int} {b:List Entry} (hb: ∀e∈b,Proper p e) {i j:Nat} {e f:Entry} (hi:b[i]? =some e) (hj:b[j]? =some f) (ho:openM k b j f=true) (hij:i<j):headC e≠headC f:=by
 intro he;unfold openM at ho;simp only[Bool.or_eq_true,decide_eq_true_eq,zF,Bool.not_eq_true']at ho;rcases ho with h | ⟨_,h⟩
 ·omega
 ·have hmem:e∈b.take j:=by
   have:(b.take j)[i]? =some e:=by rw[List.getElem?_take,if_pos hij];exact hi
   exact List.mem_of_getElem? this
  have:blockedM (b.take j) f=true:=by
   rw[blockedM,List.any_eq_true];refine⟨e,hmem,?_⟩;rw[zAM,List.any_eq_true];refine⟨headC f,head_mem (hb f (List.mem_of_getElem? hj)),?_⟩;rw[<- he];simpa using head_mem (hb e (List.mem_of_getElem? hi))
  rw[this]at h;simp at h
theorem zz2 {k:Int} {b:List Entry} {n:Int} {i:Nat} (h:findB k b n=some i): ∃e,b[i]? =some e/\openM k b i e=true/\headC e=n:=by
 have:=List.find?_some h
 try simp only at this
 split at this
 ·rename_i e he;simp only[zF,decide_eq_true_eq]at this;exact⟨e,he,this.1,this.2⟩
 ·simp at this
theorem zzN {p:Prog} {k:Int} {b:List Entry} (hb: ∀e∈b,Proper p e) {i:Nat} {e:Entry} (hi:b[i]? =some e) (ho:openM k b i e=true):findB k b (headC e)=some i:=by
 have hil:=(zH.1 hi).1
 cases hf:findB k b (headC e)with
 | none=>
   unfold findB at hf;rw[List.find?_eq_none]at hf;have:=hf i (List.mem_range.2 hil);rw[hi]at this
   simp[ho]at this
 | some j=>
   obtain⟨f,hj,hoj,hh⟩:=zz2 hf;rcases Nat.lt_trichotomy i j with h | h | h
   ·exact absurd hh.symm (open_one hb hi hj hoj h)
   ·rw[h]
   ·exact absurd hh (open_one hb hj hi ho h)
theorem zyn {p:Prog} {k:Int} {c:Config} {t i:Nat} {x:Thread} {s:Step} (hx:p.threads[t]? =some x) (hs:x.steps[i]? =some s) (he:enabledB p c t s=true):nextB p k c ⟨t,i,0⟩=(execB p c t s,0):=by
 have ht:=(zH.1 hx).1;have e1:stepAt p ⟨t,i,0⟩=some s:=by simp[stepAt,hx,hs]
 rw[nextB,if_neg (by simp only;omega),if_neg (by simp only;omega),e1];simp[he]
theorem zxW {p:Prog} {k:Int} {c:Config} (hc:IsB p c) {t i:Nat} {e:Entry} (ht:t<p.threads.length) (hi:(bufM c t)[i]? =some e) (ho:openM k (bufM c t) i e=true):nextB p k c ⟨t,-1,headC e⟩=(commitB c t i,0):=by
 have hb:=(hc.buf t _ (bufM_at (by rw[hc.lb];exact ht))).2.1;rw[nextB,if_neg (by simp only;omega),if_pos rfl];simp only[Int.toNat_natCast,zzN hb hi ho]
theorem zAK {p:Prog} (hf:formedM p=true) {k:Int} {c:Config} (hc:IsB p c) {y:Choice} (hy:y∈choicesB p k c): ∃d,nextB p k c y=(d,0)/\IsB p d:=by
 rcases zyw.1 hy with⟨t,x,i,s,hx,hs,he,rfl⟩ | ⟨t,i,e,ht,hi,ho,rfl⟩
 ·exact⟨_,zyn hx hs he,zzP hf hc hx hs he⟩
 ·exact⟨_,zxW hc ht hi ho,zyW hc hi⟩
def choicesK (p:Prog) (k:Int) (c:Config):List Choice:=if k=0 then choicesM p c else choicesB p k c
def nextK (p:Prog) (k:Int) (c:Config) (x:Choice):Config×Int:=if k=0 then nextM p c x else nextB p k c x
structure IsK (p:Prog) (k:Int) (c:Config):Prop where
 b:IsB p c
 q:k=0-> ∀b∈c.buf,b=[]
theorem IsK.c {p:Prog} {c:Config} {k:Int} (h:IsK p k c) (hk:k=0):isM p c=true:=is_iff.2 (isC_of h.b (h.q hk))
theorem zAJ {p:Prog} (hf:formedM p=true) {k:Int} {c:Config} (hc:IsK p k c) {y:Choice} (hy:y∈choicesK p k c): ∃d,nextK p k c y=(d,0)/\IsK p k d:=by
 unfold choicesK at hy;unfold nextK;split at hy
 ·rename_i hk;obtain⟨t,x,i,s,hx,hs,he,rfl,hn,hd⟩:=zx7 hf (hc.c hk) hy;rw[if_pos hk];have:=is_iff.1 hd;exact⟨_,hn,zAV this,fun _=>this.buf⟩
 ·rename_i hk;rw[if_neg hk];obtain⟨d,hn,hd⟩:=zAK hf hc.b hy;exact⟨d,hn,hd,fun h=>absurd h hk⟩
theorem zy8 {p:Prog} (hf:formedM p=true) (k:Int):IsK p k (startM p):=⟨zAd hf,fun _=>(is_iff.1 (start_is hf)).buf⟩
end Rg
end
