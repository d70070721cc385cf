/- Part of the proof of the laws of the package relyguardlaw30: an abstract machine for the program's functions, what they compute, and that the machine is the program's. No condition. (H48b H46a H42b H42c) -/
import Derived.Test.YtcgkpboneipghaaGreatDoorPartBA
import Derived.Test.YtcgkpboneipghaaGreatDoorPartAZ
set_option linter.unusedSimpArgs false
set_option linter.unusedVariables false
set_option linter.unusedSectionVars false
section
namespace Rg
open Go
structure Gr.Swp (a b:Gr) (σ τ:Nat->Nat):Prop where
 nt:a.nt=b.nt
 len : ∀ c,c<a.msk.length->τ c<b.msk.length
 thr : ∀ c,c<a.msk.length->b.thr (τ c)=σ (a.thr c)
 sinj : ∀ x y,σ x=σ y->x=y
 tinj : ∀ c d,c<a.msk.length->d<a.msk.length->τ c=τ d->c=d
 half : ∀ c d,c<a.msk.length->d<a.msk.length->a.thr c=a.thr d->τ c / 2=τ d / 2->c / 2=d / 2
 prec : ∀ c d,c<a.msk.length->d<a.msk.length->a.prec c d=true->b.prec (τ c) (τ d)=true
 mks : ∀ c,c<a.msk.length->subB (a.mks c) (b.mks (τ c))
 ld : ∀ c,c<a.msk.length->a.ld.getD (a.thr c) []=b.ld.getD (b.thr (τ c)) []
 ea : ∀ c,c<a.msk.length->subB (a.eaM c) (b.eaM (τ c))
 la : ∀ c,c<a.msk.length->subB (a.laM c) (b.laM (τ c))
 qk : ∀ c,c<a.msk.length->a.qk.getD (a.thr c) []=b.qk.getD (b.thr (τ c)) []
namespace Gr.Swp
variable {a b:Gr} {σ τ:Nat->Nat} (h:a.Swp b σ τ)
include h
theorem ok {c d m m' : Nat} (hc:c<a.msk.length) (hd:d<a.msk.length) (hm : ∀ t,m'.testBit (σ t)=m.testBit t) (hk:a.ok c d m=true):b.ok (τ c) (τ d) m' = true:=by
 simp only [Gr.ok,Bool.and_eq_true,decide_eq_true_eq,Bool.not_eq_true'] at hk ⊢
 exact ⟨(h.mks d hd).ne hk.1,by rw [h.thr d hd,hm]; exact hk.2.1,h.prec c d hc hd hk.2.2⟩
theorem couple {c d:Nat} (hc:c<a.msk.length) (hd:d<a.msk.length) (hk:a.couple c d=true):b.couple (τ c) (τ d)=true:=by
 unfold Gr.couple at hk ⊢
 have e:decide (τ c=τ d)=decide (c=d):=by rw [decide_eq_decide]; exact ⟨h.tinj c d hc hd,fun h=>by rw [h]⟩
 rw [e, <- h.ld c hc]
 exact meets_mono (h.mks c hc) (h.mks d hd) (fun _ _ _ h=>h) hk
theorem bits {m m' : Nat} (hm : ∀ t,m'.testBit (σ t)=m.testBit t) {d:Nat} (hd:d<a.msk.length) : ∀ t,(m' ||| 1 <<< b.thr (τ d)).testBit (σ t)=(m ||| 1 <<< a.thr d).testBit t:=by
 intro t
 rw [Gr.or_bit,Gr.or_bit,hm,h.thr d hd]
 congr 1
 rw [decide_eq_decide]
 exact ⟨h.sinj _ _,fun e=>by rw [e]⟩
theorem ends : ∀ (r goal c m m' : Nat),goal<a.msk.length->c<a.msk.length->(∀ t,m'.testBit (σ t)=m.testBit t)->a.ends r goal c m=true->b.ends r (τ goal) (τ c) m' = true
 | 0,goal,c,m,m',hg,hc,hm,hk=>by rw [Gr.ends] at hk ⊢; exact h.prec c goal hc hg hk
 | 1,goal,c,m,m',hg,hc,hm,hk=>by
   rw [Gr.ends,List.any_eq_true] at hk ⊢
   obtain ⟨d,h1,h2⟩:=hk
   rw [Bool.and_eq_true] at h2
   have hd:=List.mem_range.1 h1
   refine ⟨τ d,List.mem_range.2 (h.len d hd), ?_⟩
   rw [h.ok hc hd hm h2.1,ends 0 goal d _ _ hg hd (h.bits hm hd) h2.2]; rfl
 | r+2,goal,c,m,m',hg,hc,hm,hk=>by
   rw [Gr.ends,List.any_eq_true] at hk ⊢
   obtain ⟨d,h1,h2⟩:=hk
   rw [Bool.and_eq_true,Bool.or_eq_true,List.any_eq_true] at h2
   have hd:=List.mem_range.1 h1
   refine ⟨τ d,List.mem_range.2 (h.len d hd), ?_⟩
   rw [h.ok hc hd hm h2.1,Bool.true_and,Bool.or_eq_true,List.any_eq_true]
   rcases h2.2 with h3 | ⟨e,h3,h4⟩
   ·exact .inl (ends (r+1) goal d _ _ hg hd (h.bits hm hd) h3)
   ·simp only [Bool.and_eq_true,decide_eq_true_eq] at h4
    have he:=List.mem_range.1 h3
    refine .inr ⟨τ e,List.mem_range.2 (h.len e he), ?_⟩
    rw [h.couple hd he h4.2.1,ends r goal e _ _ hg he (h.bits hm hd) h4.2.2,h.thr e he,h.thr d hd,h4.1]; simp
theorem isPair {c d:Nat} (hc:c<a.msk.length) (hd:d<a.msk.length) (hk:a.isPair c d=true):b.isPair (τ c) (τ d)=true:=by
 rw [Gr.isPair_iff] at hk ⊢
 obtain ⟨h1,h2,h3,h4,h5⟩:=hk
 refine ⟨(h.ea c hc).ne h1,(h.la d hd).ne h2,by rw [h.thr c hc,h.thr d hd,h3],fun e=>h4 (h.half c d hc hd h3 e), ?_⟩
 rw [h.qk c hc] at h5
 exact meets_mono (h.ea c hc) (h.la d hd) (fun _ _ _ h=>h) h5
theorem atRest {r:Nat} (hk:a.atRest r=true):b.atRest r=true:=by
 obtain ⟨c,d,k1,k2,k3,k4⟩:=Gr.atRest_iff.1 hk
 refine Gr.atRest_iff.2 ⟨τ c,τ d,h.len c k1,h.len d k2,h.isPair k1 k2 k3,h.ends r c d _ _ k1 k2 (fun t => ?_) k4⟩
 rw [bit_one,bit_one,h.thr d k2,decide_eq_decide]
 exact ⟨h.sinj _ _,fun e=>by rw [e]⟩
end Gr.Swp
def rhoN (n i k y:Nat):Nat:=if y<2*n then y else 2*n+2*sgN i k ((y-2*n) / 2)+y % 2
def tauN (n m i k c:Nat):Nat:=sgN i k (c / (2*(n+m)))*(2*(n+m))+rhoN n i k (c % (2*(n+m)))
theorem rho_lt {n m i k y:Nat} (hi:i<m) (hk:k<m) (hy:y<2*(n+m)):rhoN n i k y<2*(n+m):=by
 unfold rhoN
 split
 ·omega
 ·have:=(sgN_lt (t:=(y-2*n) / 2) hi hk).2 (by omega)
  omega
theorem rho_half {n i k y z:Nat} (h:rhoN n i k y / 2=rhoN n i k z / 2):y / 2=z / 2:=by
 unfold rhoN at h
 split at h <;> split at h
 ·exact h
 ·omega
 ·omega
 ·have:sgN i k ((y-2*n) / 2)=sgN i k ((z-2*n) / 2):=by omega
  have:=sgN_inj.1 this
  omega
theorem rho_inj {n i k y z:Nat} (h:rhoN n i k y=rhoN n i k z):y=z:=by
 have h1:=rho_half (i:=i) (k:=k) (n:=n) (by rw [h]:rhoN n i k y / 2=rhoN n i k z / 2)
 unfold rhoN at h
 split at h <;> split at h <;> omega
theorem tau_div {n m i k:Nat} (hi:i<m) (hk:k<m) (c:Nat):tauN n m i k c / (2*(n+m))=sgN i k (c / (2*(n+m)))/\tauN n m i k c % (2*(n+m))=rhoN n i k (c % (2*(n+m))):=by
 have hs:0<2*(n+m):=by omega
 have hr:=rho_lt (n:=n) hi hk (Nat.mod_lt c hs)
 unfold tauN
 generalize 2*(n+m)=S at *
 constructor
 ·rw [Nat.mul_comm,Nat.mul_add_div hs,Nat.div_eq_of_lt hr,Nat.add_zero]
 ·rw [Nat.mul_comm,Nat.mul_add_mod,Nat.mod_eq_of_lt hr]
theorem prec_iff {n m c d:Nat}:precM n m c d=true<->(c % (2*(n+m))<2*n/\d % (2*(n+m))<2*n/\c % (2*(n+m)) / 2=d % (2*(n+m)) / 2/\(c % (2*(n+m)) % 2=1\/d % (2*(n+m)) % 2=1)) \/
 (2*n<=c % (2*(n+m))/\c % (2*(n+m)) % 2=0/\(c % (2*(n+m))-2*n) / 2=d / (2*(n+m))) \/
 (2*n<=d % (2*(n+m))/\d % (2*(n+m)) % 2=1/\(d % (2*(n+m))-2*n) / 2=c / (2*(n+m))) \/
 (2*n<=c % (2*(n+m))/\c % (2*(n+m)) % 2=0/\2*n<=d % (2*(n+m))/\d % (2*(n+m)) % 2=1/\c % (2*(n+m)) / 2=d % (2*(n+m)) / 2):=by
 unfold precM
 generalize c % (2*(n+m))=x
 generalize d % (2*(n+m))=y
 generalize c / (2*(n+m))=t
 generalize d / (2*(n+m))=u
 have e1 : ∀ z:Nat,((z:Int).tmod 2=(z % 2:Nat)):=fun z=>by rw [Int.tmod_eq_emod_of_nonneg (by omega)]; omega
 have e2 : ∀ z:Nat,((z:Int).tdiv 2=(z / 2:Nat)):=fun z=>by rw [Int.tdiv_eq_ediv_of_nonneg (by omega)]; omega
 have e3 : ∀ z:Nat,2*n<=z->(((z:Int)-2*(n:Int)).tdiv 2=((z-2*n) / 2:Nat)):=fun z hz=>by rw [Int.tdiv_eq_ediv_of_nonneg (by omega)]; omega
 simp only [precX,Bool.or_eq_true,Bool.and_eq_true,decide_eq_true_eq,e1,e2]
 constructor
 ·rintro (⟨⟨⟨h1,h2⟩,h3⟩,h4⟩ | (⟨⟨h1,h2⟩,h3⟩ | ⟨⟨h1,h2⟩,h3⟩) | ⟨⟨⟨h1,h2⟩,h3,h4⟩,h5⟩)
  ·exact .inl (by omega)
  ·rw [e3 x (by omega)] at h3; exact .inr (.inl (by omega))
  ·rw [e3 y (by omega)] at h3; exact .inr (.inr (.inl (by omega)))
  ·exact .inr (.inr (.inr (by omega)))
 ·rintro (h | ⟨h1,h2,h3⟩ | ⟨h1,h2,h3⟩ | h)
  ·exact .inl (by omega)
  ·exact .inr (.inl (.inl ⟨by omega,by rw [e3 x h1]; omega⟩))
  ·exact .inr (.inl (.inr ⟨by omega,by rw [e3 y h1]; omega⟩))
  ·exact .inr (.inr (by omega))
theorem prec_tau {n m i k c d:Nat} (hi:i<m) (hk:k<m) (h:precM n m c d=true):precM n m (tauN n m i k c) (tauN n m i k d)=true:=by
 rw [prec_iff] at h ⊢
 obtain ⟨c1,c2⟩:=tau_div (n:=n) hi hk c
 obtain ⟨d1,d2⟩:=tau_div (n:=n) hi hk d
 rw [c1,c2,d1,d2]
 generalize c % (2*(n+m))=x at *
 generalize d % (2*(n+m))=y at *
 generalize c / (2*(n+m))=t at *
 generalize d / (2*(n+m))=u at *
 have r0 : ∀ z,z<2*n->rhoN n i k z=z:=fun z hz=>by unfold rhoN; rw [if_pos hz]
 have r1 : ∀ z,2*n<=z->rhoN n i k z=2*n+2*sgN i k ((z-2*n) / 2)+z % 2:=fun z hz=>by unfold rhoN; rw [if_neg (by omega)]
 rcases h with ⟨h1,h2,h3,h4⟩ | ⟨h1,h2,h3⟩ | ⟨h1,h2,h3⟩ | ⟨h1,h2,h3,h4,h5⟩
 ·rw [r0 x h1,r0 y h2]; exact .inl ⟨h1,h2,h3,h4⟩
 ·rw [r1 x h1,h3]; exact .inr (.inl (by omega))
 ·rw [r1 y h1,h3]; exact .inr (.inr (.inl (by omega)))
 ·rw [r1 x h1,r1 y h3,show (x-2*n) / 2=(y-2*n) / 2 by omega]; exact .inr (.inr (.inr (by omega)))
def Acc.sw (n i k:Nat) (a:Acc):Acc:=⟨sgN i k a.th,a.st,if a.ce<n then a.ce else n+sgN i k (a.ce-n),a.wr⟩
theorem maskS_map (f:Step->Step) (P:Step->Bool) (l:List Step):maskS P (l.map f)=maskS (fun s=>P (f s)) l:=by
 unfold maskS
 rw [List.zipIdx_map,List.foldl_map]; rfl
theorem reach_map (f:Step->Step) (inner:Step->Bool) (h1 : ∀ s,(f s).fr=s.fr) (h2 : ∀ s,(f s).to=s.to) (h3 : ∀ s,inner (f s)=inner s) (l:List Step):reachM inner (l.map f)=reachM inner l:=by
 have h0:reach0 (l.map f)=reach0 l:=by
  unfold reach0
  rw [List.map_map]
  refine List.map_congr_left fun x _ => ?_
  simp only [Function.comp,h2,maskS_map,h1]
 unfold reachM reachN
 rw [h0,List.length_map,List.zipIdx_map, <- List.map_take,List.foldl_map]
 congr 1
 simp only [Prod.map,h3,id]
section
variable {p:Prog} {i k:Nat} (hi:i<p.threads.length) (hk:k<p.threads.length) (hok:p.ok)
include hi hk hok
theorem stepAt_sw {a:Acc} (ha:a∈accsM p):(p.sw i k).stepAt (sgN i k a.th) a.st=Step.sw i k (p.stepAt a.th a.st):=by
 obtain ⟨x,s,h1,h2,_⟩:=mem_accs.1 ha
 rw [stepAt_of h1 h2]
 refine stepAt_of (x:=Thread.sw i k x) ?_ ?_
 ·rw [sw_get hi hk,sgN_sgN,h1]; rfl
 ·simp [Thread.sw,h2]
theorem acc_sw {a:Acc} (ha:a∈accsM p):a.sw p.cells.length i k∈accsM (p.sw i k):=by
 have hst:=acc_step hok ha
 obtain ⟨x,s,h1,h2,h3⟩:=mem_accs.1 ha
 rw [stepAt_of h1 h2] at hst
 refine mem_accs.2 ⟨Thread.sw i k x,Step.sw i k s, ?_, ?_,mem_accsS.2 ⟨rfl,rfl, ?_⟩⟩
 ·show (p.sw i k).threads[sgN i k a.th]? = _
  rw [sw_get hi hk,sgN_sgN,h1]; rfl
 ·simp [Thread.sw,Acc.sw,h2]
 rw [sw_kind,sw_clen]
 obtain ⟨_,_,h4 | h4⟩:=mem_accsS.1 h3
 ·left
  obtain ⟨hk6,hw,hc⟩:=h4
  refine ⟨hk6,hw, ?_⟩
  rcases hst with hst | hst
  ·omega
  obtain ⟨_,_,h0,_,_⟩:=hst
  obtain ⟨t,ht⟩:=Int.eq_ofNat_of_zero_le h0
  rw [sw_tgt hk6]
  show (if a.ce<p.cells.length then a.ce else p.cells.length+sgN i k (a.ce-p.cells.length))=_
  rw [ht] at hc ⊢
  rw [sg_nat,Int.toNat_natCast,if_neg (by omega),hc,Int.toNat_natCast,Nat.add_sub_cancel_left]
 ·right
  obtain ⟨hn,c,hc,he,hr⟩:=h4
  refine ⟨hn,c, ?_, ?_, ?_⟩
  ·rw [mem_ofM,ofThread_sw1, <- mem_ofM]; exact hc
  ·have hlt:a.ce<p.cells.length:=by
    rcases hst with h | h
    ·exact h.1
    ·exact absurd h.1 hn
   show (if a.ce<p.cells.length then a.ce else _)=_
   rw [if_pos hlt]; exact he
  ·have e1:readsM (Step.sw i k s)=readsM s:=by unfold readsM; rw [sw_guard,sw_set]
   have e2:writesM (Step.sw i k s)=writesM s:=by unfold writesM; rw [sw_set]
   rw [e1,e2]; exact hr
theorem cls_sw {a:Acc} (ha:a∈accsM p):clsM (p.sw i k) (a.sw p.cells.length i k)=tauN p.cells.length p.threads.length i k (clsM p a):=by
 obtain ⟨h1,h2⟩:=cls_at hok ha
 have hst:=acc_step hok ha
 unfold tauN
 rw [h1,h2]
 unfold clsM
 rw [sw_clen,sw_len]
 have e:(p.sw i k).stepAt (a.sw p.cells.length i k).th (a.sw p.cells.length i k).st=Step.sw i k (p.stepAt a.th a.st):=stepAt_sw hi hk hok ha
 rw [e,sw_kind]
 show sgN i k a.th*_+2*(if a.ce<p.cells.length then a.ce else p.cells.length+sgN i k (a.ce-p.cells.length))+_=_
 have hce:decide ((a.sw p.cells.length i k).ce<p.cells.length)=decide (a.ce<p.cells.length):=by
  rw [decide_eq_decide]
  show (if a.ce<p.cells.length then a.ce else p.cells.length+sgN i k (a.ce-p.cells.length))<_<->_
  split <;> omega
 rw [hce]
 show _+(if (a.wr&&decide (a.ce<p.cells.length))||decide ((p.stepAt a.th a.st).kind=7) then 1 else 0)=_
 generalize hb:(if (a.wr&&decide (a.ce<p.cells.length))||decide ((p.stepAt a.th a.st).kind=7) then 1 else 0)=b
 have hb1:b<=1:=by rw [<- hb]; split <;> omega
 unfold rhoN
 by_cases hc:a.ce<p.cells.length
 ·rw [if_pos hc,if_pos (by omega),Nat.add_assoc]
 ·rw [if_neg hc,if_neg (by omega),show (2*a.ce+b-2*p.cells.length) / 2=a.ce-p.cells.length by omega]
  omega
theorem ear_sw (model:Int) {a:Acc} (ha:a∈accsM p):(grM (p.sw i k) model).ear (a.sw p.cells.length i k)=(grM p model).ear a:=by
 show (a.wr&&decide (((p.sw i k).stepAt (sgN i k a.th) a.st).kind=3))=(a.wr&&decide ((p.stepAt a.th a.st).kind=3))
 rw [stepAt_sw hi hk hok ha,sw_kind]
theorem lat_sw (model:Int) {a:Acc} (ha:a∈accsM p):(grM (p.sw i k) model).lat (a.sw p.cells.length i k)=(grM p model).lat a:=by
 show lateM model ((p.sw i k).stepAt (sgN i k a.th) a.st).kind ((p.sw i k).stepAt (sgN i k a.th) a.st).release a.wr=lateM model (p.stepAt a.th a.st).kind (p.stepAt a.th a.st).release a.wr
 rw [stepAt_sw hi hk hok ha,sw_kind,sw_rel]
omit hok in
theorem row_sw (inner:Step->Bool) (h3 : ∀ s,inner (Step.sw i k s)=inner s) (t:Nat):(p.threads.map fun x=>reachM inner x.steps).getD t []=((p.sw i k).threads.map fun x=>reachM inner x.steps).getD (sgN i k t) []:=by
 rw [List.getD_eq_getElem?_getD,List.getD_eq_getElem?_getD,List.getElem?_map,List.getElem?_map,sw_get hi hk,sgN_sgN]
 cases p.threads[t]? with
 | none=>rfl
 | some x =>
   simp only [Option.map_some,Option.getD_some]
   exact (reach_map (Step.sw i k) inner sw_fr sw_to h3 x.steps).symm
theorem swp (model:Int):(grM p model).Swp (grM (p.sw i k) model) (sgN i k) (tauN p.cells.length p.threads.length i k):=by
 have hok2:=sw_ok hi hk hok
 have hlen:(grM p model).msk.length=p.threads.length*(2*(p.cells.length+p.threads.length)):=by simp [grM]
 have hlen2:(grM (p.sw i k) model).msk.length=p.threads.length*(2*(p.cells.length+p.threads.length)):=by simp [grM,sw_len,sw_clen]
 have hthr : ∀ c,(grM p model).thr c=c / (2*(p.cells.length+p.threads.length)):=fun c=>rfl
 have hthr2 : ∀ c,(grM (p.sw i k) model).thr c=c / (2*(p.cells.length+p.threads.length)):=fun c=>by
  show c / (2*((p.sw i k).cells.length+(p.sw i k).threads.length))=_
  rw [sw_len,sw_clen]
 have hT : ∀ c,(grM (p.sw i k) model).thr (tauN p.cells.length p.threads.length i k c)=sgN i k ((grM p model).thr c):=fun c=>by rw [hthr2,hthr,(tau_div hi hk c).1]
 have hin : ∀ s,innerM (Step.sw i k s)=innerM s:=fun s=>by unfold innerM; rw [sw_kind,sw_rel]
 have hmask : ∀ (f g:Acc->Bool),(∀ a∈accsM p,g (a.sw p.cells.length i k)=f a) -> ∀ c,subB ((grM p model).maskF f c (accsM p).length) ((grM (p.sw i k) model).maskF g (tauN p.cells.length p.threads.length i k c) (accsM (p.sw i k)).length):=by
  intro f g hfg c j hj
  obtain ⟨a,h1,h2,h3,h4⟩:=grM_maskF.1 hj
  exact grM_maskF.2 ⟨a.sw p.cells.length i k,acc_sw hi hk hok h1,by rw [hfg a h1]; exact h2,by rw [cls_sw hi hk hok h1,h3],h4⟩
 refine ⟨sw_len.symm,fun c hc => ?_,fun c _=>hT c,fun x y=>sgN_inj.1,fun c d _ _ h => ?_,fun c d _ _ h1 h2 => ?_,fun c d _ _ h => ?_,fun c _ j hj => ?_,fun c _ => ?_,fun c _=>hmask _ _ (fun a ha=>ear_sw hi hk hok model ha) c,fun c _=>hmask _ _ (fun a ha=>lat_sw hi hk hok model ha) c,fun c _ => ?_⟩
 ·rw [hlen] at hc
  rw [hlen2]
  have hs:0<2*(p.cells.length+p.threads.length):=by omega
  have h1:c / (2*(p.cells.length+p.threads.length))<p.threads.length:=(Nat.div_lt_iff_lt_mul hs).2 hc
  have h2:=(sgN_lt (t:=c / (2*(p.cells.length+p.threads.length))) hi hk).2 h1
  rw [<- (tau_div (n:=p.cells.length) hi hk c).1] at h2
  exact (Nat.div_lt_iff_lt_mul hs).1 h2
 ·obtain ⟨c1,c2⟩:=tau_div (n:=p.cells.length) hi hk c
  obtain ⟨d1,d2⟩:=tau_div (n:=p.cells.length) hi hk d
  rw [h] at c1 c2
  have q1:=sgN_inj.1 (c1.symm.trans d1)
  have q2:=rho_inj (c2.symm.trans d2)
  rw [<- Nat.div_add_mod c (2*(p.cells.length+p.threads.length)), <- Nat.div_add_mod d (2*(p.cells.length+p.threads.length)),q1,q2]
 ·rw [hthr,hthr] at h1
  unfold tauN at h2
  rw [h1] at h2
  have hev : ∀ t,t*(2*(p.cells.length+p.threads.length))=2*(t*(p.cells.length+p.threads.length)):=fun t=>by rw [Nat.mul_left_comm]
  rw [hev] at h2
  have h3:=rho_half (n:=p.cells.length) (i:=i) (k:=k) (y:=c % (2*(p.cells.length+p.threads.length))) (z:=d % (2*(p.cells.length+p.threads.length))) (by omega)
  have e1:=Nat.div_add_mod c (2*(p.cells.length+p.threads.length))
  have e2:=Nat.div_add_mod d (2*(p.cells.length+p.threads.length))
  rw [Nat.mul_comm,hev] at e1 e2
  rw [h1] at e1
  omega
 ·have:=prec_tau (i:=i) (k:=k) hi hk (show precM p.cells.length p.threads.length c d=true from h)
  show precM (p.sw i k).cells.length (p.sw i k).threads.length _ _=true
  rw [sw_len,sw_clen]; exact this
 ·obtain ⟨a,h1,h2,h3⟩:=(grM_mk hok).1 hj
  exact (grM_mk hok2).2 ⟨a.sw p.cells.length i k,acc_sw hi hk hok h1,by rw [cls_sw hi hk hok h1,h2],h3⟩
 ·rw [hT]; exact row_sw hi hk _ (fun _=>rfl) _
 ·rw [hT]; exact row_sw hi hk _ hin _
theorem short_sw (model:Int):(grM (p.sw i k) model).shortest=(grM p model).shortest:=by
 have hok2:=sw_ok hi hk hok
 have hi2:i<(p.sw i k).threads.length:=by rw [sw_len]; exact hi
 have hk2:k<(p.sw i k).threads.length:=by rw [sw_len]; exact hk
 have hnt:(grM (p.sw i k) model).nt=(grM p model).nt:=sw_len
 unfold Gr.shortest
 rw [hnt]
 congr 1
 funext r
 cases h1:(grM p model).atRest r
 ·cases h2:(grM (p.sw i k) model).atRest r
  ·rfl
  ·have:=(swp hi2 hk2 hok2 model).atRest h2
   rw [sw_sw hi hk,h1] at this; exact this.symm
 ·exact (swp hi hk hok model).atRest h1
theorem rob_sw (model:Int):robM (p.sw i k) model=robM p model:=by
 have hok2:=sw_ok hi hk hok
 unfold robM
 rw [short_sw hi hk hok]
 have e1:validB p=true:=by simpa [validB] using hok
 have e2:validB (p.sw i k)=true:=by simpa [validB] using hok2
 rw [e1,e2]
theorem cyc_sw (model:Int):(cycleM (p.sw i k) model).map List.length=(cycleM p model).map List.length:=by
 have hok2:=sw_ok hi hk hok
 have e1:validB p=true:=by simpa [validB] using hok
 have e2:validB (p.sw i k)=true:=by simpa [validB] using hok2
 unfold cycleM
 rw [e1,e2,if_pos rfl,if_pos rfl,Gr.cycle_len (grM_ok hok2 model) (grM_cls hok2 model),Gr.cycle_len (grM_ok hok model) (grM_cls hok model),short_sw hi hk hok]
end
def dlB (g:Gr) (x y:Acc):Bool:=decide (x.th=y.th)&&(decide (x.ce≠y.ce)&&((g.qkAt x.th x.st).testBit y.st&&(g.ear x&&g.lat y)))
theorem range_map {α:Type} (l:List Acc) (f:Acc->α):(List.range l.length).map (fun i=>f (l.getD i default))=l.map f:=by
 refine List.ext_getElem (by simp) fun n h1 h2 => ?_
 simp only [List.getElem_map,List.getElem_range,List.getD_eq_getElem?_getD]
 rw [List.getElem?_eq_getElem (by simpa using h2)]; rfl
theorem delays_len (g:Gr):g.delays.length=(g.all.map fun x=>g.all.countP (dlB g x)).sum:=by
 unfold Gr.delays
 rw [List.length_flatMap]
 rw [<- range_map g.all fun x=>g.all.countP (dlB g x)]
 congr 1
 refine List.map_congr_left fun a _ => ?_
 rw [List.length_map, <- List.countP_eq_length_filter]
 have e:g.all=(List.range g.all.length).map fun i=>g.all.getD i default:=by have:=range_map g.all id; simpa using this.symm
 have key : ∀ X,List.countP (fun b=>dlB g X (g.ac b)) (List.range g.all.length)=g.all.countP (dlB g X):=fun X=>by
  conv=>rhs; rw [e]
  rw [List.countP_map]; rfl
 exact key _
theorem delays_sw {p:Prog} {i k:Nat} (hi:i<p.threads.length) (hk:k<p.threads.length) (hok:p.ok) (model:Int):(delaysM (p.sw i k) model).length=(delaysM p model).length:=by
 have hok2:=sw_ok hi hk hok
 have e1:validB p=true:=by simpa [validB] using hok
 have e2:validB (p.sw i k)=true:=by simpa [validB] using hok2
 unfold delaysM
 rw [e1,e2,if_pos rfl,if_pos rfl,delays_len,delays_len]
 have hi2:i<(p.sw i k).threads.length:=by rw [sw_len]; exact hi
 have hk2:k<(p.sw i k).threads.length:=by rw [sw_len]; exact hk
 have hinv : ∀ a:Acc,(a.sw p.cells.length i k).sw p.cells.length i k=a:=by
  rintro ⟨t,s,c,w⟩
  simp only [Acc.sw,sgN_sgN,Acc.mk.injEq,true_and,and_true]
  by_cases hc:c<p.cells.length
  ·simp [hc]
  ·rw [if_neg hc,if_neg (by omega),Nat.add_sub_cancel_left,sgN_sgN]; omega
 have hnd:((accsM p).map (Acc.sw p.cells.length i k)).Nodup:=by
  refine List.Pairwise.map _ ?_ accsM_nodup
  intro a b hab h
  apply hab
  rw [<- hinv a,h,hinv]
 have hperm:(accsM (p.sw i k)).Perm ((accsM p).map (Acc.sw p.cells.length i k)):=by
  rw [List.perm_ext_iff_of_nodup accsM_nodup hnd]
  intro a
  rw [List.mem_map]
  constructor
  ·intro ha
   have:=acc_sw hi2 hk2 hok2 ha
   rw [sw_sw hi hk,sw_clen] at this
   exact ⟨_,this,hinv a⟩
  ·rintro ⟨b,hb,rfl⟩
   exact acc_sw hi hk hok hb
 have hdl : ∀ x∈accsM p, ∀ y∈accsM p,dlB (grM (p.sw i k) model) (x.sw p.cells.length i k) (y.sw p.cells.length i k)=dlB (grM p model) x y:=by
  intro x hx y hy
  unfold dlB
  have h1:decide ((x.sw p.cells.length i k).th=(y.sw p.cells.length i k).th)=decide (x.th=y.th):=by rw [decide_eq_decide]; exact sgN_inj
  have h2:decide ((x.sw p.cells.length i k).ce≠(y.sw p.cells.length i k).ce)=decide (x.ce≠y.ce):=by
   rw [decide_eq_decide]
   refine not_congr ?_
   show (if x.ce<p.cells.length then x.ce else p.cells.length+sgN i k (x.ce-p.cells.length))=(if y.ce<p.cells.length then y.ce else p.cells.length+sgN i k (y.ce-p.cells.length))<->x.ce=y.ce
   constructor
   ·intro h
    split at h <;> split at h
    ·exact h
    ·omega
    ·omega
    ·have:=sgN_inj.1 (Nat.add_left_cancel h); omega
   ·intro h; rw [h]
  have h3:(grM (p.sw i k) model).qkAt (x.sw p.cells.length i k).th (x.sw p.cells.length i k).st=(grM p model).qkAt x.th x.st:=by
   show ((((p.sw i k).threads.map fun x=>reachM innerM x.steps).getD (sgN i k x.th) []).getD x.st 0)=(((p.threads.map fun x=>reachM innerM x.steps).getD x.th []).getD x.st 0)
   rw [<- row_sw hi hk innerM (fun s=>by unfold innerM; rw [sw_kind,sw_rel])]
  rw [h1,h2,h3,ear_sw hi hk hok model hx,lat_sw hi hk hok model hy]
  rfl
 show ((accsM (p.sw i k)).map fun x=>(accsM (p.sw i k)).countP (dlB (grM (p.sw i k) model) x)).sum=((accsM p).map fun x=>(accsM p).countP (dlB (grM p model) x)).sum
 have hc : ∀ x,(accsM (p.sw i k)).countP (dlB (grM (p.sw i k) model) x)=((accsM p).map (Acc.sw p.cells.length i k)).countP (dlB (grM (p.sw i k) model) x):=fun x=>hperm.countP_eq _
 simp only [hc]
 rw [(hperm.map _).sum_nat,List.map_map]
 congr 1
 refine List.map_congr_left fun x hx => ?_
 simp only [Function.comp]
 rw [List.countP_map]
 refine List.countP_congr fun y hy => ?_
 simp only [Function.comp]
 rw [hdl x hx y hy]
end Rg
end
section
namespace Rg
open Go
def atomS (k:Int) (s:Step):Step:=if s.kind=k then { s with kind:=4,release:=false } else s
variable {p:Prog} {k:Int}
end Rg
end
section
namespace Rg
open Go
def rowsT (f:Nat->Nat->Nat):List T:=(List.range 256).map fun j => .int .u64 (f (j / 64) (j % 64):Nat)
def restT (g:Gr):List T:=rowsT g.ldAt++rowsT g.qkAt++[.opq]
abbrev u64s (l:List Nat):T:=.sl (l.map fun m:Nat=>[.int .u64 m])
theorem rowsT_len (f:Nat->Nat->Nat):(rowsT f).length=256:=by simp [rowsT]
theorem rowsT_at (f:Nat->Nat->Nat) {t i:Nat} (ht:t<4) (hi:i<64):(rowsT f)[t*64+i]? = some (.int .u64 (f t i)):=by
 simp only [rowsT,List.getElem?_map]
 rw [List.getElem?_range (by omega)]
 simp only [Option.map_some]
 rw [show (t*64+i) / 64=t by omega,show (t*64+i) % 64=i by omega]
theorem take1_at {α:Type} {l:List α} {i:Nat} {x:α} (h:l[i]? = some x):List.take 1 (List.drop i l)=[x]:=by
 have hi:=(List.getElem?_eq_some_iff.1 h).1
 rw [drop_of h]; rfl
theorem rest_ld (g:Gr) {t i:Nat} (ht:t<4) (hi:i<64):List.take 1 (List.drop i (List.drop (t*64) (restT g)))=[.int .u64 (g.ldAt t i)]:=by
 rw [List.drop_drop]
 refine take1_at ?_
 rw [restT,List.append_assoc,List.getElem?_append_left (by rw [rowsT_len]; omega),rowsT_at _ ht hi]
theorem rest_qk (g:Gr) {t i:Nat} (ht:t<4) (hi:i<64):List.take 1 (List.drop i (List.drop (t*64) (List.drop 256 (restT g))))=[.int .u64 (g.qkAt t i)]:=by
 rw [List.drop_drop,List.drop_drop]
 refine take1_at ?_
 rw [restT,List.append_assoc,List.getElem?_append_right (by rw [rowsT_len]; omega),rowsT_len,show 256+(t*64+i)-256=t*64+i by omega,List.getElem?_append_left (by rw [rowsT_len]; omega),rowsT_at _ ht hi]
theorem rest_len (g:Gr):(restT g).length=513:=by simp [restT,rowsT_len]
theorem natE (a b:Nat):((a:Int)=(b:Int))=(a=b):=propext Int.ofNat_inj
abbrev grT (cs ms ls ts:List (List T)) (model:Int) (g:Gr):T:=.ip (.sl cs :: .sl ms :: .sl ls :: .sl ts :: .int .i64 model :: .sl (g.all.map Acc.enc)::ints (g.cls.map fun c:Nat=>(c:Int))::u64s g.msk::restT g)
theorem partner_den (cs ms ls ts:List (List T)) (model:Int) (g:Gr) (hg:g.Ok) (hn:g.nt<=4) (a b:Nat) (ha:a<g.all.length) (hb:b<g.all.length) :
 Den Γ G 327 [.t (grT cs ms ls ts model g),vi a,vi b]=some (vb (g.partner a b)):=by
 (refine den_ofY Γ327 rfl ?_; dsimp only [f327])
 have hxa:g.all[a]? = some (g.ac a):=by simp [Gr.ac,List.getD_eq_getElem?_getD,List.getElem?_eq_getElem ha]
 have hxb:g.all[b]? = some (g.ac b):=by simp [Gr.ac,List.getD_eq_getElem?_getD,List.getElem?_eq_getElem hb]
 have ht:(g.ac a).th<4:=by have:=hg.th_lt a ha; omega
 have hi:=hg.st_lt a ha
 have hj:=hg.st_lt b hb
 have hr:=rest_ld g ht hi
 have ht' : (((g.ac a).th:Int)<4)=True:=by simp; omega
 have hi' : (((g.ac a).st:Int)<64)=True:=by simp; omega
 have hlt:=hg.ld_lt (g.ac a).th (g.ac a).st
 have hs:=u_shr (g.ldAt (g.ac a).th (g.ac a).st) (g.ac b).st (by omega)
 have h1:=u_and1 (u_shrlt (i:=(g.ac b).st) hlt)
 have hb1:=u_bit (a:=g.ldAt (g.ac a).th (g.ac a).st) (i:=(g.ac b).st) (by omega)
 unfold Gr.partner
 have hl:=rest_len g
 have hc1:(1<=(List.drop (g.ac a).st (List.drop ((g.ac a).th*64) (restT g))).length)=True:=by simp [hl]; omega
 have hm1:(g.ac a).st*1=(g.ac a).st:=by omega
 simp -dsimp -implicitDefEqProofs only [go_sem,seval,hxa,hxb,natE]
 refine csplit (fun h => ?_) (fun h => ?_) <;> (try rw [h]) <;> (try simp only [bools] at h) <;> (try simp -dsimp -implicitDefEqProofs only [go_sem,seval,natE])
 ·refine csplit (fun h => ?_) (fun h => ?_) <;> (try rw [h]) <;> (try simp only [bools] at h) <;> (try simp -dsimp -implicitDefEqProofs only [go_sem,seval,natE])
  ·refine csplit (fun h => ?_) (fun h => ?_) <;> (try rw [h]) <;> (try simp only [bools] at h) <;> (try simp -dsimp -implicitDefEqProofs only [go_sem,seval,natE])
   ·simp_all
   ·simp -dsimp -implicitDefEqProofs only [go_sem,seval,ht',hi',hr,hs,h1,hb1,hc1,hm1]
    simp_all
  ·simp_all
 ·simp_all
theorem delay_den (cs ms ls:List (List T)) (p:Prog) (hp:p.ok) (model:Int) (a b:Nat) (ha:a<(accsM p).length) (hb:b<(accsM p).length) :
 Den Γ G 306 [.t (grT cs ms ls (p.threads.map Thread.enc) model (grM p model)),vi a,vi b]=some (vb ((grM p model).delay a b)):=by
 have hg:=grM_ok hp model
 have hn:=(limits_iff.1 (ok_iff.1 hp).lim).1.2.2.2
 generalize hG:grM p model=g at hg ⊢
 have hal:g.all=accsM p:=by rw [<- hG]; rfl
 have hxa:g.all[a]? = some (g.ac a):=by simp [Gr.ac,List.getD_eq_getElem?_getD,hal,List.getElem?_eq_getElem ha]
 have hxb:g.all[b]? = some (g.ac b):=by simp [Gr.ac,List.getD_eq_getElem?_getD,hal,List.getElem?_eq_getElem hb]
 have hma:g.ac a∈accsM p:=by rw [<- hal]; exact List.mem_of_getElem? hxa
 have hmb:g.ac b∈accsM p:=by rw [<- hal]; exact List.mem_of_getElem? hxb
 obtain ⟨x,s,hx1,hx2,_⟩:=mem_accs.1 hma
 obtain ⟨y,r,hy1,hy2,_⟩:=mem_accs.1 hmb
 have hb1:=ok_acc hp hma
 have hb2:=ok_acc hp hmb
 have hear:g.ear (g.ac a)=((g.ac a).wr&&decide (s.kind=3)):=by rw [<- hG]; show (_&&decide ((p.stepAt _ _).kind=3))=_; rw [hG,stepAt_of hx1 hx2]
 have hlat:g.lat (g.ac b)=lateM model r.kind r.release (g.ac b).wr:=by rw [<- hG]; show lateM model (p.stepAt _ _).kind (p.stepAt _ _).release _=_; rw [hG,stepAt_of hy1 hy2]
 have he:=gearly_den cs ms ls (p.threads.map Thread.enc) (x.steps.map Step.enc) (.int .i64 model :: .sl (g.all.map Acc.enc)::ints (g.cls.map fun c:Nat=>(c:Int))::u64s g.msk::restT g) _ _ _ _ _ _ _ _ _ _ _ _ _ _ _ _ s.kind (g.ac a).th (g.ac a).st (g.ac a).ce (g.ac a).wr (by rw [List.getElem?_map,hx1]; rfl) (by rw [List.getElem?_map,hx2,Option.map_some,Step.enc,Expr.enc_eq]; rfl)
 have hla:=glate_den cs ms ls (p.threads.map Thread.enc) (y.steps.map Step.enc) (.sl (g.all.map Acc.enc)::ints (g.cls.map fun c:Nat=>(c:Int))::u64s g.msk::restT g) _ _ _ _ _ _ _ _ _ _ _ _ _ _ _ r.kind model r.release (g.ac b).th (g.ac b).st (g.ac b).ce (g.ac b).wr (by rw [List.getElem?_map,hy1]; rfl) (by rw [List.getElem?_map,hy2,Option.map_some,Step.enc,Expr.enc_eq]; rfl)
 (refine den_ofY Γ306 rfl ?_; dsimp only [f306])
 have ht:(g.ac a).th<4:=by omega
 have hi:(g.ac a).st<64:=by omega
 have hj:(g.ac b).st<64:=by omega
 have hr:=rest_qk g ht hi
 have ht' : (((g.ac a).th:Int)<4)=True:=by simp; omega
 have hi' : (((g.ac a).st:Int)<64)=True:=by simp; omega
 have hlt:=hg.qk_lt (g.ac a).th (g.ac a).st
 have hs:=u_shr (g.qkAt (g.ac a).th (g.ac a).st) (g.ac b).st (by omega)
 have h1:=u_and1 (u_shrlt (i:=(g.ac b).st) hlt)
 have hb1:=u_bit (a:=g.qkAt (g.ac a).th (g.ac a).st) (i:=(g.ac b).st) (by omega)
 unfold Gr.delay
 rw [hear,hlat]
 have hl:=rest_len g
 have hc1:(1<=(List.drop (g.ac a).st (List.drop ((g.ac a).th*64) (List.drop 256 (restT g)))).length)=True:=by simp [hl]; omega
 have hm1:(g.ac a).st*1=(g.ac a).st:=by omega
 simp -dsimp -implicitDefEqProofs only [go_sem,seval,hxa,hxb,natE]
 refine csplit (fun h => ?_) (fun h => ?_) <;> (try rw [h]) <;> (try simp only [bools] at h) <;> (try simp -dsimp -implicitDefEqProofs only [go_sem,seval,natE])
 ·refine csplit (fun h => ?_) (fun h => ?_) <;> (try rw [h]) <;> (try simp only [bools] at h) <;> (try simp -dsimp -implicitDefEqProofs only [go_sem,seval,natE,ht',hi',hr,hs,h1,hb1,hc1,hm1])
  ·refine csplit (fun h => ?_) (fun h => ?_) <;> (try rw [h]) <;> (try simp only [bools] at h) <;> (try simp -dsimp -implicitDefEqProofs only [go_sem,seval,natE,he])
   ·cases hw:(g.ac a).wr&&decide (s.kind=3)
    ·simp -dsimp -implicitDefEqProofs only [go_sem,seval,hw]
     simp_all
    ·simp -dsimp -implicitDefEqProofs only [go_sem,seval,hw,hla]
     simp_all
   ·simp_all
  ·simp_all
 ·simp_all
theorem u_not {a b:Nat} (ha:a<2^64) (hb:b<2^64):IntKind.u64.wrap ((BitVec.ofInt IntKind.u64.bits (a:Int) &&& ~~~BitVec.ofInt IntKind.u64.bits (b:Int)).toNat:Int)=((a &&& (2^64-1-b):Nat):Int):=by
 show IntKind.u64.wrap ((BitVec.ofInt 64 (a:Int) &&& ~~~BitVec.ofInt 64 (b:Int)).toNat:Int)=_
 rw [BitVec.toNat_and,BitVec.toNat_not,u_bv ha,u_bv hb,u_wrap (Nat.and_lt_two_pow _ (by omega))]
theorem row_eq {l:List Nat} (h:l.length=64):l=(List.range 64).map fun i=>l.getD i 0:=by
 refine List.ext_getElem (by simp [h]) fun i h1 h2 => ?_
 simp only [List.getElem_map,List.getElem_range,List.getD_eq_getElem?_getD,List.getElem?_eq_getElem h1,Option.getD_some]
theorem rest_row (g:Gr) {t:Nat} (ht:t<4) (hl:(g.ld.getD t []).length=64):(List.take 64 (List.drop (t*64) (restT g))).map V.t=arr (g.ld.getD t []):=by
 rw [row_eq hl,arr,List.map_map]
 refine List.ext_getElem ?_ fun i h1 h2 => ?_
 ·simp only [List.length_map,List.length_take,List.length_drop,rest_len,List.length_range]; omega
 ·have hi:i<64:=by simpa using h2
  have:=rest_ld g ht hi
  have hr:(restT g)[t*64+i]? = some (.int .u64 (g.ldAt t i)):=by
   rw [restT,List.append_assoc,List.getElem?_append_left (by rw [rowsT_len]; omega),rowsT_at _ ht hi]
  obtain ⟨h3,h4⟩:=List.getElem?_eq_some_iff.1 hr
  simp only [List.getElem_map,List.getElem_take,List.getElem_drop,List.getElem_range,Function.comp,h4]
  rfl
theorem rest_qrow (g:Gr) {t:Nat} (ht:t<4) (hl:(g.qk.getD t []).length=64):(List.take 64 (List.drop (t*64) (List.drop 256 (restT g)))).map V.t=arr (g.qk.getD t []):=by
 rw [row_eq hl,arr,List.map_map]
 refine List.ext_getElem ?_ fun i h1 h2 => ?_
 ·simp only [List.length_map,List.length_take,List.length_drop,rest_len,List.length_range]; omega
 ·have hi:i<64:=by simpa using h2
  have hr:(restT g)[256+(t*64+i)]? = some (.int .u64 (g.qkAt t i)):=by
   rw [restT,List.append_assoc,List.getElem?_append_right (by rw [rowsT_len]; omega),rowsT_len,show 256+(t*64+i)-256=t*64+i by omega,List.getElem?_append_left (by rw [rowsT_len]; omega),rowsT_at _ ht hi]
  obtain ⟨h3,h4⟩:=List.getElem?_eq_some_iff.1 hr
  simp only [List.getElem_map,List.getElem_take,List.getElem_drop,List.getElem_range,Function.comp,h4]
  rfl
def rowN (same:Bool) (r:List Nat) (i:Nat):List Nat:=(r.mapIdx fun i m=>Gr.rowC same i m).take i++r.drop i
theorem rowN_len {same:Bool} {r:List Nat} {i:Nat} (h:i<=r.length):(rowN same r i).length=r.length:=by simp [rowN]; omega
theorem rowN_at {same:Bool} {r:List Nat} {i x:Nat} (h:r[i]? = some x):(rowN same r i)[i]? = some x:=by
 have hi:=(List.getElem?_eq_some_iff.1 h).1
 have hl:((r.mapIdx fun i m=>Gr.rowC same i m).take i).length=i:=by simp; omega
 rw [rowN,List.getElem?_append_right (by omega),hl,Nat.sub_self,List.getElem?_drop]; simpa using h
theorem rowN_succ {same:Bool} {r:List Nat} {i x:Nat} (hx:r[i]? = some x):rowN same r (i+1)=(rowN same r i).set i (Gr.rowC same i x):=by
 have hi:=(List.getElem?_eq_some_iff.1 hx).1
 have hl:((r.mapIdx fun i m=>Gr.rowC same i m).take i).length=i:=by simp; omega
 have he:(r.mapIdx fun i m=>Gr.rowC same i m)[i]? = some (Gr.rowC same i x):=by simp [List.getElem?_mapIdx,hx]
 rw [rowN,take_succ_of he,rowN,List.set_append_right _ _ (by omega),hl,Nat.sub_self,drop_of hx]
 simp
theorem rowN_zero (same:Bool) (r:List Nat):rowN same r 0=r:=by simp [rowN]
theorem rowN_end (same:Bool) (r:List Nat):rowN same r r.length=r.mapIdx fun i m=>Gr.rowC same i m:=by
 simp [rowN]; exact List.take_of_length_le (by simp)
theorem rowC_lt {same:Bool} {i m:Nat} (hi:i<64) (hm:m<2^64):Gr.rowC same i m<2^64:=by
 unfold Gr.rowC
 split
 ·exact Nat.and_lt_two_pow _ (Nat.lt_of_le_of_lt (Nat.sub_le _ _) (by decide))
 ·exact Nat.or_lt_two_pow hm (one_lt hi)
set_option maxHeartbeats 1000000
theorem couple_den (cs ms ls ts:List (List T)) (model:Int) (g:Gr) (hg:g.Ok) (hn:g.nt<=4) (hcs:g.nc=cs.length) (hcl:cs.length<2^20) (hts:g.nt=ts.length) (c d:Nat) (hc:c<g.msk.length) (hd:d<g.msk.length) :
 Den Γ G 325 [.t (grT cs ms ls ts model g),vi c,vi d]=some (vb (g.couple c d)):=by
 (refine den_ofY Γ325 rfl ?_; dsimp only [f325])
 have hml:=hg.msk_len
 have hsz:g.sz=2*(cs.length+ts.length):=by unfold Gr.sz; rw [hcs,hts]
 have h0:0<cs.length+ts.length:=by
  apply Classical.byContradiction; intro h
  have:g.sz=0:=by omega
  rw [this] at hml; omega
 have hbig:g.msk.length<=4*g.sz:=by rw [hml]; exact Nat.mul_le_mul_right _ hn
 have hth:=gthread_den cs ms ls ts (.int .i64 model :: .sl (g.all.map Acc.enc)::ints (g.cls.map fun c:Nat=>(c:Int))::u64s g.msk::restT g) c (by omega) (by omega) h0 (by omega)
 have hthr:c / (2*(cs.length+ts.length))=g.thr c:=by unfold Gr.thr; rw [hsz]
 rw [hthr] at hth
 have ht:g.thr c<g.nt:=by
  rw [Gr.thr,Nat.div_lt_iff_lt_mul (by omega)]; omega
 have ht' : ((g.thr c:Int)<4)=True:=by simp; omega
 have hrow:=rest_row g (t:=g.thr c) (by omega) (hg.ld_row _ ht)
 have hrl:=hg.ld_row _ ht
 have hl:=rest_len g
 have hc1:(64<=(List.drop (g.thr c*64) (restT g)).length)=True:=by simp [hl]; omega
 have hal:(arr (g.ld.getD (g.thr c) [])).length=64:=by rw [arr_len,hrl]
 have hRb : ∀ x∈g.ld.getD (g.thr c) [],x<2^64:=by
  intro x hx
  obtain ⟨i,hi,rfl⟩:=List.mem_iff_getElem.1 hx
  have:=hg.ld_lt (g.thr c) i
  rw [Gr.ldAt,List.getD_eq_getElem?_getD,List.getElem?_eq_getElem hi] at this
  exact this
 have hxc:g.msk[c]? = some (g.mks c):=by simp [Gr.mks,List.getD_eq_getElem?_getD,List.getElem?_eq_getElem hc]
 have hxd:g.msk[d]? = some (g.mks d):=by simp [Gr.mks,List.getD_eq_getElem?_getD,List.getElem?_eq_getElem hd]
 have hgoal:g.couple c d=meetsM (g.mks c) (g.mks d) ((g.ld.getD (g.thr c) []).mapIdx fun i m=>Gr.rowC (decide (c=d)) i m):=rfl
 rw [hgoal]
 have hcd:((c:Int)=(d:Int))=(decide (c=d)=true):=by rw [decide_eq_true_eq]; exact propext Int.ofNat_inj
 have hkc:=hg.mk_lt c
 have hkd:=hg.mk_lt d
 simp -dsimp -implicitDefEqProofs only [go_sem,seval,hth,ht',hc1,hrow,hal]
 generalize g.ld.getD (g.thr c) []=R at hrow hrl hal hRb ⊢
 generalize decide (c=d)=sm at hcd ⊢
 refine loopY 274877776256 64 (fun i f=>(f 17).v=vi i/\(f 7).v = .lb/\(f 7).box=some (arr (rowN sm R i))) rfl rfl ⟨by simp -dsimp -implicitDefEqProofs only [go_sem,seval],by simp -dsimp -implicitDefEqProofs only [go_sem,seval],by simp -dsimp -implicitDefEqProofs only [go_sem,seval]; rw [rowN_zero]⟩ ?_
 rintro i f u kk bb hi ⟨h17,h7,h7b⟩
 have hw:=wrapS i (by omega)
 simp -dsimp -implicitDefEqProofs only [go_sem,seval,h17]
 refine csplit (fun h => ?_) (fun h => ?_) <;> (try rw [h]) <;> (try simp only [bools] at h) <;> (try simp -dsimp -implicitDefEqProofs only [go_sem,seval,h17])
 ·obtain ⟨x,hx,hxm⟩:=get_of (show i<R.length by omega)
  have hsucc:=rowN_succ (same:=sm) hx
  have hat:=arr_at (rowN_at (same:=sm) hx)
  have hrN:=rowN_len (same:=sm) (r:=R) (i:=i) (by omega)
  have hal2:(arr (rowN sm R i)).length=64:=by rw [arr_len,hrN,hrl]
  have hs1:=u_shl (i:=i) (by omega)
  have ho:=u_or (hRb x hxm) (one_lt (i:=i) (by omega))
  have hwr:=arr_wr (l:=rowN sm R i) (i:=i) (by omega) (x ||| 1 <<< i)
  have hi64:((i:Int)<64)=True:=by simp; omega
  have hi63:(i<=63)=True:=by simp; omega
  have hm1:i*1=i:=by omega
  simp -dsimp -implicitDefEqProofs only [go_sem,seval,h17,h7,h7b,hat,hs1,ho,hal2,hi64,hi63,hm1,hcd,hwr]
  cases sm
  ·have hrc:Gr.rowC false i x=x ||| 1 <<< i:=rfl
   rw [hrc] at hsucc
   simp -dsimp -implicitDefEqProofs only [go_sem,seval,h17]
   refine ⟨by omega,by simp -dsimp -implicitDefEqProofs only [go_sem,seval,h17,hw],by simp -dsimp -implicitDefEqProofs only [go_sem,seval,h7], ?_⟩
   simp -dsimp -implicitDefEqProofs only [go_sem,seval,hsucc]
  ·have hy:x ||| 1 <<< i<2^64:=Nat.or_lt_two_pow (hRb x hxm) (one_lt (by omega))
   have hat2:=arr_at (set_at (y:=x ||| 1 <<< i) (rowN_at (same:=true) hx))
   have hal3:(arr ((rowN true R i).set i (x ||| 1 <<< i))).length=64:=by rw [arr_len,List.length_set,hrN,hrl]
   have hno:=u_not hy (one_lt (i:=i) (by omega))
   have hwr2:=arr_wr (l:=(rowN true R i).set i (x ||| 1 <<< i)) (i:=i) (by rw [List.length_set]; omega) ((x ||| 1 <<< i) &&& (2^64-1-1 <<< i))
   rw [List.set_set] at hwr2
   have hrc:Gr.rowC true i x=(x ||| 1 <<< i) &&& (2^64-1-1 <<< i):=rfl
   rw [hrc] at hsucc
   simp -dsimp -implicitDefEqProofs only [go_sem,seval,h17,h7,hat2,hs1,hno,hal3,hi64,hi63,hm1]
   refine ⟨by omega,by simp -dsimp -implicitDefEqProofs only [go_sem,seval,h17,hw],by simp -dsimp -implicitDefEqProofs only [go_sem,seval,h7], ?_⟩
   simp -dsimp -implicitDefEqProofs only [go_sem,seval,hsucc]
   exact hwr2
 ·have hi6:i=64:=by omega
  subst hi6
  have htk : ∀ l:List Nat,l.length=64->List.take 64 (arr l)=arr l:=fun l hl=>List.take_of_length_le (by rw [arr_len]; omega)
  rw [<- hrl,rowN_end] at h7b
  generalize hR2:(R.mapIdx fun i m=>Gr.rowC sm i m)=R2 at h7b ⊢
  have hR2l:R2.length=64:=by rw [<- hR2]; simp [hrl]
  have hR2b : ∀ x∈R2,x<2^64:=by
   intro x hx
   rw [<- hR2] at hx
   obtain ⟨i,hi,rfl⟩:=List.mem_iff_getElem.1 hx
   rw [List.getElem_mapIdx]
   exact rowC_lt (by simp at hi; omega) (hRb _ (List.getElem_mem _))
  have hmd:=meets_den (g.mks c) (g.mks d) R2 hR2l hkc hkd hR2b
  have hal2:(arr R2).length=64:=by rw [arr_len,hR2l]
  have ht2:=htk R2 hR2l
  have hmd' : Den Γ G 320 [.t (.int .u64 (g.mks c)), .t (.int .u64 (g.mks d)), .agg (arr R2)]=some (vb (meetsM (g.mks c) (g.mks d) R2)):=hmd
  have htt:=arr_toT (fun _=>none) 1000 R2
  rw [show arr R2=List.map V.t (List.map (fun x:Nat=>T.int .u64 x) R2) by simp [arr]] at hmd'
  simp -dsimp -implicitDefEqProofs only [go_sem,seval,h7,h7b,hxc,hxd,hal2,ht2,htt,hmd']
end Rg
end
