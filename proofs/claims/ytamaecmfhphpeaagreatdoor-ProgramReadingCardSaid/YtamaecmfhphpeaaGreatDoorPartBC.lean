/- Part of the proof of the laws of the package relyguardlaw07: an abstract machine for the program's functions, what they compute, and that the machine is the program's. No condition. (H32b H32d H31b H32c H13p) -/
import Derived.Test.YtamaecmfhphpeaaGreatDoorPartBB
import Derived.Test.YtamaecmfhphpeaaGreatDoorPartAZ
import Derived.Test.YtamaecmfhphpeaaGreatDoorPartAV
import Derived.Test.YtamaecmfhphpeaaGreatDoorPartAW
set_option linter.unusedSimpArgs false
set_option linter.unusedVariables false
section
namespace Rg
open Go
theorem fe_at {α:Type} {f:Nat->α->Int} : ∀ {l:List α} {i:Nat} {e s:Int},e≠0->(feGo f i l=(e,s) <-> ∃ (j:Nat) (x:α),s=((i+j:Nat):Int)/\l[j]? = some x/\f (i+j) x=e /\ ∀ (k:Nat) (y:α),k<j->l[k]? = some y->f (i+k) y=0)
 | [],i,e,s,he=>by
  constructor
  ·intro h; simp only [feGo,Prod.mk.injEq] at h; exact absurd h.1.symm he
  ·rintro ⟨j,x,_,h,_⟩; simp at h
 | y::r,i,e,s,he=>by
  rw [feGo]
  by_cases h0:f i y=0
  ·rw [if_pos h0,fe_at he]
   constructor
   ·rintro ⟨j,x,hs,hx,hf,hk⟩
    refine ⟨j+1,x,by omega,by simpa using hx,by rw [<- hf]; congr 1; omega,fun k z hk1 hz => ?_⟩
    cases k with
    | zero=>simp at hz; subst hz; exact h0
    | succ k =>
     have:=hk k z (by omega) (by simpa using hz)
     rwa [show i+1+k=i+(k+1) by omega] at this
   ·rintro ⟨j,x,hs,hx,hf,hk⟩
    cases j with
    | zero=>simp at hx; subst hx; exact absurd (hf.symm.trans h0) he
    | succ j =>
     refine ⟨j,x,by omega,by simpa using hx,by rw [<- hf]; congr 1; omega,fun k z hk1 hz => ?_⟩
     have:=hk (k+1) z (by omega) (by simpa using hz)
     rwa [show i+(k+1)=i+1+k by omega] at this
  ·rw [if_neg h0]
   constructor
   ·intro h
    simp only [Prod.mk.injEq] at h
    exact ⟨0,y,by omega,rfl,h.1,fun k z hk=>by omega⟩
   ·rintro ⟨j,x,hs,hx,hf,hk⟩
    cases j with
    | zero=>simp at hx; subst hx; rw [Prod.mk.injEq]; exact ⟨hf,by omega⟩
    | succ j=>exact absurd (hk 0 y (by omega) rfl) h0
theorem thr_none {p:Prog} : ∀ {l:List Thread} {i:Nat},(thrGo p i l).1=0->thrGo p i l=(0, -1, -1)
 | [],i,_=>rfl
 | y::r,i,h=>by
  rw [thrGo] at h ⊢
  split at h
  ·rename_i h0; rw [if_pos h0]; exact thr_none h
  ·rename_i h0; exact absurd h h0
theorem thr_at {p:Prog} : ∀ {l:List Thread} {i:Nat} {e t s:Int},e≠0->(thrGo p i l=(e,t,s) <-> ∃ (j:Nat) (x:Thread),t=((i+j:Nat):Int)/\l[j]? = some x/\threadErr p (i+j) x=(e,s) /\ ∀ (k:Nat) (y:Thread),k<j->l[k]? = some y->(threadErr p (i+k) y).1=0)
 | [],i,e,t,s,he=>by
  constructor
  ·intro h; simp only [thrGo,Prod.mk.injEq] at h; exact absurd h.1.symm he
  ·rintro ⟨j,x,_,h,_⟩; simp at h
 | y::r,i,e,t,s,he=>by
  rw [thrGo]
  by_cases h0:(threadErr p i y).1=0
  ·rw [if_pos h0,thr_at he]
   constructor
   ·rintro ⟨j,x,hs,hx,hf,hk⟩
    refine ⟨j+1,x,by omega,by simpa using hx,by rw [<- hf]; congr 1; omega,fun k z hk1 hz => ?_⟩
    cases k with
    | zero=>simp at hz; subst hz; exact h0
    | succ k =>
     have:=hk k z (by omega) (by simpa using hz)
     rwa [show i+1+k=i+(k+1) by omega] at this
   ·rintro ⟨j,x,hs,hx,hf,hk⟩
    cases j with
    | zero=>simp at hx; subst hx; rw [Nat.add_zero] at hf; rw [hf] at h0; exact absurd h0 he
    | succ j =>
     refine ⟨j,x,by omega,by simpa using hx,by rw [<- hf]; congr 1; omega,fun k z hk1 hz => ?_⟩
     have:=hk (k+1) z (by omega) (by simpa using hz)
     rwa [show i+(k+1)=i+1+k by omega] at this
  ·rw [if_neg h0]
   constructor
   ·intro h
    simp only [Prod.mk.injEq] at h
    exact ⟨0,y,by omega,rfl,Prod.ext h.1 h.2.2,fun k z hk=>by omega⟩
   ·rintro ⟨j,x,hs,hx,hf,hk⟩
    cases j with
    | zero=>simp at hx; subst hx; rw [Nat.add_zero] at hf; rw [hf]; simp only [Prod.mk.injEq]; exact ⟨trivial,by omega,trivial⟩
    | succ j=>exact absurd (hk 0 y (by omega) rfl) h0
def thrPre (p:Prog) (i:Nat) (x:Thread):Prop :=
 isLabel x.name=true/\(p.threads.take i).any (fun d=>d.name.toList==x.name.toList)=false/\(1<=x.points/\(x.asserts.length:Int)=x.points/\(x.modules.length:Int)=x.points) /\
  x.modules.all (fun m=>inR m p.modules.length)=true/\x.asserts.all (fun e=>truthOk p e false i)=true
theorem threadErr_pre {p:Prog} {i:Nat} {x:Thread} (h:thrPre p i x):threadErr p i x =
 if ¬ (feGo (fun _ s=>stepErr p i x.points s) 0 x.steps).1=0 then feGo (fun _ s=>stepErr p i x.points s) 0 x.steps else ((feGo (fun _ l=>loopErr p i x.points l) 0 x.loops).1, -1):=by
 obtain ⟨h1,h2,h3,h4,h5⟩:=h
 unfold threadErr
 rw [h1,h2,h4,h5,if_neg (by simp),if_neg (by simp),if_neg (by omega),if_neg (by simp),if_neg (by simp)]
theorem threadErr_not {p:Prog} {i:Nat} {x:Thread} (h : ¬ thrPre p i x):(threadErr p i x).2 = -1:=by
 unfold threadErr
 unfold thrPre at h
 split
 ·rfl
 ·split
  ·rfl
  ·split
   ·rfl
   ·split
    ·rfl
    ·split
     ·rfl
     ·rename_i a b c d e
      exact absurd ⟨by simpa using a,by simpa using b,by omega,by simpa using d,by simpa using e⟩ h
theorem threadErr_step {p:Prog} {i:Nat} {x:Thread} {e s:Int} (he:e≠0) (hs:s ≠ -1):threadErr p i x=(e,s)<->thrPre p i x /\
 ∃ (j:Nat) (y:Step),s=(j:Int)/\x.steps[j]? = some y/\stepErr p i x.points y=e /\ ∀ (k:Nat) (z:Step),k<j->x.steps[k]? = some z->stepErr p i x.points z=0:=by
 constructor
 ·intro h
  by_cases hp:thrPre p i x
  ·refine ⟨hp, ?_⟩
   rw [threadErr_pre hp] at h
   split at h
   ·rw [fe_at he] at h
    obtain ⟨j,y,h1,h2,h3,h4⟩:=h
    exact ⟨j,y,by simpa using h1,h2,h3,h4⟩
   ·simp only [Prod.mk.injEq] at h; exact absurd h.2.symm hs
  ·have:=threadErr_not hp
   rw [h] at this; exact absurd this hs
 ·rintro ⟨hp,j,y,h1,h2,h3,h4⟩
  have h5:feGo (fun _ s=>stepErr p i x.points s) 0 x.steps=(e,s):=(fe_at he).2 ⟨j,y,by simpa using h1,h2,h3,h4⟩
  rw [threadErr_pre hp,h5,if_pos he]
def preOk (p:Prog):Prop:=(limitsM p).1=0/\cellsM p=0/\modulesM p=0/\locksM p=0
theorem valid_pre {p:Prog} (h:preOk p):validM p=thrGo p 0 p.threads:=by
 obtain ⟨h1,h2,h3,h4⟩:=h
 unfold validM
 rw [if_neg (by simpa using h1),if_neg (by simpa using h2),if_neg (by simpa using h3),if_neg (by simpa using h4)]
theorem valid_not {p:Prog} (h : ¬ preOk p):(validM p).2.2 = -1/\(validM p).1≠0/\((validM p).2.1 = -1 \/ ∃ t:Nat,t<p.threads.length/\(validM p).2.1=t):=by
 unfold preOk at h
 unfold validM
 split
 ·rename_i h1
  refine ⟨rfl,h1, ?_⟩
  unfold limitsM at h1 ⊢
  split
  ·exact .inl rfl
  ·rename_i h2
   rw [if_neg h2] at h1
   have:=(fe_at (f:=fun _ x=>if threadBad x then 2 else 0) (l:=p.threads) (i:=0) (e:=_) (s:=_) h1).1 rfl
   obtain ⟨j,x,hs,hx,_⟩:=this
   exact .inr ⟨j,(List.getElem?_eq_some_iff.1 hx).1,by simpa using hs⟩
 ·split
  ·rename_i h2; exact ⟨rfl,h2, .inl rfl⟩
  ·split
   ·rename_i h3; exact ⟨rfl,h3, .inl rfl⟩
   ·split
    ·rename_i h4; exact ⟨rfl,h4, .inl rfl⟩
    ·rename_i h1 h2 h3 h4
     exact absurd ⟨Decidable.not_not.1 h1,Decidable.not_not.1 h2,Decidable.not_not.1 h3,Decidable.not_not.1 h4⟩ h
structure AtStep (p:Prog) (e:Int) (t s:Nat) (x:Thread) (y:Step):Prop where
 pre:preOk p
 before : ∀ (j:Nat) (z:Thread),j<t->p.threads[j]? = some z->(threadErr p j z).1=0
 hx:p.threads[t]? = some x
 tp:thrPre p t x
 hy:x.steps[s]? = some y
 steps : ∀ (k:Nat) (z:Step),k<s->x.steps[k]? = some z->stepErr p t x.points z=0
 err:stepErr p t x.points y=e
 ne:e≠0
theorem at_of {p:Prog} {e t s:Int} (hv:validM p=(e,t,s)) (hs:s ≠ -1) : ∃ (i j:Nat) (x:Thread) (y:Step),t=i/\s=j/\AtStep p e i j x y:=by
 by_cases hp:preOk p
 ·rw [valid_pre hp] at hv
  by_cases he:e=0
  ·subst he
   have:=thr_none (p:=p) (l:=p.threads) (i:=0) (by rw [hv])
   rw [hv] at this
   simp only [Prod.mk.injEq] at this
   exact absurd this.2.2 hs
  ·obtain ⟨i,x,h1,h2,h3,h4⟩:=(thr_at he).1 hv
   simp only [Nat.zero_add] at h1 h3 h4
   obtain ⟨h5,j,y,h6,h7,h8,h9⟩:=(threadErr_step he hs).1 h3
   exact ⟨i,j,x,y,h1,h6,hp,h4,h2,h5,h7,h9,h8,he⟩
 ·have:=(valid_not hp).1
  rw [hv] at this; exact absurd this hs
theorem at_valid {p:Prog} {e:Int} {t s:Nat} {x:Thread} {y:Step} (h:AtStep p e t s x y):validM p=(e,(t:Int),(s:Int)):=by
 rw [valid_pre h.pre]
 refine (thr_at h.ne).2 ⟨t,x,by simp,h.hx, ?_,fun k z hk hz=>by simpa using h.before k z hk hz⟩
 rw [Nat.zero_add]
 exact (threadErr_step h.ne (by omega)).2 ⟨h.tp,s,y,rfl,h.hy,h.err,h.steps⟩
theorem valid_ok {p:Prog} {t s:Int} (hv:validM p=(0,t,s)):t = -1/\s = -1:=by
 by_cases hp:preOk p
 ·rw [valid_pre hp] at hv
  have:=thr_none (p:=p) (l:=p.threads) (i:=0) (by rw [hv])
  rw [hv] at this
  simp only [Prod.mk.injEq] at this
  exact ⟨this.2.1,this.2.2⟩
 ·have:=(valid_not hp).2.1
  rw [hv] at this; exact absurd rfl this
theorem valid_range {p:Prog} {e t s:Int} (hv:validM p=(e,t,s)) : -1<=t/\(t<p.threads.length) /\ -1<=s/\(t = -1->s = -1):=by
 by_cases hs:s = -1
 ·subst hs
  by_cases hp:preOk p
  ·rw [valid_pre hp] at hv
   by_cases he:e=0
   ·subst he
    have:=thr_none (p:=p) (l:=p.threads) (i:=0) (by rw [hv])
    rw [hv] at this
    simp only [Prod.mk.injEq] at this
    omega
   ·obtain ⟨i,x,h1,h2,_,_⟩:=(thr_at he).1 hv
    have:=(List.getElem?_eq_some_iff.1 h2).1
    omega
  ·have:=(valid_not hp).2.2
   rw [hv] at this
   rcases this with h | ⟨k,hk,h⟩ <;> (simp only at h; omega)
 ·obtain ⟨i,j,x,y,h1,h2,h3⟩:=at_of hv hs
  have:=(List.getElem?_eq_some_iff.1 h3.hx).1
  omega
end Rg
end
section
namespace Rg
open Go
def cutAt (p:Prog) (i:Nat) (x:Thread) (k:Nat):Prog:={ p with threads:=p.threads.set i { x with steps:=x.steps.take k } }
section
variable {p:Prog} {i k:Nat} {x:Thread}
theorem cut_get (hx:p.threads[i]? = some x) {j:Nat} {y:Thread} (hy:p.threads[j]? = some y):(cutAt p i x k).threads[j]? = some { y with steps:=if j=i then y.steps.take k else y.steps }:=by
 unfold cutAt
 simp only [List.getElem?_set]
 by_cases h:i=j
 ·subst h
  have:=(List.getElem?_eq_some_iff.1 hx).1
  rw [hx] at hy; cases hy
  simp [this]
 ·rw [if_neg h,hy,if_neg (fun e=>h e.symm)]
theorem cut_back (hx:p.threads[i]? = some x) {j:Nat} {z:Thread} (hz:(cutAt p i x k).threads[j]? = some z) : ∃ y,p.threads[j]? = some y/\z = { y with steps:=if j=i then y.steps.take k else y.steps }:=by
 have hj:j<p.threads.length:=by have:=(List.getElem?_eq_some_iff.1 hz).1; simpa [cutAt] using this
 obtain ⟨y,hy⟩ : ∃ y,p.threads[j]? = some y:=⟨_,List.getElem?_eq_getElem hj⟩
 refine ⟨y,hy, ?_⟩
 rw [cut_get hx hy] at hz
 exact (Option.some.inj hz).symm
theorem cut_mem (hx:p.threads[i]? = some x) {z:Thread} (hz:z∈(cutAt p i x k).threads) : ∃ y∈p.threads, ∃ l,z = { y with steps:=l } /\ (∀ s∈l,s∈y.steps)/\l.length<=y.steps.length:=by
 obtain ⟨j,hj,rfl⟩:=List.mem_iff_getElem.1 hz
 obtain ⟨y,hy,h⟩:=cut_back (k:=k) hx (List.getElem?_eq_getElem hj)
 refine ⟨y,List.mem_of_getElem? hy,_,h, ?_, ?_⟩
 ·intro s hs
  split at hs
  ·exact List.mem_of_mem_take hs
  ·exact hs
 ·split
  ·simp; omega
  ·simp
theorem cut_len:(cutAt p i x k).threads.length=p.threads.length:=by simp [cutAt]
theorem cut_like (hx:p.threads[i]? = some x):Like p (cutAt p i x k):=by
 refine ⟨rfl,rfl,cut_len.symm,fun t => ?_⟩
 unfold asleepAt
 cases hy:p.threads[t.toNat]? with
 | none =>
  have:(cutAt p i x k).threads[t.toNat]? = none:=by
   rw [List.getElem?_eq_none_iff] at hy ⊢
   rw [cut_len]; exact hy
  rw [this]
 | some y=>rw [cut_get hx hy]
theorem cut_sane (hx:p.threads[i]? = some x) (hs:p.sane):(cutAt p i x k).sane:=by
 refine ⟨hs.cells,hs.modules,hs.locks,by rw [cut_len]; exact hs.threads,hs.cname,hs.mname, ?_, ?_, ?_⟩
 ·intro z hz
  obtain ⟨y,hy,l,rfl,h1,h2⟩:=cut_mem hx hz
  have:=hs.thr y hy
  exact ⟨this.1,this.2.1,this.2.2.1,by have:=this.2.2.2.1; simp only; omega,this.2.2.2.2⟩
 ·intro z hz s hs'
  obtain ⟨y,hy,l,rfl,h1,h2⟩:=cut_mem hx hz
  exact hs.sets y hy s (h1 s hs')
 ·intro z hz s hs'
  obtain ⟨y,hy,l,rfl,h1,h2⟩:=cut_mem hx hz
  exact hs.loops y hy s hs'
theorem take_any_names {f g:Thread->Bool} : ∀ {l m:List Thread} (j:Nat),l.length=m.length->(∀ (a:Nat) (y z:Thread),l[a]? = some y->m[a]? = some z->f y=g z)->(l.take j).any f=(m.take j).any g
 | [],[],_,_,_=>by simp
 | y::l,z::m,0,_,_=>by simp
 | y::l,z::m,j+1,hl,h=>by
  simp only [List.take_succ_cons,List.any_cons]
  rw [h 0 y z rfl rfl,take_any_names j (by simpa using hl) fun a y z hy hz=>h (a+1) y z (by simpa using hy) (by simpa using hz)]
theorem cut_names (hx:p.threads[i]? = some x) (j:Nat) (b:ByteArray):((cutAt p i x k).threads.take j).any (fun d=>d.name.toList==b.toList)=(p.threads.take j).any (fun d=>d.name.toList==b.toList):=by
 refine take_any_names j cut_len fun a y z hy hz => ?_
 rw [cut_get hx hz] at hy
 cases hy; rfl
theorem cut_tp (hx:p.threads[i]? = some x) {j:Nat} {y:Thread} {l:List Step}:thrPre (cutAt p i x k) j { y with steps:=l } <-> thrPre p j y:=by
 unfold thrPre
 simp only [cut_names hx]
 have : ∀ e:Expr,truthOk (cutAt p i x k) e false j=truthOk p e false j:=fun e=>truthOk_like rfl e false j
 simp only [this]
 exact Iff.rfl
theorem cut_other (hx:p.threads[i]? = some x) {j:Nat} {y:Thread}:(threadErr (cutAt p i x k) j y).1=(threadErr p j y).1:=by
 have hst : ∀ t n s,stepErr (cutAt p i x k) t n s=stepErr p t n s:=fun t n s=>(stepErr_like (cut_like hx) t n s).symm
 have hlp : ∀ t n s,loopErr (cutAt p i x k) t n s=loopErr p t n s:=fun t n s=>(loopErr_like rfl t n s).symm
 by_cases hp:thrPre p j y
 ·rw [threadErr_pre hp,threadErr_pre ((cut_tp (l:=y.steps) hx).2 hp)]
  simp only [hst,hlp]
 ·have hq : ¬ thrPre (cutAt p i x k) j y:=fun h=>hp ((cut_tp (l:=y.steps) hx).1 h)
  unfold threadErr
  simp only [cut_names hx,hst,hlp]
  have : ∀ e:Expr,truthOk (cutAt p i x k) e false j=truthOk p e false j:=fun e=>truthOk_like rfl e false j
  simp only [this]
  rfl
theorem cut_pre (hx:p.threads[i]? = some x) (h:preOk p):preOk (cutAt p i x k):=by
 obtain ⟨h1,h2,h3,h4⟩:=h
 refine ⟨?_, ?_, ?_, ?_⟩
 ·rw [limits_iff] at h1 ⊢
  refine ⟨⟨h1.1.1,h1.1.2.1,h1.1.2.2.1,by rw [cut_len]; exact h1.1.2.2.2⟩,fun z hz => ?_⟩
  obtain ⟨y,hy,l,rfl,_,hl⟩:=cut_mem hx hz
  have:=h1.2 y hy
  exact ⟨this.1,by simp only; omega,this.2.2⟩
 ·unfold cellsM at h2 ⊢
  have:cellErr (cutAt p i x k)=cellErr p:=by funext a c; exact (cellErr_like (p:=p) (q:=cutAt p i x k) rfl rfl cut_len.symm a c).symm
  rw [this]; exact h2
 ·unfold modulesM at h3 ⊢
  have:modErr (cutAt p i x k)=modErr p:=by funext a c; exact (modErr_like (p:=p) (q:=cutAt p i x k) rfl rfl a c).symm
  rw [this]; exact h3
 ·unfold locksM at h4 ⊢
  have:lockErr (cutAt p i x k)=lockErr p:=by funext a c; exact (lockErr_like (p:=p) (q:=cutAt p i x k) rfl rfl rfl a c).symm
  rw [this]; exact h4
theorem cut_same {e:Int} {j:Nat} {y:Step} (h:AtStep p e i j x y):validM (cutAt p i x (j+1))=(e,(i:Int),(j:Int)):=by
 have hx:=h.hx
 have hst : ∀ t n s,stepErr (cutAt p i x (j+1)) t n s=stepErr p t n s:=fun t n s=>(stepErr_like (cut_like hx) t n s).symm
 refine at_valid (x:={ x with steps:=x.steps.take (j+1) }) (y:=y) ⟨cut_pre hx h.pre, ?_, ?_,(cut_tp hx).2 h.tp, ?_, ?_, ?_,h.ne⟩
 ·intro a z ha hz
  obtain ⟨w,hw,rfl⟩:=cut_back hx hz
  have e:({ w with steps:=if a=i then w.steps.take (j+1) else w.steps }:Thread)=w:=by rw [if_neg (by omega)]
  rw [e,cut_other hx]
  exact h.before a w ha hw
 ·rw [cut_get hx hx,if_pos rfl]
 ·simp only [List.getElem?_take]
  rw [if_pos (by omega)]; exact h.hy
 ·intro a z ha hz
  simp only [List.getElem?_take] at hz
  rw [if_pos (by omega)] at hz
  rw [hst]; exact h.steps a z ha hz
 ·rw [hst]; exact h.err
theorem cut_none {e:Int} {j:Nat} {y:Step} (h:AtStep p e i j x y) {e' u v:Int} (hv:validM (cutAt p i x j)=(e',u,v)):u≠i\/v = -1:=by
 by_cases hs:v = -1
 ·exact .inr hs
 ·refine .inl fun hu => ?_
  obtain ⟨a,b,z,w,h1,h2,hat⟩:=at_of hv hs
  have hai:a=i:=by omega
  subst hai
  have hst : ∀ t n s,stepErr (cutAt p a x j) t n s=stepErr p t n s:=fun t n s=>(stepErr_like (cut_like h.hx) t n s).symm
  have hz:=hat.hx
  rw [cut_get h.hx h.hx,if_pos rfl] at hz
  cases hz
  have hw:=hat.hy
  simp only [List.getElem?_take] at hw
  by_cases hb:b<j
  ·rw [if_pos hb] at hw
   have h3:=h.steps b w hb hw
   have h4:=hat.err
   simp only [hst] at h4
   exact hat.ne (h4.symm.trans h3)
  ·rw [if_neg hb] at hw; cases hw
end
end Rg
end
section
set_option maxRecDepth 100000
namespace Rg
open Go
theorem cellL_den (c w:Int):Den Γ G 237 [vi c,vi w]=some (.agg [.t (ti (Expr.mk 2 w c []).op), .t (ti (Expr.mk 2 w c []).w), .t (ti (Expr.mk 2 w c []).n), .t (.sl ((Expr.mk 2 w c []).kids.map (Expr.enc)))]):=by
 (refine den_ofY Γ237 rfl ?_; dsimp only [f237])
 have h1:=cell_den c w
 simp -dsimp -implicitDefEqProofs only [go_sem,seval,h1]
theorem old_den (c w:Int):Den Γ G 238 [vi c,vi w]=some (.agg [.t (ti (Expr.mk 3 w c []).op), .t (ti (Expr.mk 3 w c []).w), .t (ti (Expr.mk 3 w c []).n), .t (.sl ((Expr.mk 3 w c []).kids.map (Expr.enc)))]):=by
 (refine den_ofY Γ238 rfl ?_; dsimp only [f238])
 simp -dsimp -implicitDefEqProofs only [go_sem,seval]
theorem found_den (p:Prog) (hs:p.sane) (e t s:Int):Den Γ G 235 [(.agg [.t (.sl ((p).cells.map (Cell.enc))), .t (.sl ((p).modules.map (Contract.enc))), .t (.sl ((p).locks.map (Lock.enc))), .t (.sl ((p).threads.map (Thread.enc)))]),vi e,vi t,vi s]=some (vb (decide (validM p=(e,t,s)))):=by
 (refine den_ofY Γ235 rfl ?_; dsimp only [f235])
 have h1:=validP7_den p hs
 generalize hv:validM p=v at h1
 obtain ⟨a,b,c⟩:=v
 by_cases ha:a=e
 ·by_cases hb:b=t
  ·by_cases hc:c=s
   ·simp -dsimp -implicitDefEqProofs only [go_sem,seval,h1,ha,hb,hc,decide_true]
   ·simp -dsimp -implicitDefEqProofs only [go_sem,seval,h1,ha,hb,hc,decide_true,decide_false]
    simp [hc]
  ·simp -dsimp -implicitDefEqProofs only [go_sem,seval,h1,ha,hb,decide_true,decide_false]
   simp [hb]
 ·simp -dsimp -implicitDefEqProofs only [go_sem,seval,h1,ha,decide_true,decide_false]
  simp [ha]
def exE:Expr:=.mk 1 1 1 []
def exP (nm:ByteArray) (fr:Int) (to as1:Expr):Prog :=
 ⟨[⟨nm,2,0, -1,false,0⟩,⟨bs [114],2,0,0,false,0⟩],
  [⟨bs [77],bs [65,110,110], .mk 0 0 0 [],exE,[0]⟩],[],
  [⟨bs [116],2,[exE,as1],[0,0],[⟨2,fr,1,exE,[⟨1,to⟩],false,0,0⟩],[],false⟩]⟩
def exStep:Step:=⟨2,0,1,exE,[⟨1, .mk 2 2 0 []⟩],false,0,0⟩
def rowE (e:Expr):List V:=[.t (ti e.op), .t (ti e.w), .t (ti e.n), .t (.sl (e.kids.map Expr.enc))]
structure Ex7 (z:Nat->Bool) (h:Nat->Option O) (a:Nat) (nm:ByteArray) (fr:Int) (to as1:Expr):Prop where
 k7:h (a+7)=some (.rows 5 [.t (ti 1)::rowE to] (z 0))
 k13:h (a+13)=some (.rows 6 [[.t (.str nm), .t (ti 2), .t (ti 0), .t (ti (-1)), .t (tb false), .t (ti 0)],[.t (.str (bs [114])), .t (ti 2), .t (ti 0), .t (ti 0), .t (tb false), .t (ti 0)]] (z 1))
 k15:h (a+15)=some (.rows 1 [[.t (ti 0)]] (z 2))
 k17:h (a+17)=some (.rows 11 [[.t (.str (bs [77])), .t (.str (bs [65,110,110])), .t (ti 0), .t (ti 0), .t (ti 0), .t .nils, .t (ti 1), .t (ti 1), .t (ti 1), .t (.sl []), .ms (a+15) 0 1]] (z 3))
 k20:h (a+20)=some (.rows 4 [rowE exE,rowE as1] (z 4))
 k21:h (a+21)=some (.rows 1 [[.t (ti 0)],[.t (ti 0)]] (z 5))
 k23:h (a+23)=some (.rows 11 [[.t (ti 2), .t (ti fr), .t (ti 1), .t (ti 1), .t (ti 1), .t (ti 1), .t (.sl []), .ms (a+7) 0 1, .t (tb false), .t (ti 0), .t (ti 0)]] (z 6))
 k25:h (a+25)=some (.rows 7 [[.t (.str (bs [116])), .t (ti 2), .ms (a+20) 0 2, .ms (a+21) 0 2, .ms (a+23) 0 1, .t .nils, .t (tb false)]] (z 7))
theorem example7_den (h:Nat->Option O) (n:Nat) : ∃ r h' n',DenR Γ G 236 [] h n=some (r,h',n') /\
 (r = .agg [.ms (n+13) 0 2, .ms (n+17) 0 1, .t .nils, .ms (n+25) 0 1]/\n' = n+28/\Ex7 (fun _=>false) h' n (bs [120]) 0 (.mk 2 2 0 []) exE):=by
 (refine denR_ofY Γ236 rfl ?_; dsimp only [f236])
 have h1:=oneR_den
 have h2:=cellL_den 0 2
 simp -dsimp -implicitDefEqProofs only [go_sem,seval,h1,h2]
 show _/\_
 refine ⟨rfl,by simp only [addC_eq]; simp, ?_⟩
 constructor <;> (simp only [hpC_cons,hpC_nil,updC_at]; simp [rowE,exE,Expr.op,Expr.w,Expr.n,Expr.kids])
theorem toT_ms {h:Nat->Option O} {k i len d sz:Nat} {rs r:List (List V)} {fz:Bool} {es:List (List T)} (hk:h k=some (.rows sz rs fz)) (hr:rd rs i len=some r) (he:r.mapM (fun row=>row.mapM (toT h d))=some es) :
 toT h (d+1) (.ms k i len)=some (.sl es):=by
 simp [toT,hk,hr,he]
theorem toT_t (h:Nat->Option O) (d:Nat) (x:T):toT h d (.t x)=some x.norm:=by cases d <;> rfl
section
variable {z:Nat->Bool} {h:Nat->Option O} {a:Nat} {nm:ByteArray} {fr:Int} {to as1:Expr}
theorem Ex7.stree (hx:Ex7 z h a nm fr to as1) (d:Nat):toT h (d+1) (.ms (a+7) 0 1)=some (.sl [Assign.enc ⟨1,to⟩]):=by
 refine toT_ms hx.k7 (by rfl) ?_
 simp [toT_t,rowE,Assign.enc,Expr.enc_eq,T.norm]
theorem Ex7.tree (hx:Ex7 z h a nm fr to as1) :
 toT1 h (V.agg [.ms (a+13) 0 2, .ms (a+17) 0 1, .t .nils, .ms (a+25) 0 1])=some (.agg [.t (.sl ((exP nm fr to as1).cells.map (Cell.enc))), .t (.sl ((exP nm fr to as1).modules.map (Contract.enc))), .t (.sl ((exP nm fr to as1).locks.map (Lock.enc))), .t (.sl ((exP nm fr to as1).threads.map (Thread.enc)))]):=by
 have e13:toT h 1000 (.ms (a+13) 0 2)=some (.sl ((exP nm fr to as1).cells.map Cell.enc)):=by
  refine toT_ms hx.k13 (by rfl) ?_
  simp [toT_t,exP,Cell.enc,T.norm]
 have e15:toT h 999 (.ms (a+15) 0 1)=some (ints [0]):=by
  refine toT_ms hx.k15 (by rfl) ?_
  simp [toT_t,T.norm]
 have e17:toT h 1000 (.ms (a+17) 0 1)=some (.sl ((exP nm fr to as1).modules.map Contract.enc)):=by
  refine toT_ms hx.k17 (by rfl) ?_
  simp [toT_t,e15,exP,Contract.enc,Expr.enc_eq,T.norm,exE,Expr.op,Expr.w,Expr.n,Expr.kids]
 have e20:toT h 999 (.ms (a+20) 0 2)=some (.sl ([exE,as1].map Expr.enc)):=by
  refine toT_ms hx.k20 (by rfl) ?_
  simp [toT_t,rowE,Expr.enc_eq,T.norm]
 have e21:toT h 999 (.ms (a+21) 0 2)=some (ints [0,0]):=by
  refine toT_ms hx.k21 (by rfl) ?_
  simp [toT_t,T.norm]
 have e7:=hx.stree 997
 have e23:toT h 999 (.ms (a+23) 0 1)=some (.sl ([⟨2,fr,1,exE,[⟨1,to⟩],false,0,0⟩].map Step.enc)):=by
  refine toT_ms hx.k23 (by rfl) ?_
  simp [toT_t,e7,Step.enc,exE,Expr.enc_eq,T.norm,Expr.op,Expr.w,Expr.n,Expr.kids]
 have e25:toT h 1000 (.ms (a+25) 0 1)=some (.sl ((exP nm fr to as1).threads.map Thread.enc)):=by
  refine toT_ms hx.k25 (by rfl) ?_
  simp [toT_t,e20,e21,e23,exP,Thread.enc,T.norm]
 simp [toT1,e13,e17,e25,toT_t,T.norm,exP]
theorem Ex7.step_tree (hx:Ex7 z h a nm fr to as1) :
 toT1 h (V.agg [.t (ti 2), .t (ti fr), .t (ti 1), .t (ti 1), .t (ti 1), .t (ti 1), .t (.sl []), .ms (a+7) 0 1, .t (tb false), .t (ti 0), .t (ti 0)]) =
  some (.agg [.t (ti ((⟨2,fr,1,exE,[⟨1,to⟩],false,0,0⟩:Step)).kind), .t (ti ((⟨2,fr,1,exE,[⟨1,to⟩],false,0,0⟩:Step)).fr), .t (ti ((⟨2,fr,1,exE,[⟨1,to⟩],false,0,0⟩:Step)).to), .t (ti (((⟨2,fr,1,exE,[⟨1,to⟩],false,0,0⟩:Step)).guard).op), .t (ti (((⟨2,fr,1,exE,[⟨1,to⟩],false,0,0⟩:Step)).guard).w), .t (ti (((⟨2,fr,1,exE,[⟨1,to⟩],false,0,0⟩:Step)).guard).n), .t (.sl ((((⟨2,fr,1,exE,[⟨1,to⟩],false,0,0⟩:Step)).guard).kids.map Expr.enc)), .t (.sl (((⟨2,fr,1,exE,[⟨1,to⟩],false,0,0⟩:Step)).set.map Assign.enc)), .t (tb ((⟨2,fr,1,exE,[⟨1,to⟩],false,0,0⟩:Step)).release), .t (ti ((⟨2,fr,1,exE,[⟨1,to⟩],false,0,0⟩:Step)).target), .t (ti ((⟨2,fr,1,exE,[⟨1,to⟩],false,0,0⟩:Step)).module)]):=by
 have e7:=hx.stree 999
 simp [toT1,e7,toT_t,T.norm,exE,Expr.op,Expr.w,Expr.n,Expr.kids]
theorem frz_rows {h:Nat->Option O} {k sz:Nat} {rs:List (List V)} {z:Bool} (hk:h k=some (.rows sz rs z)) (l:List Nat) : ∃ z',hpC h (freezes h l) k=some (.rows sz rs z'):=by
 suffices hs : ∀ (l:List Nat) (g:Nat->Option O) (y:Bool),g k=some (.rows sz rs y) -> ∃ z',hpC g (freezes h l) k=some (.rows sz rs z') from hs l h z hk
 intro l
 induction l with
 | nil=>intro g y hg; exact ⟨y,by simp only [freezes,List.filterMap_nil,hpC_nil]; exact hg⟩
 | cons q r ih =>
  intro g y hg
  unfold freezes at ih ⊢
  rw [List.filterMap_cons]
  split
  ·exact ih g y hg
  ·rename_i b hb
   split at hb
   ·rename_i s1 r1 y1 hq
    cases hb
    rw [hpC_cons]
    by_cases hkq:k=q
    ·subst hkq
     rw [hk] at hq
     cases hq
     exact ih _ true (by rw [updC_at,if_pos rfl])
    ·exact ih _ y (by rw [updC_at,if_neg hkq]; exact hg)
   ·cases hb
theorem Ex7.frz (hx : ∃ z,Ex7 z h a nm fr to as1) (l:List Nat) : ∃ z,Ex7 z (hpC h (freezes h l)) a nm fr to as1:=by
 obtain ⟨z,hx⟩:=hx
 obtain ⟨z0,f0⟩:=frz_rows hx.k7 l
 obtain ⟨z1,f1⟩:=frz_rows hx.k13 l
 obtain ⟨z2,f2⟩:=frz_rows hx.k15 l
 obtain ⟨z3,f3⟩:=frz_rows hx.k17 l
 obtain ⟨z4,f4⟩:=frz_rows hx.k20 l
 obtain ⟨z5,f5⟩:=frz_rows hx.k21 l
 obtain ⟨z6,f6⟩:=frz_rows hx.k23 l
 obtain ⟨z7,f7⟩:=frz_rows hx.k25 l
 exact ⟨fun i=>[z0,z1,z2,z3,z4,z5,z6,z7].getD i false,f0,f1,f2,f3,f4,f5,f6,f7⟩
theorem Ex7.upd (hx : ∃ z,Ex7 z h a nm fr to as1) {k:Nat} (hk:a+26<=k) (o:Option O) : ∃ z,Ex7 z (updC h k o) a nm fr to as1:=by
 obtain ⟨z,hx⟩:=hx
 exact ⟨z,by constructor <;> (rw [updC_at,if_neg (by omega)]) <;> first | exact hx.k7 | exact hx.k13 | exact hx.k15 | exact hx.k17 | exact hx.k20 | exact hx.k21 | exact hx.k23 | exact hx.k25⟩
end
def frzK (h:Nat->Option O) (vs:List V) (r:V) (K:V->(Nat->Option O)->Prop):Prop:=K r (hpC h (freezes h (vs.flatMap (reach1 h))))
theorem denS_frz (a:List T) (l:List (List T)) (h:Nat->Option O) (vs:List V) (K:V->(Nat->Option O)->Prop) (w:WK K):denS (some (.t (.sl (a::l)))) false h vs K w=frzK h vs (.t (.sl (a::l))) K:=by
 simp [denS,frzK,V.scalar,V.scalar2,V.scalar1,T.scalar]
theorem denS_sl0 (d:Bool) (h:Nat->Option O) (vs:List V) (K:V->(Nat->Option O)->Prop) (w:WK K):denS (some (.t (.sl []))) d h vs K w=K (.t (.sl [])) h:=by
 simp [denS,V.scalar,V.scalar2,V.scalar1,T.scalar]
theorem frzK_intro {h:Nat->Option O} {vs:List V} {r:V} {K:V->(Nat->Option O)->Prop} {a:Nat} {nm:ByteArray} {fr:Int} {to as1:Expr} (hx : ∃ z,Ex7 z h a nm fr to as1)
 (hk : ∀ H,(∃ z,Ex7 z H a nm fr to as1)->K r H):frzK h vs r K:=hk _ (Ex7.frz hx _)
theorem ex_sane (nm:ByteArray) (hn:nm.size<2^50) (fr:Int) (to as1:Expr):(exP nm fr to as1).sane:=by
 refine ⟨by simp [exP],by simp [exP],by simp [exP],by simp [exP], ?_, ?_, ?_, ?_, ?_⟩
 ·intro c hc; simp only [exP,List.mem_cons,List.not_mem_nil,or_false] at hc; rcases hc with rfl | rfl <;> first | exact hn | decide +kernel
 ·intro c hc; simp only [exP,List.mem_cons,List.not_mem_nil,or_false] at hc; subst hc; decide +kernel
 ·intro c hc; simp only [exP,List.mem_cons,List.not_mem_nil,or_false] at hc; subst hc; exact ⟨by show (bs [116]).size<_; decide +kernel,by simp,by simp,by simp,by simp⟩
 ·intro c hc s hs; simp only [exP,List.mem_cons,List.not_mem_nil,or_false] at hc; subst hc; simp only [List.mem_cons,List.not_mem_nil,or_false] at hs; subst hs; simp
 ·intro c hc s hs; simp only [exP,List.mem_cons,List.not_mem_nil,or_false] at hc; subst hc; simp at hs
theorem ex_few (nm:ByteArray) (fr:Int) (to as1:Expr):(exP nm fr to as1).few:=by
 refine ⟨?_, ?_, ?_⟩
 ·intro c hc; simp only [exP,List.mem_cons,List.not_mem_nil,or_false] at hc; subst hc; simp
 ·intro c hc s hs; simp only [exP,List.mem_cons,List.not_mem_nil,or_false] at hc; subst hc; simp only [List.mem_cons,List.not_mem_nil,or_false] at hs; subst hs; simp
 ·intro c hc s hs; simp only [exP,List.mem_cons,List.not_mem_nil,or_false] at hc; subst hc; simp at hs
def exP0:Prog:=exP (bs [120]) 0 (.mk 2 2 0 []) exE
theorem ex_v0:validM exP0=(0, -1, -1):=by decide +kernel
theorem ex_v1:validM (exP (bs [120]) 1 (.mk 2 2 0 []) exE)=(70,0,0):=by decide +kernel
theorem ex_v2:validM (exP (bs [120]) 0 (.mk 1 2 1 []) exE)=(70,0,0):=by decide +kernel
theorem ex_v3:validM (exP (bs [120]) 0 (.mk 1 1 1 []) exE)=(60,0,0):=by decide +kernel
theorem ex_v4:validM (exP (bs [120]) 0 (.mk 2 2 0 []) (.mk 11 1 0 [.mk 3 2 0 [], .mk 2 2 0 []]))=(60,0, -1):=by decide +kernel
theorem ex_v5:validM (exP (bs [114]) 0 (.mk 2 2 0 []) exE)=(41, -1, -1):=by decide +kernel
theorem ex_t0:textP exP0=[99,101,108,108,32,120,32,50,32,48,32,45,49,32,48,32,48,10,99,101,108,108,32,114,32,50,32,48,32,48,32,48,32,48,10,109,111,100,117,108,101,32,77,32,65,110,110,32,110,111,110,101,32,49,58,49,32,48,10,116,104,114,101,97,100,32,116,32,48,10,112,111,105,110,116,32,48,32,49,58,49,10,112,111,105,110,116,32,48,32,49,58,49,10,115,116,101,112,32,50,32,48,32,49,32,49,58,49,32,48,32,48,32,48,32,49,32,99,48,58,50,10]:=by decide +kernel
theorem ex_r:readsM exStep=[0]:=by decide +kernel
theorem ex_w:writesM exStep=[1]:=by decide +kernel
theorem ex_s0:stepsM exP0 0 0=[0]:=by decide +kernel
theorem ex_s1:stepsM exP0 0 1=[]:=by decide +kernel
theorem ex_l:localsM exP0 0=[1]:=by decide +kernel
theorem ex_o:ofM exP0 (-1)=[0]:=by decide +kernel
theorem ex_e:(Expr.mk 2 2 1 []).valid exP0.cells false=true:=by decide +kernel
theorem putA_appE {h:Nat->Option O} {q sz bytes k0 n0:Nat} {a b:List (List V)} {K:V->List (Nat×O)->Prop} {w:WK K}
 (hh:h k0=some (.rows sz a false)) (hlen:a.length+b.length<=2^32) (hby:bytes<=2^12) (hb:(b.all fun r=>decide (r.length=sz))=true) (ha:(a.all fun r=>decide (r.length=sz))=true) (hne:b≠[])
 (hK:K (.ms q 0 (a.length+b.length)) [(k0, .dead),(q, .rows sz (a++b) false)]):putA false (appS h q sz bytes (.ms k0 0 n0) a b) K w:=by
 unfold appS
 rw [if_pos ⟨⟨hlen,hby⟩,hb,ha⟩]
 cases b with
 | nil=>exact absurd rfl hne
 | cons r rs =>
  simp only [List.isEmpty_cons,Bool.false_eq_true,if_false,hh,and_self,if_true,putA_some,appRows_self]
  exact hK
theorem found_ex (nm:ByteArray) (hn:nm.size<2^50) (fr:Int) (to as1:Expr) (e t s:Int) (hv:validM (exP nm fr to as1)=(e,t,s)):Den Γ G 235 [(.agg [.t (.sl ((exP nm fr to as1).cells.map (Cell.enc))), .t (.sl ((exP nm fr to as1).modules.map (Contract.enc))), .t (.sl ((exP nm fr to as1).locks.map (Lock.enc))), .t (.sl ((exP nm fr to as1).threads.map (Thread.enc)))]),vi e,vi t,vi s]=some (vb true):=by
 rw [found_den _ (ex_sane nm hn fr to as1),hv]; simp
def PV:V:=(.agg [.t (.sl ((exP0).cells.map (Cell.enc))), .t (.sl ((exP0).modules.map (Contract.enc))), .t (.sl ((exP0).locks.map (Lock.enc))), .t (.sl ((exP0).threads.map (Thread.enc)))])
def SV:V:=(.agg [.t (ti (exStep).kind), .t (ti (exStep).fr), .t (ti (exStep).to), .t (ti ((exStep).guard).op), .t (ti ((exStep).guard).w), .t (ti ((exStep).guard).n), .t (.sl (((exStep).guard).kids.map Expr.enc)), .t (.sl ((exStep).set.map Assign.enc)), .t (tb (exStep).release), .t (ti (exStep).target), .t (ti (exStep).module)])
def X7 (H:Nat->Option O):Prop := ∃ z,Ex7 z H 4 (bs [120]) 0 (.mk 2 2 0 []) exE
theorem X7.upd {H:Nat->Option O} (hx:X7 H) {k:Nat} (hk:30<=k) (o:Option O):X7 (updC H k o):=Ex7.upd hx hk o
theorem x_p {H:Nat->Option O} (hx:X7 H):toT1 H (V.agg [.ms 17 0 2, .ms 21 0 1, .t .nils, .ms 29 0 1])=some PV:=by
 obtain ⟨z,hx⟩:=hx; exact hx.tree
theorem x_s {H:Nat->Option O} (hx:X7 H):toT1 H (V.agg [.t (ti 2), .t (ti 0), .t (ti 1), .t (ti 1), .t (ti 1), .t (ti 1), .t (.sl []), .ms 11 0 1, .t (tb false), .t (ti 0), .t (ti 0)])=some SV:=by
 obtain ⟨z,hx⟩:=hx; exact hx.step_tree
theorem x_c {H:Nat->Option O} (hx:X7 H):toT1 H (.ms 17 0 2)=some (.t (.sl (exP0.cells.map Cell.enc))):=by
 obtain ⟨z,hx⟩:=hx
 have h0:toT H 1000 (.ms (4+13) 0 2)=some (.sl (exP0.cells.map Cell.enc)):=by
  refine toT_ms hx.k13 (by rfl) ?_
  simp [toT_t,exP0,exP,Cell.enc,T.norm]
 simp only [toT1,h0]; rfl
theorem X7.frz {H:Nat->Option O} {vs:List V} {r:V} {K:V->(Nat->Option O)->Prop} (hx:X7 H) (hk : ∀ H,X7 H->K r H):frzK H vs r K:=frzK_intro hx hk
section
variable {z:Nat->Bool} {h:Nat->Option O} {a:Nat} {nm:ByteArray} {fr:Int} {to as1:Expr}
theorem Ex7.setFr (hx:Ex7 z h a nm fr to as1) (q:Int):Ex7 z (updC h (a+23) (some (.rows 11 [[.t (ti 2), .t (ti q), .t (ti 1), .t (ti 1), .t (ti 1), .t (ti 1), .t (.sl []), .ms (a+7) 0 1, .t (tb false), .t (ti 0), .t (ti 0)]] (z 6)))) a nm q to as1:=by
 constructor <;> (rw [updC_at]; first | rw [if_pos rfl] | rw [if_neg (by omega)]) <;> first | exact hx.k7 | exact hx.k13 | exact hx.k15 | exact hx.k17 | exact hx.k20 | exact hx.k21 | exact hx.k23 | exact hx.k25
theorem Ex7.setTo (hx:Ex7 z h a nm fr to as1) (q:Expr):Ex7 z (updC h (a+7) (some (.rows 5 [.t (ti 1)::rowE q] (z 0)))) a nm fr q as1:=by
 constructor <;> (rw [updC_at]; first | rw [if_pos rfl] | rw [if_neg (by omega)]) <;> first | exact hx.k7 | exact hx.k13 | exact hx.k15 | exact hx.k17 | exact hx.k20 | exact hx.k21 | exact hx.k23 | exact hx.k25
theorem Ex7.setAs (hx:Ex7 z h a nm fr to as1) (q:Expr):Ex7 z (updC h (a+20) (some (.rows 4 [rowE exE,rowE q] (z 4)))) a nm fr to q:=by
 constructor <;> (rw [updC_at]; first | rw [if_pos rfl] | rw [if_neg (by omega)]) <;> first | exact hx.k7 | exact hx.k13 | exact hx.k15 | exact hx.k17 | exact hx.k20 | exact hx.k21 | exact hx.k23 | exact hx.k25
theorem Ex7.setNm (hx:Ex7 z h a nm fr to as1) (q:ByteArray):Ex7 z (updC h (a+13) (some (.rows 6 [[.t (.str q), .t (ti 2), .t (ti 0), .t (ti (-1)), .t (tb false), .t (ti 0)],[.t (.str (bs [114])), .t (ti 2), .t (ti 0), .t (ti 0), .t (tb false), .t (ti 0)]] (z 1)))) a q fr to as1:=by
 constructor <;> (rw [updC_at]; first | rw [if_pos rfl] | rw [if_neg (by omega)]) <;> first | exact hx.k7 | exact hx.k13 | exact hx.k15 | exact hx.k17 | exact hx.k20 | exact hx.k21 | exact hx.k23 | exact hx.k25
end
def Q1:V:=(.agg [.t (.sl ((exP (bs [120]) 1 (.mk 2 2 0 []) exE).cells.map (Cell.enc))), .t (.sl ((exP (bs [120]) 1 (.mk 2 2 0 []) exE).modules.map (Contract.enc))), .t (.sl ((exP (bs [120]) 1 (.mk 2 2 0 []) exE).locks.map (Lock.enc))), .t (.sl ((exP (bs [120]) 1 (.mk 2 2 0 []) exE).threads.map (Thread.enc)))])
def Q2:V:=(.agg [.t (.sl ((exP (bs [120]) 0 (.mk 1 2 1 []) exE).cells.map (Cell.enc))), .t (.sl ((exP (bs [120]) 0 (.mk 1 2 1 []) exE).modules.map (Contract.enc))), .t (.sl ((exP (bs [120]) 0 (.mk 1 2 1 []) exE).locks.map (Lock.enc))), .t (.sl ((exP (bs [120]) 0 (.mk 1 2 1 []) exE).threads.map (Thread.enc)))])
def Q3:V:=(.agg [.t (.sl ((exP (bs [120]) 0 (.mk 1 1 1 []) exE).cells.map (Cell.enc))), .t (.sl ((exP (bs [120]) 0 (.mk 1 1 1 []) exE).modules.map (Contract.enc))), .t (.sl ((exP (bs [120]) 0 (.mk 1 1 1 []) exE).locks.map (Lock.enc))), .t (.sl ((exP (bs [120]) 0 (.mk 1 1 1 []) exE).threads.map (Thread.enc)))])
def Q4:V:=(.agg [.t (.sl ((exP (bs [120]) 0 (.mk 2 2 0 []) (.mk 11 1 0 [.mk 3 2 0 [], .mk 2 2 0 []])).cells.map (Cell.enc))), .t (.sl ((exP (bs [120]) 0 (.mk 2 2 0 []) (.mk 11 1 0 [.mk 3 2 0 [], .mk 2 2 0 []])).modules.map (Contract.enc))), .t (.sl ((exP (bs [120]) 0 (.mk 2 2 0 []) (.mk 11 1 0 [.mk 3 2 0 [], .mk 2 2 0 []])).locks.map (Lock.enc))), .t (.sl ((exP (bs [120]) 0 (.mk 2 2 0 []) (.mk 11 1 0 [.mk 3 2 0 [], .mk 2 2 0 []])).threads.map (Thread.enc)))])
def Q5:V:=(.agg [.t (.sl ((exP (bs [114]) 0 (.mk 2 2 0 []) exE).cells.map (Cell.enc))), .t (.sl ((exP (bs [114]) 0 (.mk 2 2 0 []) exE).modules.map (Contract.enc))), .t (.sl ((exP (bs [114]) 0 (.mk 2 2 0 []) exE).locks.map (Lock.enc))), .t (.sl ((exP (bs [114]) 0 (.mk 2 2 0 []) exE).threads.map (Thread.enc)))])
theorem head7_den:Den Γ G 216 []=some (vb true):=by
 (refine den_ofY Γ216 rfl ?_; dsimp only [f216])
 simp -dsimp -implicitDefEqProofs only [go_sem,seval]
 refine rawK_of (example7_den _ _) ?_
 rintro r h1 n1 ⟨rfl,rfl,hx0⟩
 have hx:X7 h1:=⟨_,hx0⟩
 have t1:=x_p hx
 have c1:=x_c hx
 have s1:=x_s hx
 have d1:Den Γ G 235 [PV,vi 0,vi (-1),vi (-1)]=some (vb true):=found_ex (bs [120]) (by decide +kernel) 0 (.mk 2 2 0 []) exE 0 (-1) (-1) ex_v0
 have d2:=cellL_den 1 2
 have d3:=validP_den (Expr.mk 2 2 1 []) exP0.cells false
 rw [ex_e] at d3
 have dr:Den Γ G 31 [SV]=some (.t (.sl [[ti 0]])):=by have:=reads_den exStep (by decide); rw [ex_r] at this; exact this
 have dw:Den Γ G 28 [SV]=some (.t (.sl [[ti 1]])):=by have:=writes_den exStep (by decide); rw [ex_w] at this; exact this
 have ds0:Den Γ G 224 [PV,vi 0,vi 0]=some (.t (.sl [[ti 0]])):=by have:=stepsP_den exP0 0 0 (by simp [exP0,exP]); rw [ex_s0] at this; exact this
 have ds1:Den Γ G 224 [PV,vi 0,vi 1]=some (.t (.sl [])):=by have:=stepsP_den exP0 0 1 (by simp [exP0,exP]); rw [ex_s1] at this; exact this
 have dl:Den Γ G 226 [PV,vi 0]=some (.t (.sl [[ti 1]])):=by have:=localsP_den exP0 0 (by decide); rw [ex_l] at this; exact this
 have dh:Den Γ G 228 [PV]=some (.t (.sl [[ti 0]])):=by have:=sharedLP_den exP0 (by decide); rw [ex_o] at this; exact this
 have dt:Den Γ G 219 [PV]=some (.t (.str (bs (textP exP0)))):=textProg_den exP0 (ex_sane _ (by decide +kernel) _ _ _) (ex_few _ _ _ _)
 rw [ex_t0] at dt
 dsimp only at dt
 have i0:Den Γ G 221 [.t (.sl [[ti 0]]), .t (.sl [[ti 0]])]=some (vb true):=(ints_den [0] [0] (by decide)).trans (by simp)
 have i1:Den Γ G 221 [.t (.sl [[ti 1]]), .t (.sl [[ti 1]])]=some (vb true):=(ints_den [1] [1] (by decide)).trans (by simp)
 simp only [go_sem] at d2 d3
 have e1:Den Γ G 235 [Q1,vi 70,vi 0,vi 0]=some (vb true):=found_ex _ (by decide +kernel) _ _ _ _ _ _ ex_v1
 have e2:Den Γ G 235 [Q2,vi 70,vi 0,vi 0]=some (vb true):=found_ex _ (by decide +kernel) _ _ _ _ _ _ ex_v2
 have e3:Den Γ G 235 [Q3,vi 60,vi 0,vi 0]=some (vb true):=found_ex _ (by decide +kernel) _ _ _ _ _ _ ex_v3
 have e4:Den Γ G 235 [Q4,vi 60,vi 0,vi (-1)]=some (vb true):=found_ex _ (by decide +kernel) _ _ _ _ _ _ ex_v4
 have e5:Den Γ G 235 [Q5,vi 41,vi (-1),vi (-1)]=some (vb true):=found_ex _ (by decide +kernel) _ _ _ _ _ _ ex_v5
 have et:Den Γ G 219 [Q1]=some (.t (.str (bs []))):=by
  have:=textProg_den (exP (bs [120]) 1 (.mk 2 2 0 []) exE) (ex_sane _ (by decide +kernel) _ _ _) (ex_few _ _ _ _)
  rw [textP,ex_v1] at this; exact this
 have c12:=const_den 1 2
 have c11:=const_den 1 1
 have o02:=old_den 0 2
 have l02:=cellL_den 0 2
 have tw:=two_den 11 1 (.mk 3 2 0 []) (.mk 2 2 0 [])
 simp only [go_sem,List.map_cons,List.map_nil,Expr.enc_eq] at c12 c11 o02 l02 tw
 obtain ⟨k7,k13,k15,k17,k20,k21,k23,k25⟩:=hx0
 simp only [Nat.reduceAdd,rowE,exE,go_sem] at k7 k13 k15 k17 k20 k21 k23 k25
 simp -dsimp -implicitDefEqProofs only [go_sem,seval, ↓t1, ↓c1, ↓s1,d1,d2,d3,dr,k23,k25,denS_frz]
 refine X7.frz (by first | exact hx | exact hx.upd (by decide) _) ?_
 clear t1 s1 c1 k7 k13 k15 k17 k20 k21 k23 k25 hx h1
 rintro h1 hx
 have t1:=x_p hx
 have s1:=x_s hx
 have t2:=fun k o hk=>x_p (H:=updC h1 k o) (hx.upd hk o)
 have s2:=fun k o hk=>x_s (H:=updC h1 k o) (hx.upd hk o)
 simp -dsimp -implicitDefEqProofs only [go_sem,seval, ↓t1, ↓t2, ↓s1, ↓s2,denS_frz,i0,dw]
 refine X7.frz (by first | exact hx | exact hx.upd (by decide) _) ?_
 clear t1 t2 s1 s2 hx h1
 rintro h1 hx
 have t1:=x_p hx
 have s1:=x_s hx
 have t2:=fun k o hk=>x_p (H:=updC h1 k o) (hx.upd hk o)
 have s2:=fun k o hk=>x_s (H:=updC h1 k o) (hx.upd hk o)
 simp -dsimp -implicitDefEqProofs only [go_sem,seval, ↓t1, ↓t2, ↓s1, ↓s2,denS_frz,i1,ds0]
 refine X7.frz (by first | exact hx | exact hx.upd (by decide) _) ?_
 clear t1 t2 s1 s2 hx h1
 rintro h1 hx
 have t1:=x_p hx
 have s1:=x_s hx
 have t2:=fun k o hk=>x_p (H:=updC h1 k o) (hx.upd hk o)
 have s2:=fun k o hk=>x_s (H:=updC h1 k o) (hx.upd hk o)
 simp -dsimp -implicitDefEqProofs only [go_sem,seval, ↓t1, ↓t2, ↓s1, ↓s2,denS_frz,i0,ds1,denS_sl0,dl]
 refine X7.frz (by first | exact hx | exact hx.upd (by decide) _) ?_
 clear t1 t2 s1 s2 hx h1
 rintro h1 hx
 have t1:=x_p hx
 have s1:=x_s hx
 have t2:=fun k o hk=>x_p (H:=updC h1 k o) (hx.upd hk o)
 have s2:=fun k o hk=>x_s (H:=updC h1 k o) (hx.upd hk o)
 simp -dsimp -implicitDefEqProofs only [go_sem,seval, ↓t1, ↓t2, ↓s1, ↓s2,denS_frz,i1,dh]
 refine X7.frz (by first | exact hx | exact hx.upd (by decide) _) ?_
 clear t1 t2 s1 s2 hx h1
 rintro h1 hx
 have t1:=x_p hx
 have s1:=x_s hx
 have t2:=fun k o hk=>x_p (H:=updC h1 k o) (hx.upd hk o)
 have s2:=fun k o hk=>x_s (H:=updC h1 k o) (hx.upd hk o)
 simp -dsimp -implicitDefEqProofs only [go_sem,seval, ↓t1, ↓t2, ↓s1, ↓s2,denS_frz,i0,dt,beq_self_eq_true]
 refine rawK_of (example7_den _ _) ?_
 clear hx t1 t2 s1 s2 h1
 rintro r h1 n1 ⟨rfl,rfl,hx⟩
 have tq:=(hx.setFr 1).tree
 obtain ⟨k7,k13,k15,k17,k20,k21,k23,k25⟩:=hx
 simp only [Nat.reduceAdd] at tq
 conv at tq=>rhs; change some Q1
 simp only [Nat.reduceAdd,rowE,exE,go_sem] at k7 k13 k15 k17 k20 k21 k23 k25
 simp -dsimp -implicitDefEqProofs only [go_sem,seval, ↓tq,k7,k23,k25,e1,et,beq_self_eq_true]
 refine rawK_of (example7_den _ _) ?_
 clear tq k7 k13 k15 k17 k20 k21 k23 k25 h1
 rintro r h1 n1 ⟨rfl,rfl,hx⟩
 obtain ⟨k7,k13,k15,k17,k20,k21,k23,k25⟩:=id hx
 simp only [Nat.reduceAdd,rowE,exE,go_sem] at k7 k13 k15 k17 k20 k21 k23 k25
 have tq:=(hx.setTo (.mk 1 2 1 [])).tree
 simp only [Nat.reduceAdd,rowE,exE,Expr.op_mk,Expr.w_mk,Expr.n_mk,Expr.kids_mk,List.map_nil,List.map_cons,Expr.enc_eq] at tq
 conv at tq=>rhs; change some Q2
 simp -dsimp -implicitDefEqProofs only [go_sem,seval, ↓tq,k7,k23,k25,e2,c12]
 clear tq
 have tq:=((hx.setTo (.mk 1 2 1 [])).setTo (.mk 1 1 1 [])).tree
 simp only [Nat.reduceAdd,rowE,exE,Expr.op_mk,Expr.w_mk,Expr.n_mk,Expr.kids_mk,List.map_nil,List.map_cons,Expr.enc_eq] at tq
 conv at tq=>rhs; change some Q3
 simp -dsimp -implicitDefEqProofs only [go_sem,seval, ↓tq,k7,k23,k25,e3,c11]
 refine rawK_of (example7_den _ _) ?_
 clear tq hx k7 k13 k15 k17 k20 k21 k23 k25 h1
 rintro r h1 n1 ⟨rfl,rfl,hx⟩
 obtain ⟨k7,k13,k15,k17,k20,k21,k23,k25⟩:=id hx
 simp only [Nat.reduceAdd,rowE,exE,go_sem] at k7 k13 k15 k17 k20 k21 k23 k25
 have tq:=(hx.setAs (.mk 11 1 0 [.mk 3 2 0 [], .mk 2 2 0 []])).tree
 simp only [Nat.reduceAdd,rowE,exE,Expr.op_mk,Expr.w_mk,Expr.n_mk,Expr.kids_mk,List.map_nil,List.map_cons,Expr.enc_eq] at tq
 conv at tq=>rhs; change some Q4
 simp -dsimp -implicitDefEqProofs only [go_sem,seval, ↓tq,k20,k25,e4,o02,l02,tw]
 refine rawK_of (example7_den _ _) ?_
 clear tq hx k7 k13 k15 k17 k20 k21 k23 k25 h1
 rintro r h1 n1 ⟨rfl,rfl,hx⟩
 obtain ⟨k7,k13,k15,k17,k20,k21,k23,k25⟩:=id hx
 simp only [Nat.reduceAdd,rowE,exE,go_sem] at k7 k13 k15 k17 k20 k21 k23 k25
 have tq:=(hx.setNm (bs [114])).tree
 simp only [Nat.reduceAdd,rowE,exE,Expr.op_mk,Expr.w_mk,Expr.n_mk,Expr.kids_mk,List.map_nil,List.map_cons,Expr.enc_eq] at tq
 conv at tq=>rhs; change some Q5
 simp -dsimp -implicitDefEqProofs only [go_sem,seval, ↓tq,k13,e5]
end Rg
end
section
set_option maxRecDepth 100000
namespace Rg
open Go
theorem thr_tree (p:Prog) (l:List Thread) {h:Nat->Option O} {k n:Nat} {rows:List (List V)} (hk:h k=some (.rows 7 rows false)) (hr:rows=(l.map Thread.enc).map (fun x=>x.map V.t)) (hn:n=l.length) :
 toT1 h (.agg [.t (.sl (p.cells.map Cell.enc)), .t (.sl (p.modules.map Contract.enc)), .t (.sl (p.locks.map Lock.enc)), .ms k 0 n])=some (.agg [.t (.sl (({ p with threads:=l }).cells.map (Cell.enc))), .t (.sl (({ p with threads:=l }).modules.map (Contract.enc))), .t (.sl (({ p with threads:=l }).locks.map (Lock.enc))), .t (.sl (({ p with threads:=l }).threads.map (Thread.enc)))]):=by
 subst hr hn
 have e:toT h 1000 (.ms k 0 l.length)=some (.sl (l.map Thread.enc)):=by
  refine toT_ms (r:=(l.map Thread.enc).map (fun x=>x.map V.t)) hk (by unfold rd; rw [if_pos (by simp),List.drop_zero,List.take_of_length_le (by simp)]) ?_
  refine rows_toT h 999 (l.map Thread.enc) ?_
  intro e he t ht
  obtain ⟨x,_,rfl⟩:=List.mem_map.1 he
  simp only [Thread.enc,List.mem_cons,List.not_mem_nil,or_false] at ht
  rcases ht with rfl | rfl | rfl | rfl | rfl | rfl | rfl <;> rfl
 simp [toT1,e,toT_t,T.norm]
theorem cut_tree (p:Prog) (i:Nat) (x:Thread) (k:Nat) {h:Nat->Option O} {a:Nat}
 (hk:h a=some (.rows 7 (((p.threads.map Thread.enc).map (fun x=>x.map V.t)).set i [.t (.str x.name), .t (ti x.points), .t (.sl (x.asserts.map Expr.enc)), .t (ints x.modules), .t (.sl ((x.steps.map Step.enc).take k)), .t (.sl (x.loops.map Loop.enc)), .t (tb x.asleep)]) false)) :
 toT1 h (.agg [.t (.sl (p.cells.map Cell.enc)), .t (.sl (p.modules.map Contract.enc)), .t (.sl (p.locks.map Lock.enc)), .ms a 0 p.threads.length])=some (.agg [.t (.sl ((cutAt p i x k).cells.map (Cell.enc))), .t (.sl ((cutAt p i x k).modules.map (Contract.enc))), .t (.sl ((cutAt p i x k).locks.map (Lock.enc))), .t (.sl ((cutAt p i x k).threads.map (Thread.enc)))]):=by
 refine thr_tree p _ hk ?_ (by simp)
 rw [List.map_set,List.map_set]
 simp [Thread.enc,List.map_take]
theorem denS_tup3 (a b c:Int) (d:Bool) (h:Nat->Option O) (vs:List V) (K:V->(Nat->Option O)->Prop) (w:WK K):denS (some (.tup [vi a,vi b,vi c])) d h vs K w=K (.tup [vi a,vi b,vi c]) h:=by
 simp [denS,V.scalar,V.scalar2,V.scalar1,T.scalar]
theorem lawFirst_den (p:Prog) (hl:p.lite7):Den Γ G 214 [(.agg [.t (.sl ((p).cells.map (Cell.enc))), .t (.sl ((p).modules.map (Contract.enc))), .t (.sl ((p).locks.map (Lock.enc))), .t (.sl ((p).threads.map (Thread.enc)))])]=some (vb true):=by
 (refine den_ofY Γ214 rfl ?_; dsimp only [f214])
 have h0:=head7_den
 have h1:=small7_den p 620 (by decide)
 cases hg:progSmall 620 p
 ·rw [hg] at h1
  simp -dsimp -implicitDefEqProofs only [go_sem,seval,h0,h1]
 rw [hg] at h1
 have hsm:=progSmall_of hg
 have h2:=validP7_den p (hsm.sane hl)
 rcases hv:validM p with ⟨e,t,s⟩
 rw [hv] at h2
 have hrg:=valid_range hv
 by_cases he:e=0
 ·subst he
  obtain ⟨rfl,rfl⟩:=valid_ok hv
  simp -dsimp -implicitDefEqProofs only [go_sem,seval,h0,h1,h2]
 have c1:decide (t < -1)=false:=by simp; omega
 have c2:decide (t>=(p.threads.length:Int))=false:=by simp; omega
 have c3:decide (s < -1)=false:=by simp; omega
 by_cases hs:s = -1
 ·subst hs
  by_cases ht:t = -1
  ·have c2' : decide ((-1:Int)>=(p.threads.length:Int))=false:=by simp; omega
   simp -dsimp -implicitDefEqProofs only [go_sem,seval,h0,h1,h2,he,ht,c2',decide_true,decide_false]
  ·simp -dsimp -implicitDefEqProofs only [go_sem,seval,h0,h1,h2,he,ht,c1,c2,c3,decide_true,decide_false]
 obtain ⟨i,j,x,y,rfl,rfl,hat⟩:=at_of hv hs
 have ht : ¬ (i:Int) = -1:=by omega
 have hjl:=(List.getElem?_eq_some_iff.1 hat.hy).1
 have hil:=(List.getElem?_eq_some_iff.1 hat.hx).1
 have c4:decide ((j:Int)>=(x.steps.length:Int))=false:=by simp; omega
 simp -dsimp -implicitDefEqProofs only [go_sem,seval,h0,h1,h2,he,hs,ht,c4,c1,c2,c3,decide_true,decide_false,hat.hx]
 have hne:(p.threads.map Thread.enc).map (fun x=>x.map V.t)≠[]:=by
  intro h; rw [List.map_eq_nil_iff,List.map_eq_nil_iff] at h; rw [h] at hil; simp at hil
 have hall:(((p.threads.map Thread.enc).map (fun x=>x.map V.t)).all fun r=>decide (r.length=7))=true:=by simp [Thread.enc]
 have htl:=hsm.threads
 have hri:((p.threads.map Thread.enc).map (fun x=>x.map V.t))[i]? = some [.t (.str x.name), .t (ti x.points), .t (.sl (x.asserts.map Expr.enc)), .t (ints x.modules), .t (.sl (x.steps.map Step.enc)), .t (.sl (x.loops.map Loop.enc)), .t (tb x.asleep)]:=by rw [List.getElem?_map,List.getElem?_map,hat.hx]; rfl
 have e0:(i<p.threads.length)=True:=eq_true hil
 have hw:=wrapS j (by have:=(hsm.thr x (List.mem_of_getElem? hat.hx)).2.2.1; omega)
 have e1:(0<=((j+1:Nat):Int))=True:=eq_true (by omega)
 have e2:(((j+1:Nat):Int)<=(x.steps.length:Int))=True:=eq_true (by omega)
 have e3:(((j+1:Nat):Int)-0).toNat=j+1:=by omega
 have e4:((x.steps.map Step.enc).all fun x=>decide (x.length=11))=true:=by simp [Step.enc,Expr.enc_eq]
 have e5:(0<=(j:Int))=True:=eq_true (by omega)
 have e6:((j:Int)<=(x.steps.length:Int))=True:=eq_true (by omega)
 have e7:((j:Int)-0).toNat=j:=by omega
 refine putA_appE (a:=[]) (by simp -dsimp -implicitDefEqProofs only [go_sem,seval]) (by simp; omega) (by decide) hall rfl hne ?_
 rw [List.nil_append]
 simp -dsimp -implicitDefEqProofs only [go_sem,seval,hri,hat.hx,hw,e0,e1,e2,e3,e4,and_self,if_true]
 refine putA_appE (a:=[]) (by simp -dsimp -implicitDefEqProofs only [go_sem,seval]) (by simp; omega) (by decide) hall rfl hne ?_
 rw [List.nil_append]
 have t1:=fun H hH=>cut_tree p i x (j+1) (h:=H) (a:=56) hH
 have t2:=fun H hH=>cut_tree p i x j (h:=H) (a:=80) hH
 rcases hv2:validM (cutAt p i x j) with ⟨e',u,v⟩
 have hr:=validP7_den (cutAt p i x j) (cut_sane hat.hx (hsm.sane hl))
 rw [hv2] at hr
 have hf:=found_den (cutAt p i x (j+1)) (cut_sane hat.hx (hsm.sane hl)) e i j
 rw [cut_same hat,decide_eq_true rfl] at hf
 have hn:=cut_none hat hv2
 simp -dsimp -implicitDefEqProofs only [go_sem,seval, ↓t1, ↓t2,hri,hat.hx,e0,e5,e6,e7,e4,and_self,if_true,hr,hf,denS_tup3]
 by_cases hu:u=i
 ·have hv' : v = -1:=by rcases hn with h | h; exact absurd hu h; exact h
  simp -dsimp -implicitDefEqProofs only [go_sem,seval,hu,hv',decide_true,decide_false]
 ·simp -dsimp -implicitDefEqProofs only [go_sem,seval,hu,decide_true,decide_false]
end Rg
end
section
namespace Rg
open Go
theorem node_inner {e:Expr} (h:nodeOk e=true) (hk:e.kids≠[]):e.op≠1/\e.op≠2/\e.op≠3:=by
 have ha:=node_arity h
 refine ⟨fun ho => ?_,fun ho => ?_,fun ho => ?_⟩ <;> rw [ho] at ha <;> simp [arity] at ha <;> exact hk (List.eq_nil_of_length_eq_zero (by omega))
theorem lv_mem {e x:Expr} (h:x∈e.lv):x.kids=[]:=by
 induction e using Expr.ind with
 | _ e ih =>
  rw [Expr.lv_eq] at h
  split at h
  ·rename_i hk; rw [List.mem_singleton.1 h]; exact hk
  ·obtain ⟨k,hk,hx⟩:=List.mem_flatMap.1 h
   exact ih k hk hx
theorem lv_kid {e k:Expr} (hk:k∈e.kids) {x:Expr} (hx:x∈k.lv):x∈e.lv:=by
 rw [Expr.lv_eq,if_neg (by intro h; rw [h] at hk; simp at hk)]
 exact List.mem_flatMap.2 ⟨k,hk,hx⟩
theorem lv_self {e:Expr} (hk:e.kids=[]):e∈e.lv:=by rw [Expr.lv_eq,if_pos hk]; simp
theorem lv_deep {x:Expr} : ∀ {d:Nat} {e:Expr},e.deep d=true->x∈e.lv->nodeOk x=true:=by
 intro d
 induction d with
 | zero=>intro e h; simp [Expr.deep] at h
 | succ d ih =>
  intro e h hx
  rw [Expr.lv_eq] at hx
  split at hx
  ·rw [List.mem_singleton.1 hx]; exact deep_node h
  ·obtain ⟨k,hk,hx⟩:=List.mem_flatMap.1 hx
   exact ih (deep_kid h hk) hx
theorem lv_allE {f:Expr->Bool} {x:Expr} : ∀ {e:Expr},e.allE f=true->x∈e.lv->f x=true:=by
 intro e
 induction e using Expr.ind with
 | _ e ih =>
  intro h hx
  rw [Expr.lv_eq] at hx
  split at hx
  ·rw [List.mem_singleton.1 hx]; exact Expr.allE_self h
  ·obtain ⟨k,hk,hx⟩:=List.mem_flatMap.1 hx
   exact ih k hk (Expr.allE_kid h hk) hx
end Rg
end
