/- Part of the proof of the laws of the package relyguardlaw07: an abstract machine for the program's functions, what they compute, and that the machine is the program's. No condition. (H32j H13p H32e H32g H32h H32c) -/
import Derived.Test.YtamaecmfhphpeaaGreatDoorPartBA
import Derived.Test.YtamaecmfhphpeaaGreatDoorPartBB
import Derived.Test.YtamaecmfhphpeaaGreatDoorPartAU
import Derived.Test.YtamaecmfhphpeaaGreatDoorPartAV
import Derived.Test.YtamaecmfhphpeaaGreatDoorPartAZ
set_option linter.unusedSimpArgs false
set_option linter.unusedVariables false
section
namespace Rg
open Go
def eraAt {α:Type} (l:List α) (k:Nat):List α:=l.take k++l.drop (k+1)
theorem era_get {α:Type} (l:List α) {k:Nat} (hk:k<l.length) (i:Nat):(eraAt l k)[i]? = l[if i<k then i else i+1]? := by
 unfold eraAt
 rw [List.getElem?_append,List.length_take,Nat.min_eq_left (by omega)]
 split
 ·rw [List.getElem?_take,if_pos (by assumption)]
 ·rw [List.getElem?_drop]; congr 1; omega
theorem era_mem {α:Type} {l:List α} {k:Nat} {x:α} (h:x∈eraAt l k):x∈l:=by
 unfold eraAt at h
 rcases List.mem_append.1 h with h | h
 ·exact List.mem_of_mem_take h
 ·exact List.mem_of_mem_drop h
theorem era_len {α:Type} (l:List α) (k:Nat):(eraAt l k).length<=l.length:=by
 unfold eraAt; rw [List.length_append,List.length_take,List.length_drop]; omega
theorem era_any {α:Type} {l:List α} {k:Nat} (hk:k<l.length) {f:α->Bool} {i:Nat} (h:(l.take (if i<k then i else i+1)).any f=false):((eraAt l k).take i).any f=false:=by
 rw [List.any_eq_false] at h ⊢
 intro x hx
 obtain ⟨j,hj,hxj⟩:=List.mem_iff_getElem.1 hx
 have hj2:((eraAt l k).take i)[j]? = some x:=by rw [<- hxj]; exact List.getElem?_eq_getElem hj
 rw [List.getElem?_take] at hj2
 split at hj2
 ·rename_i hji
  rw [era_get l hk] at hj2
  refine h x (List.mem_of_getElem? (i:=if j<k then j else j+1) ?_)
  rw [List.getElem?_take,if_pos]
  ·exact hj2
  ·split <;> split <;> omega
 ·cases hj2
def setThr (p:Prog) (i:Nat) (x:Thread):Prog:={ p with threads:=p.threads.set i x }
section
variable {p:Prog} {i:Nat} {x x' : Thread}
theorem setThr_get (hx:p.threads[i]? = some x) (j:Nat):(setThr p i x').threads[j]? = if j=i then some x' else p.threads[j]? := by
 have:=(List.getElem?_eq_some_iff.1 hx).1
 unfold setThr
 simp only [List.getElem?_set]
 by_cases h:i=j
 ·subst h; simp [this]
 ·rw [if_neg h,if_neg (fun e=>h e.symm)]
theorem setThr_like (hx:p.threads[i]? = some x) (ha:x'.asleep=x.asleep):Like p (setThr p i x'):=by
 refine ⟨rfl,rfl,by simp [setThr],fun t => ?_⟩
 unfold asleepAt
 rw [setThr_get hx]
 by_cases h:t.toNat=i
 ·rw [if_pos h,h,hx]; exact ha.symm
 ·rw [if_neg h]
theorem setThr_names (hx:p.threads[i]? = some x) (hn:x'.name=x.name) (j:Nat) (b:ByteArray):((setThr p i x').threads.take j).any (fun d=>d.name.toList==b.toList)=(p.threads.take j).any (fun d=>d.name.toList==b.toList):=by
 refine take_any_names j (by simp [setThr]) fun a y z hy hz => ?_
 rw [setThr_get hx] at hy
 by_cases h:a=i
 ·rw [if_pos h] at hy; cases hy; subst h; rw [hx] at hz; cases hz; rw [hn]
 ·rw [if_neg h,hz] at hy; cases hy; rfl
theorem threadErr_set (hx:p.threads[i]? = some x) (hn:x'.name=x.name) (ha:x'.asleep=x.asleep) (j:Nat) (y:Thread):(threadErr (setThr p i x') j y).1=0<->(threadErr p j y).1=0:=by
 rw [threadErr_iff,threadErr_iff]
 have hst : ∀ t n s,stepErr (setThr p i x') t n s=stepErr p t n s:=fun t n s=>(stepErr_like (setThr_like hx ha) t n s).symm
 have hlp : ∀ t n s,loopErr (setThr p i x') t n s=loopErr p t n s:=fun t n s=>(loopErr_like (p:=p) (q:=setThr p i x') rfl t n s).symm
 have htr : ∀ e b t,truthOk (setThr p i x') e b t=truthOk p e b t:=fun e b t=>(truthOk_like (p:=p) (q:=setThr p i x') rfl e b t).symm
 simp only [setThr_names hx hn,hst,hlp,htr]
 exact Iff.rfl
theorem setThr_ok (hok:p.ok) (hx:p.threads[i]? = some x) (hn:x'.name=x.name) (ha:x'.asleep=x.asleep) (hlim:x'.points<=48/\x'.steps.length<=64/\x'.loops.length<=8) (he:(threadErr p i x').1=0):(setThr p i x').ok:=by
 have h:=ok_iff.1 hok
 have hl:=setThr_like (p:=p) (x' := x') hx ha
 refine ok_iff.2 ⟨?_,fun j c hc => ?_,fun j m hm => ?_,fun j l hl' => ?_,fun j y hy => ?_⟩
 ·have h1:=limits_iff.1 h.lim
  refine limits_iff.2 ⟨⟨h1.1.1,h1.1.2.1,h1.1.2.2.1,by rw [<- hl.thr]; exact h1.1.2.2.2⟩,fun y hy => ?_⟩
  obtain ⟨j,hj,rfl⟩:=List.mem_iff_getElem.1 hy
  have hj2:=List.getElem?_eq_getElem hj
  rw [setThr_get hx] at hj2
  split at hj2
  ·rw [<- Option.some.inj hj2]; exact hlim
  ·exact h1.2 _ (List.mem_of_getElem? hj2)
 ·rw [<- cellErr_like (p:=p) (q:=setThr p i x') rfl rfl hl.thr]; exact h.cells j c hc
 ·rw [<- modErr_like (p:=p) (q:=setThr p i x') rfl rfl]; exact h.modules j m hm
 ·rw [<- lockErr_like (p:=p) (q:=setThr p i x') rfl rfl rfl]; exact h.locks j l hl'
 ·rw [threadErr_set hx hn ha]
  rw [setThr_get hx] at hy
  split at hy
  ·rename_i hji
   cases hy; subst hji; exact he
  ·exact h.threads j y hy
theorem setThr_mem (hx:p.threads[i]? = some x) {z:Thread} (hz:z∈(setThr p i x').threads):z=x' \/ z∈p.threads:=by
 obtain ⟨j,hj,rfl⟩:=List.mem_iff_getElem.1 hz
 have hj2:=List.getElem?_eq_getElem hj
 rw [setThr_get hx] at hj2
 split at hj2
 ·exact .inl (Option.some.inj hj2).symm
 ·exact .inr (List.mem_of_getElem? hj2)
theorem setThr_small {L:Int} (hs:p.SmallP L) (hx:p.threads[i]? = some x)
 (h1:x'.asserts.length<=60/\x'.modules.length<=60/\x'.steps.length<=80/\x'.loops.length<=12/\(∀ e∈x'.asserts,(e.size:Int)<=L))
 (h2 : ∀ s∈x'.steps,s.set.length<=40/\(s.guard.size:Int)<=L /\ ∀ a∈s.set,(a.to.size:Int)<=L) (h3 : ∀ l∈x'.loops,l.body.length<=60/\(l.variant.size:Int)<=L):(setThr p i x').SmallP L:=by
 refine ⟨hs.cells,hs.modules,hs.locks,by simpa [setThr] using hs.threads,hs.mods,hs.lcks,fun z hz => ?_,fun z hz => ?_,fun z hz => ?_⟩
 ·rcases setThr_mem hx hz with rfl | hz
  ·exact h1
  ·exact hs.thr z hz
 ·rcases setThr_mem hx hz with rfl | hz
  ·exact h2
  ·exact hs.steps z hz
 ·rcases setThr_mem hx hz with rfl | hz
  ·exact h3
  ·exact hs.loops z hz
theorem setThr_lite (hl:p.lite7) (hx:p.threads[i]? = some x) (hn:x'.name=x.name):(setThr p i x').lite7:=by
 refine ⟨hl.cname,hl.mname,fun z hz => ?_⟩
 rcases setThr_mem hx hz with rfl | hz
 ·rw [hn]; exact hl.tname x (List.mem_of_getElem? hx)
 ·exact hl.tname z hz
theorem good7_of {L:Int} (h1:p.SmallP L) (h2:p.ok):good7M L p=true:=by
 unfold good7M
 rw [h1.progSmall,Bool.true_and,decide_eq_true_eq]; exact h2
def oneE:Expr:=.mk 1 1 1 []
theorem one_truth (p:Prog) (pr:Bool) (t:Int):truthOk p oneE pr t=true:=by
 have h1:oneE.one=true:=by decide +kernel
 unfold truthOk overOk
 rw [sup_one h1 3 (by decide),sup_one h1 2 (by decide)]
 have hv:oneE.valid p.cells pr=true:=by
  have hf:oneE.formed=true:=by decide +kernel
  simp only [Expr.valid,hf,Bool.true_and]
  simp [oneE,Expr.allE_eq,leafOk,Expr.kids,Expr.op]
 rw [hv]; rfl
theorem part_steps (hg:good7M 40 p=true) (hx:p.threads[i]? = some x) (k:Nat):good7M 40 (setThr p i { x with steps:=eraAt x.steps k })=true:=by
 have hs:=good7_small hg
 have hok:=good7_ok hg
 have hm:=List.mem_of_getElem? hx
 have h1:=(limits_iff.1 (ok_iff.1 hok).lim).2 x hm
 have h2:=threadErr_iff.1 ((ok_iff.1 hok).threads i x hx)
 have h3:=hs.thr x hm
 have hel:=era_len x.steps k
 refine good7_of (setThr_small hs hx ⟨h3.1,h3.2.1,by simp only; omega,h3.2.2.2⟩ (fun s hs' => hs.steps x hm s (era_mem hs')) (hs.loops x hm)) (setThr_ok hok hx rfl rfl ⟨h1.1,by simp only; omega,h1.2.2⟩ ?_)
 refine threadErr_iff.2 ⟨h2.1,h2.2.1,h2.2.2.1,h2.2.2.2.1,h2.2.2.2.2.1,fun j s hj => ?_,h2.2.2.2.2.2.2⟩
 obtain ⟨j',hj',hsj⟩:=List.mem_iff_getElem.1 (era_mem (List.mem_of_getElem? hj))
 exact h2.2.2.2.2.2.1 j' s (by rw [<- hsj]; exact List.getElem?_eq_getElem hj')
theorem part_loops (hg:good7M 40 p=true) (hx:p.threads[i]? = some x) (k:Nat):good7M 40 (setThr p i { x with loops:=eraAt x.loops k })=true:=by
 have hs:=good7_small hg
 have hok:=good7_ok hg
 have hm:=List.mem_of_getElem? hx
 have h1:=(limits_iff.1 (ok_iff.1 hok).lim).2 x hm
 have h2:=threadErr_iff.1 ((ok_iff.1 hok).threads i x hx)
 have h3:=hs.thr x hm
 have hel:=era_len x.loops k
 refine good7_of (setThr_small hs hx ⟨h3.1,h3.2.1,h3.2.2.1,by simp only; omega,h3.2.2.2.2⟩ (hs.steps x hm) (fun s hs' => hs.loops x hm s (era_mem hs'))) (setThr_ok hok hx rfl rfl ⟨h1.1,h1.2.1,by simp only; omega⟩ ?_)
 refine threadErr_iff.2 ⟨h2.1,h2.2.1,h2.2.2.1,h2.2.2.2.1,h2.2.2.2.2.1,h2.2.2.2.2.2.1,fun j s hj => ?_⟩
 obtain ⟨j',hj',hsj⟩:=List.mem_iff_getElem.1 (era_mem (List.mem_of_getElem? hj))
 exact h2.2.2.2.2.2.2 j' s (by rw [<- hsj]; exact List.getElem?_eq_getElem hj')
theorem part_asserts (hg:good7M 40 p=true) (hx:p.threads[i]? = some x) (k:Nat):good7M 40 (setThr p i { x with asserts:=x.asserts.set k oneE })=true:=by
 have hs:=good7_small hg
 have hok:=good7_ok hg
 have hm:=List.mem_of_getElem? hx
 have h1:=(limits_iff.1 (ok_iff.1 hok).lim).2 x hm
 have h2:=threadErr_iff.1 ((ok_iff.1 hok).threads i x hx)
 have h3:=hs.thr x hm
 refine good7_of (setThr_small hs hx ⟨by simp only [List.length_set]; exact h3.1,h3.2.1,h3.2.2.1,h3.2.2.2.1,fun e he => ?_⟩ (hs.steps x hm) (hs.loops x hm)) (setThr_ok hok hx rfl rfl h1 ?_)
 ·rcases List.mem_or_eq_of_mem_set he with h | rfl
  ·exact h3.2.2.2.2 e h
  ·decide +kernel
 ·refine threadErr_iff.2 ⟨h2.1,h2.2.1,by simp only [List.length_set]; exact h2.2.2.1,h2.2.2.2.1, ?_,h2.2.2.2.2.2⟩
  rw [List.all_eq_true]
  intro e he
  rcases List.mem_or_eq_of_mem_set he with h | rfl
  ·exact List.all_eq_true.1 h2.2.2.2.2.1 e h
  ·exact one_truth p false i
end
theorem part_locks {p:Prog} (hg:good7M 40 p=true) {k:Nat} (hk:k<p.locks.length):good7M 40 { p with locks:=eraAt p.locks k } = true:=by
 have hs:=good7_small hg
 have hok:=good7_ok hg
 have h:=ok_iff.1 hok
 have hel:=era_len p.locks k
 have hlk:Like p { p with locks:=eraAt p.locks k }:=⟨rfl,rfl,rfl,fun _=>rfl⟩
 refine good7_of ⟨hs.cells,hs.modules,by have:=hs.locks; simp only; omega,hs.threads,hs.mods,fun l hl=>hs.lcks l (era_mem hl),hs.thr,hs.steps,hs.loops⟩ (ok_iff.2 ⟨?_,fun j c hc => ?_,fun j m hm => ?_,fun j l hl' => ?_,fun j y hy => ?_⟩)
 ·have h1:=limits_iff.1 h.lim
  exact limits_iff.2 ⟨⟨h1.1.1,h1.1.2.1,by simp only; omega,h1.1.2.2.2⟩,h1.2⟩
 ·exact h.cells j c hc
 ·rw [<- modErr_like (p:=p) (q:={ p with locks:=eraAt p.locks k }) rfl rfl]; exact h.modules j m hm
 ·simp only at hl'
  rw [era_get _ hk] at hl'
  have h1:=lockErr_iff.1 (h.locks _ l hl')
  refine lockErr_iff.2 ⟨h1.1,era_any hk h1.2.1, ?_⟩
  rw [<- truthOk_like (p:=p) (q:={ p with locks:=eraAt p.locks k }) rfl]; exact h1.2.2
 ·have h1:=threadErr_iff.1 (h.threads j y hy)
  refine threadErr_iff.2 ⟨h1.1,h1.2.1,h1.2.2.1,h1.2.2.2.1, ?_,fun a s hs' => ?_,fun a l hl' => ?_⟩
  ·rw [List.all_eq_true]
   intro e he
   rw [<- truthOk_like (p:=p) (q:={ p with locks:=eraAt p.locks k }) rfl]; exact List.all_eq_true.1 h1.2.2.2.2.1 e he
  ·rw [<- stepErr_like hlk]; exact h1.2.2.2.2.2.1 a s hs'
  ·rw [<- loopErr_like (p:=p) (q:={ p with locks:=eraAt p.locks k }) rfl]; exact h1.2.2.2.2.2.2 a l hl'
theorem part_rely {p:Prog} (hg:good7M 40 p=true) {k:Nat} {m0:Contract} (hk:p.modules[k]? = some m0):good7M 40 { p with modules:=p.modules.set k { m0 with rely:=oneE } } = true:=by
 have hs:=good7_small hg
 have hok:=good7_ok hg
 have h:=ok_iff.1 hok
 have hkl:=(List.getElem?_eq_some_iff.1 hk).1
 obtain ⟨q,hq⟩ : ∃ q:Prog,q = { p with modules:=p.modules.set k { m0 with rely:=oneE } }:=⟨_,rfl⟩
 have hqm:q.modules=p.modules.set k { m0 with rely:=oneE }:=by rw [hq]
 have hqc:p.cells=q.cells:=by rw [hq]
 have hql:p.modules.length=q.modules.length:=by rw [hqm]; simp
 have hqt:p.threads=q.threads:=by rw [hq]
 have hqk:p.locks=q.locks:=by rw [hq]
 have hlk:Like p q:=⟨hqc,hql,by rw [hqt],fun t=>by unfold asleepAt; rw [hqt]⟩
 have hget : ∀ j,q.modules[j]? = if j=k then some { m0 with rely:=oneE } else p.modules[j]? := by
  intro j
  rw [hqm,List.getElem?_set]
  by_cases e:k=j
  ·subst e; simp [hkl]
  ·rw [if_neg e,if_neg (fun e' => e e'.symm)]
 have hnames : ∀ j (b:ByteArray),(q.modules.take j).any (fun d=>d.name.toList==b.toList)=(p.modules.take j).any (fun d=>d.name.toList==b.toList):=by
  have hgen : ∀ (l m:List Contract) (j:Nat) (b:ByteArray),l.length=m.length->(∀ (a:Nat) (y z:Contract),l[a]? = some y->m[a]? = some z->y.name=z.name) ->
   (l.take j).any (fun d=>d.name.toList==b.toList)=(m.take j).any (fun d=>d.name.toList==b.toList):=by
   intro l
   induction l with
   | nil=>intro m j b hl _; cases m with | nil=>rfl | cons _ _=>cases hl
   | cons y l ih =>
    intro m j b hl hn
    cases m with
    | nil=>cases hl
    | cons z m =>
     cases j with
     | zero=>rfl
     | succ j =>
      simp only [List.take_succ_cons,List.any_cons]
      rw [hn 0 y z rfl rfl,ih m j b (by simpa using hl) fun a y z hy hz=>hn (a+1) y z (by simpa using hy) (by simpa using hz)]
  intro j b
  refine hgen _ _ j b hql.symm fun a y z hy hz => ?_
  rw [hget] at hy
  split at hy
  ·rename_i e; subst e; rw [hk] at hz; cases hz; cases hy; rfl
  ·rw [hz] at hy; cases hy; rfl
 rw [<- hq]
 refine good7_of ⟨by rw [<- hqc]; exact hs.cells,by rw [<- hql]; exact hs.modules,by rw [<- hqk]; exact hs.locks,by rw [<- hqt]; exact hs.threads,fun m hm => ?_,by rw [<- hqk]; exact hs.lcks,by rw [<- hqt]; exact hs.thr,by rw [<- hqt]; exact hs.steps,by rw [<- hqt]; exact hs.loops⟩
  (ok_iff.2 ⟨?_,fun j c hc => ?_,fun j m hm => ?_,fun j l hl' => ?_,fun j y hy => ?_⟩)
 ·rw [hqm] at hm
  rcases List.mem_or_eq_of_mem_set hm with hm | rfl
  ·exact hs.mods m hm
  ·have:=hs.mods m0 (List.mem_of_getElem? hk)
   exact ⟨this.1,by show (oneE.size:Int)<=40; decide +kernel,this.2.2⟩
 ·have h1:=limits_iff.1 h.lim
  exact limits_iff.2 ⟨⟨by rw [<- hqc]; exact h1.1.1,by rw [<- hql]; exact h1.1.2.1,by rw [<- hqk]; exact h1.1.2.2.1,by rw [<- hqt]; exact h1.1.2.2.2⟩,by rw [<- hqt]; exact h1.2⟩
 ·rw [<- cellErr_like hqc hql (by rw [hqt])]; exact h.cells j c (by rw [hqc]; exact hc)
 ·rw [hget] at hm
  split at hm
  ·rename_i e
   subst e
   cases hm
   have h1:=modErr_iff.1 (h.modules j m0 hk)
   refine modErr_iff.2 ⟨h1.1,by rw [hnames]; exact h1.2.1,⟨.inr (one_truth q true (-1)),by rw [<- truthOk_like hqc]; exact h1.2.2.1.2⟩,h1.2.2.2.1,by rw [<- ofThread_like hqc]; exact h1.2.2.2.2⟩
  ·have h1:=modErr_iff.1 (h.modules j m hm)
   refine modErr_iff.2 ⟨h1.1,by rw [hnames]; exact h1.2.1,⟨by rw [<- truthOk_like hqc]; exact h1.2.2.1.1,by rw [<- truthOk_like hqc]; exact h1.2.2.1.2⟩,h1.2.2.2.1,by rw [<- ofThread_like hqc]; exact h1.2.2.2.2⟩
 ·rw [<- lockErr_like hqc hql hqk]; exact h.locks j l (by rw [hqk]; exact hl')
 ·have h1:=threadErr_iff.1 (h.threads j y (by rw [hqt]; exact hy))
  refine threadErr_iff.2 ⟨h1.1,by rw [<- hqt]; exact h1.2.1,h1.2.2.1,by rw [<- hql]; exact h1.2.2.2.1, ?_,fun a s hs' => ?_,fun a l hl' => ?_⟩
  ·rw [List.all_eq_true]
   intro e he
   rw [<- truthOk_like hqc]; exact List.all_eq_true.1 h1.2.2.2.2.1 e he
  ·rw [<- stepErr_like hlk]; exact h1.2.2.2.2.2.1 a s hs'
  ·rw [<- loopErr_like hqc]; exact h1.2.2.2.2.2.2 a l hl'
end Rg
end
section
namespace Rg
open Go
theorem node_inner {e:Expr} (h:nodeOk e=true) (hk:e.kids≠[]):e.op≠1/\e.op≠2/\e.op≠3:=by
 have ha:=node_arity h
 refine ⟨fun ho => ?_,fun ho => ?_,fun ho => ?_⟩ <;> rw [ho] at ha <;> simp [arity] at ha <;> exact hk (List.eq_nil_of_length_eq_zero (by omega))
theorem lv_mem {e x:Expr} (h:x∈e.lv):x.kids=[]:=by
 induction e using Expr.ind with
 | _ e ih =>
  rw [Expr.lv_eq] at h
  split at h
  ·rename_i hk; rw [List.mem_singleton.1 h]; exact hk
  ·obtain ⟨k,hk,hx⟩:=List.mem_flatMap.1 h
   exact ih k hk hx
theorem lv_kid {e k:Expr} (hk:k∈e.kids) {x:Expr} (hx:x∈k.lv):x∈e.lv:=by
 rw [Expr.lv_eq,if_neg (by intro h; rw [h] at hk; simp at hk)]
 exact List.mem_flatMap.2 ⟨k,hk,hx⟩
theorem lv_self {e:Expr} (hk:e.kids=[]):e∈e.lv:=by rw [Expr.lv_eq,if_pos hk]; simp
theorem lv_deep {x:Expr} : ∀ {d:Nat} {e:Expr},e.deep d=true->x∈e.lv->nodeOk x=true:=by
 intro d
 induction d with
 | zero=>intro e h; simp [Expr.deep] at h
 | succ d ih =>
  intro e h hx
  rw [Expr.lv_eq] at hx
  split at hx
  ·rw [List.mem_singleton.1 hx]; exact deep_node h
  ·obtain ⟨k,hk,hx⟩:=List.mem_flatMap.1 hx
   exact ih (deep_kid h hk) hx
theorem lv_allE {f:Expr->Bool} {x:Expr} : ∀ {e:Expr},e.allE f=true->x∈e.lv->f x=true:=by
 intro e
 induction e using Expr.ind with
 | _ e ih =>
  intro h hx
  rw [Expr.lv_eq] at hx
  split at hx
  ·rw [List.mem_singleton.1 hx]; exact Expr.allE_self h
  ·obtain ⟨k,hk,hx⟩:=List.mem_flatMap.1 hx
   exact ih k hk (Expr.allE_kid h hk) hx
end Rg
end
section
namespace Rg
open Go
structure KindFacts (p:Prog) (t:Int) (s:Step):Prop where
 r : ∀ c∈readsM s,sees p t c=true
 w : ∀ c∈writesM s,sees p t c=true
 k1:s.kind=1->(∀ c∈readsM s,ofThread p t c=true) /\ ∀ c∈writesM s,ofThread p t c=true
 k2:s.kind=2->(∃ n∈readsM s,ofThread p (-1) n=true /\ ∀ c∈readsM s,ofThread p (-1) c=true->ofThread p t c=false->c=n)/\(∀ c∈writesM s,ofThread p t c=true)/\writesM s≠[]
 k3:s.kind=3->(∀ c∈readsM s,ofThread p t c=true) /\ ∃ n∈writesM s,ofThread p (-1) n=true/\cellIs p n Cell.ghost=false /\ ∀ c∈writesM s,cellIs p c Cell.ghost=false->c=n
 k5:4<s.kind->readsM s=[]/\writesM s=[]
end Rg
end
section
set_option maxRecDepth 100000
namespace Rg
open Go
end Rg
end
section
set_option maxRecDepth 100000
namespace Rg
open Go
theorem thr_tree (p:Prog) (l:List Thread) {h:Nat->Option O} {k n:Nat} {rows:List (List V)} (hk:h k=some (.rows 7 rows false)) (hr:rows=(l.map Thread.enc).map (fun x=>x.map V.t)) (hn:n=l.length) :
 toT1 h (.agg [.t (.sl (p.cells.map Cell.enc)), .t (.sl (p.modules.map Contract.enc)), .t (.sl (p.locks.map Lock.enc)), .ms k 0 n])=some (.agg [.t (.sl (({ p with threads:=l }).cells.map (Cell.enc))), .t (.sl (({ p with threads:=l }).modules.map (Contract.enc))), .t (.sl (({ p with threads:=l }).locks.map (Lock.enc))), .t (.sl (({ p with threads:=l }).threads.map (Thread.enc)))]):=by
 subst hr hn
 have e:toT h 1000 (.ms k 0 l.length)=some (.sl (l.map Thread.enc)):=by
  refine toT_ms (r:=(l.map Thread.enc).map (fun x=>x.map V.t)) hk (by unfold rd; rw [if_pos (by simp),List.drop_zero,List.take_of_length_le (by simp)]) ?_
  refine rows_toT h 999 (l.map Thread.enc) ?_
  intro e he t ht
  obtain ⟨x,_,rfl⟩:=List.mem_map.1 he
  simp only [Thread.enc,List.mem_cons,List.not_mem_nil,or_false] at ht
  rcases ht with rfl | rfl | rfl | rfl | rfl | rfl | rfl <;> rfl
 simp [toT1,e,toT_t,T.norm]
end Rg
end
