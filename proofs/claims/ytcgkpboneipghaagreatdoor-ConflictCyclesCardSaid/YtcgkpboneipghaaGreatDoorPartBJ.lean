/- Part of the proof of the laws of the package relyguardlaw30: an abstract machine for the program's functions, what they compute, and that the machine is the program's. No condition. (H47c) -/
import Derived.Test.YtcgkpboneipghaaGreatDoorPartBI
import Derived.Test.YtcgkpboneipghaaGreatDoorPartBF
set_option linter.unusedSimpArgs false
set_option linter.unusedVariables false
section
namespace Rg
open Go
theorem step_get {p:Prog} {a:Acc} (ha:a∈accsM p) : ∃ x s,p.threads[a.th]? = some x/\x.steps[a.st]? = some s/\p.stepAt a.th a.st=s/\a∈accsS p a.th a.st s:=by
 obtain ⟨x,s,h1,h2,h3⟩:=mem_accs.1 ha
 exact ⟨x,s,h1,h2,stepAt_of h1 h2,h3⟩
set_option maxHeartbeats 1000000
theorem before_den (p:Prog) (hp:p.ok) (a b:Acc) (ha:a∈accsM p) (hb:b∈accsM p) (h:BefOk p a b) :
 Den Γ G 305 [(.agg [.t (.sl ((p).cells.map (Cell.enc))), .t (.sl ((p).modules.map (Contract.enc))), .t (.sl ((p).locks.map (Lock.enc))), .t (.sl ((p).threads.map (Thread.enc)))]), .agg [vi a.th,vi a.st,vi a.ce,vb a.wr], .agg [vi b.th,vi b.st,vi b.ce,vb b.wr]]=some (vb true):=by
 obtain ⟨⟨l1,l2,l3,l4⟩,l5⟩:=limits_iff.1 (ok_iff.1 hp).lim
 obtain ⟨x,s,hx,hs,es,_⟩:=step_get ha
 obtain ⟨y,r,hy,hr,er,_⟩:=step_get hb
 obtain ⟨hne,hB⟩:=h
 rw [es,er] at hB
 have hne2:((a.th:Int)=(b.th:Int))=False:=eq_false (by omega)
 (refine den_ofY Γ305 rfl ?_; dsimp only [f305])
 simp -dsimp -implicitDefEqProofs only [go_sem,seval,hx,hs,hy,hr,hne2]
 clear l5
 repeat' (refine csplit (fun h => ?_) (fun h => ?_) <;> (try rw [h]) <;> (try simp only [bools] at h) <;> (try simp -dsimp -implicitDefEqProofs only [go_sem,seval,hne2]))
 all_goals
  rcases hB with ⟨q1,q2 | ⟨q2,q3⟩⟩ | ⟨q1,q2⟩ | ⟨q1,q2,q3⟩
 all_goals first | omega | (rcases q3 with q3 | q3 <;> simp_all)
theorem real_den (p:Prog) (hp:p.ok) (hset : ∀ x∈p.threads, ∀ s∈x.steps,s.set.length<2^20) (a:Acc) (ha:a∈accsM p) :
 Den Γ G 303 [(.agg [.t (.sl ((p).cells.map (Cell.enc))), .t (.sl ((p).modules.map (Contract.enc))), .t (.sl ((p).locks.map (Lock.enc))), .t (.sl ((p).threads.map (Thread.enc)))]), .agg [vi a.th,vi a.st,vi a.ce,vb a.wr]]=some (vb true):=by
 obtain ⟨⟨l1,l2,l3,l4⟩,l5⟩:=limits_iff.1 (ok_iff.1 hp).lim
 obtain ⟨x,s,hx,hs,es,hm⟩:=step_get ha
 have hst:=acc_step hp ha
 rw [es] at hst
 have hxl:=(List.getElem?_eq_some_iff.1 hx).1
 have hsl:=(List.getElem?_eq_some_iff.1 hs).1
 have hsl2:=hset x (List.mem_of_getElem? hx) s (List.mem_of_getElem? hs)
 have hsx:=(l5 x (List.mem_of_getElem? hx)).2.1
 have t1:((a.th:Int)<0)=False:=eq_false (by omega)
 have t2:((p.threads.length:Int)<=(a.th:Int))=False:=eq_false (by omega)
 have t3:((a.st:Int)<0)=False:=eq_false (by omega)
 have t4:((x.steps.length:Int)<=(a.st:Int))=False:=eq_false (by omega)
 have t5:((a.ce:Int)<0)=False:=eq_false (by omega)
 have t2' : ((a.th:Int)>=(p.threads.length:Int))=False:=eq_false (by omega)
 have t4' : ((a.st:Int)>=(x.steps.length:Int))=False:=eq_false (by omega)
 (refine den_ofY Γ303 rfl ?_; dsimp only [f303])
 rcases hst with ⟨hc,hk6,hk7⟩ | ⟨hk,hw,h0,h1,hce⟩
 ·have t6:((p.cells.length:Int)<=(a.ce:Int))=False:=eq_false (by omega)
  have t6' : ((a.ce:Int)>=(p.cells.length:Int))=False:=eq_false (by omega)
  obtain ⟨_,_,hm⟩:=mem_accsS.1 hm
  rcases hm with ⟨hm,_⟩ | ⟨_,c,hcm,hcc,hcr⟩
  ·exact absurd hm (by omega)
  obtain ⟨c0,y,hy,hyt⟩:=ofThread_iff.1 (mem_ofM.1 hcm)
  rw [<- hcc] at hy
  have hcz:c=(a.ce:Int):=by omega
  subst hcz
  simp -dsimp -implicitDefEqProofs only [go_sem,seval,hx,hs,t1,t2,t3,t4,t5,t2',t4',t6,t6',hy,hyt]
  have hrd:=reads_den s (by omega)
  have hwd:=writes_den s (by omega)
  cases hwr:a.wr
  ·rw [hwr] at hcr
   simp only [Bool.false_eq_true,if_false] at hcr
   have hL:(readsM s).length<2^30:=by have h1:=sortedM_len (readsL s s.set.length); have h2:=readsL_len s s.set.length; simp only [readsL,List.take_length] at h1 h2; unfold readsM; omega
   simp -dsimp -implicitDefEqProofs only [go_sem,seval,hrd,hwd]
   generalize readsM s=L at hcr hL
   refine loopY 648957879154339189228718497202320 L.length (fun i f=>(f 7).v=vi i /\ ∀ j,j<i->L[j]? ≠ some (a.ce:Int)) rfl rfl ⟨by simp -dsimp -implicitDefEqProofs only [go_sem,seval],fun j hj=>by omega⟩ ?_
   rintro i f u kk bb hi ⟨h7,hno⟩
   have hwi:=wrapS i (by omega)
   simp -dsimp -implicitDefEqProofs only [go_sem,seval,h7]
   refine csplit (fun h => ?_) (fun h => ?_) <;> (try rw [h]) <;> (try simp only [bools] at h) <;> (try simp -dsimp -implicitDefEqProofs only [go_sem,seval,h7])
   ·obtain ⟨z,hz,_⟩:=get_of ‹i<L.length›
    simp -dsimp -implicitDefEqProofs only [go_sem,seval,h7,hz]
    refine csplit (fun h => ?_) (fun h => ?_) <;> (try rw [h]) <;> (try simp only [bools] at h) <;> (try simp -dsimp -implicitDefEqProofs only [go_sem,seval,h7,hz])
    exact ⟨by omega,by simp -dsimp -implicitDefEqProofs only [go_sem,seval,hwi],fun j hj=>by
     rcases Nat.lt_or_ge j i with h1 | h1
     ·exact hno j h1
     ·have:j=i:=by omega
      subst this
      rw [hz]
      intro he
      cases he
      exact absurd rfl ‹_›⟩
   ·obtain ⟨j,hj,he⟩:=List.mem_iff_getElem.1 hcr
    exact absurd (by rw [List.getElem?_eq_getElem hj,he]) (hno j (by omega))
  ·rw [hwr] at hcr
   simp only [if_true] at hcr
   have hL:(writesM s).length<2^30:=by have:=sortedM_len (s.set.map Assign.cell); simp at this; unfold writesM; omega
   simp -dsimp -implicitDefEqProofs only [go_sem,seval,hrd,hwd]
   generalize writesM s=L at hcr hL
   refine loopY 648957879154339189228718497202320 L.length (fun i f=>(f 7).v=vi i /\ ∀ j,j<i->L[j]? ≠ some (a.ce:Int)) rfl rfl ⟨by simp -dsimp -implicitDefEqProofs only [go_sem,seval],fun j hj=>by omega⟩ ?_
   rintro i f u kk bb hi ⟨h7,hno⟩
   have hwi:=wrapS i (by omega)
   simp -dsimp -implicitDefEqProofs only [go_sem,seval,h7]
   refine csplit (fun h => ?_) (fun h => ?_) <;> (try rw [h]) <;> (try simp only [bools] at h) <;> (try simp -dsimp -implicitDefEqProofs only [go_sem,seval,h7])
   ·obtain ⟨z,hz,_⟩:=get_of ‹i<L.length›
    simp -dsimp -implicitDefEqProofs only [go_sem,seval,h7,hz]
    refine csplit (fun h => ?_) (fun h => ?_) <;> (try rw [h]) <;> (try simp only [bools] at h) <;> (try simp -dsimp -implicitDefEqProofs only [go_sem,seval,h7,hz])
    exact ⟨by omega,by simp -dsimp -implicitDefEqProofs only [go_sem,seval,hwi],fun j hj=>by
     rcases Nat.lt_or_ge j i with h1 | h1
     ·exact hno j h1
     ·have:j=i:=by omega
      subst this
      rw [hz]
      intro he
      cases he
      exact absurd rfl ‹_›⟩
   ·obtain ⟨j,hj,he⟩:=List.mem_iff_getElem.1 hcr
    exact absurd (by rw [List.getElem?_eq_getElem hj,he]) (hno j (by omega))
 ·have t6:((p.cells.length:Int)<=(a.ce:Int))=True:=eq_true (by omega)
  have t6' : ((a.ce:Int)>=(p.cells.length:Int))=True:=eq_true (by omega)
  have hadd:IntKind.i64.wrap ((p.cells.length:Int)+s.target)=(a.ce:Int):=by rw [wrap64 (by omega)]; omega
  rcases hk with hk | hk
  ·simp -dsimp -implicitDefEqProofs only [go_sem,seval,hx,hs,t1,t2,t3,t4,t5,t2',t4',t6,t6',hadd,hw,hk]
  ·simp -dsimp -implicitDefEqProofs only [go_sem,seval,hx,hs,t1,t2,t3,t4,t5,t2',t4',t6,t6',hadd,hw,hk]
theorem path_fst {l:List Step} {i j:Nat} (h:Path l i j) : ∃ x,l[i]? = some x:=by
 induction h with
 | one hx hy h=>exact ⟨_,hx⟩
 | snoc _ _ _ _ ih=>exact ih
def Closed (l:List Step) (to:Nat) (S:List Int) (n:Nat):Prop := ∀ m v,m<n->S[m]? = some v -> ∀ k s,l[k]? = some s->s.fr=v->k≠to/\s.to∈S
theorem closed_no {l:List Step} {i to:Nat} {S:List Int} {x:Step} (hx:l[i]? = some x) (hm:x.to∈S) (hc:Closed l to S S.length) (h:Path l i to):False:=by
 have key : ∀ j,Path l i j -> ∀ y,l[j]? = some y->j≠to/\y.to∈S:=by
  intro j hp
  induction hp with
  | one hx' hy' h =>
    intro y hy
    rw [hx] at hx'; cases hx'
    rw [hy] at hy'; cases hy'
    obtain ⟨m,hm1,hm2⟩:=List.mem_iff_getElem.1 hm
    exact hc m x.to hm1 (by rw [List.getElem?_eq_getElem hm1,hm2]) _ _ hy h.symm
  | snoc hp' hx' hy' h ih =>
    intro y hy
    rw [hy] at hy'; cases hy'
    obtain ⟨m,hm1,hm2⟩:=List.mem_iff_getElem.1 (ih _ hx').2
    exact hc m _ hm1 (by rw [List.getElem?_eq_getElem hm1,hm2]) _ _ hy h.symm
 have : ∃ y,l[to]? = some y:=by
  cases h with
  | one _ hy _=>exact ⟨_,hy⟩
  | snoc _ _ hy _=>exact ⟨_,hy⟩
 obtain ⟨y,hy⟩:=this
 exact (key to h y hy).1 rfl
theorem nodup_len : ∀ {S L:List Int},S.Nodup->(∀ v∈S,v∈L)->S.length<=L.length
 | [],_,_,_=>by simp
 | v::S,L,hn,h=>by
   have hv:=List.nodup_cons.1 hn
   have h1:=nodup_len (S:=S) (L:=L.erase v) hv.2 (fun w hw=>(List.mem_erase_of_ne (by rintro rfl; exact hv.1 hw)).2 (h w (by simp [hw])))
   have hm:=h v (by simp)
   rw [List.length_erase_of_mem hm] at h1
   have:=List.length_pos_of_mem hm
   simp only [List.length_cons]; omega
theorem nodup_le {l:List Step} {S:List Int} (hn:S.Nodup) (h : ∀ v∈S, ∃ s∈l,s.to=v):S.length<=l.length:=by
 have:=nodup_len (L:=l.map Step.to) hn fun v hv=>by
  obtain ⟨s,h1,h2⟩:=h v hv
  exact List.mem_map.2 ⟨s,h1,h2⟩
 simpa using this
theorem follows_den (x:Thread) (hl:x.steps.length<=64) (i j:Nat) (hP:Path x.steps i j):Den Γ G 304 [(.agg [.t (.str (x).name), .t (ti (x).points), .t (.sl ((x).asserts.map Expr.enc)), .t (ints (x).modules), .t (.sl ((x).steps.map Step.enc)), .t (.sl ((x).loops.map Loop.enc)), .t (tb (x).asleep)]),vi i,vi j]=some (vb true):=by
 obtain ⟨s0,hs0⟩:=path_fst hP
 (refine den_ofY Γ304 rfl ?_; dsimp only [f304])
 simp -dsimp -implicitDefEqProofs only [go_sem,seval,hs0]
 refine loopYH 75557863725914322898880 x.steps.length (fun n f h z=>(f 8).v=vi n /\ ∃ k S,(f 7).v = .ms k 0 S.length/\k<z/\h k=some (.rows 1 (rowsI S) false)/\S.Nodup/\n<=S.length/\(∀ v∈S, ∃ s∈x.steps,s.to=v)/\s0.to∈S/\Closed x.steps j S n) rfl
  ⟨by simp -dsimp -implicitDefEqProofs only [go_sem,seval],8,[s0.to],by simp -dsimp -implicitDefEqProofs only [go_sem,seval],by simp -dsimp -implicitDefEqProofs only [go_sem,seval],by simp -dsimp -implicitDefEqProofs only [go_sem,seval]; rfl,by simp,by simp,fun v hv=>⟨s0,List.mem_of_getElem? hs0,(List.mem_singleton.1 hv).symm⟩,by simp,fun m v hm=>by omega⟩ ?_
 rintro n f u H q bq hn ⟨h8,ko,S,h7,hkq,hko,hnd,hnS,hin,h0,hcl⟩
 have hSl:S.length<=x.steps.length:=nodup_le hnd hin
 have hw:=wrapS n (by omega)
 simp -dsimp -implicitDefEqProofs only [go_sem,seval,h8,h7,hko]
 refine csplit (fun h => ?_) (fun h => ?_) <;> (try rw [h]) <;> (try simp only [bools] at h) <;> (try simp -dsimp -implicitDefEqProofs only [go_sem,seval,h8,h7,hko])
 ·obtain ⟨v,hv,hvm⟩:=get_of ‹n<S.length›
  refine loopYH 75557863725914289868480 x.steps.length (fun k f h z=>(f 9).v=vi k /\ ∃ ko S2,(f 7).v = .ms ko 0 S2.length/\ko<z/\h ko=some (.rows 1 (rowsI S2) false)/\S2.Nodup/\(∃ R,S2=S++R)/\(∀ v∈S2, ∃ s∈x.steps,s.to=v) /\
   (∀ k' s,k' < k->x.steps[k']? = some s->s.fr=v->k' ≠ j/\s.to∈S2)) rfl
   ⟨by simp -dsimp -implicitDefEqProofs only [go_sem,seval],ko,S,by simp -dsimp -implicitDefEqProofs only [go_sem,seval,h7],by simp -dsimp -implicitDefEqProofs only [go_sem,seval]; omega,by simp -dsimp -implicitDefEqProofs only [go_sem,seval,hko],hnd,⟨[],by simp⟩,hin,fun k' s hk' => by omega⟩ ?_
  rintro k f2 u2 H2 q2 bq2 hk ⟨h9,k2,S2,h72,hk2q,hk2,hnd2,⟨R,hR⟩,hin2,hcl2⟩
  have hSl2:S2.length<=x.steps.length:=nodup_le hnd2 hin2
  have hwk:=wrapS k (by omega)
  have hv2:S2[n]? = some v:=by rw [hR,List.getElem?_append_left (by omega)]; exact hv
  have hv3:=rowsI_at' hv2
  have hn2:(n<S2.length)=True:=eq_true (List.getElem?_eq_some_iff.1 hv2).1
  simp -dsimp -implicitDefEqProofs only [go_sem,seval,h9]
  refine csplit (fun h => ?_) (fun h => ?_) <;> (try rw [h]) <;> (try simp only [bools] at h) <;> (try simp -dsimp -implicitDefEqProofs only [go_sem,seval,h9])
  ·obtain ⟨s,hs,hsm⟩:=get_of ‹k<x.steps.length›
   simp -dsimp -implicitDefEqProofs only [go_sem,seval,h9,h8,hs,h72,hk2,hv3,hn2]
   by_cases hfv:s.fr=v
   ·have hkj0:((k:Int)=(j:Int))=(k=j):=propext ⟨fun h=>by omega,fun h=>by rw [h]⟩
    by_cases hkj:k=j
    ·simp -dsimp -implicitDefEqProofs only [go_sem,seval,hfv,h9,hkj0,hkj]
    ·have hkj1:(k=j)=False:=eq_false hkj
     simp -dsimp -implicitDefEqProofs only [go_sem,seval,hfv,h9,hkj0,hkj1]
     refine loopYH 73786905926094031872 S2.length (fun i f h z=>(f 11).v=vi i/\(f 10).v=vb ((S2.take i).all fun w=>decide (¬ w=s.to))/\h k2=some (.rows 1 (rowsI S2) false)/\k2<z) rfl ⟨by simp -dsimp -implicitDefEqProofs only [go_sem,seval],by simp -dsimp -implicitDefEqProofs only [go_sem,seval],by simp -dsimp -implicitDefEqProofs only [go_sem,seval,hk2],by simp -dsimp -implicitDefEqProofs only [go_sem,seval]; omega⟩ ?_
     rintro i3 f3 u3 H3 q3 b3 hi3 ⟨h11,h10,hk3,hkq3⟩
     have hwi:=wrapS i3 (by omega)
     simp -dsimp -implicitDefEqProofs only [go_sem,seval,h11,h72,hk3]
     refine csplit (fun h => ?_) (fun h => ?_) <;> (try rw [h]) <;> (try simp only [bools] at h) <;> (try simp -dsimp -implicitDefEqProofs only [go_sem,seval,h11,h72,hk3])
     ·obtain ⟨w,hww,hwm⟩:=get_of ‹i3<S2.length›
      have hw3:=rowsI_at' hww
      have hal:(S2.take (i3+1)).all (fun w=>decide (¬ w=s.to))=((S2.take i3).all (fun w=>decide (¬ w=s.to))&&decide (¬ w=s.to)):=by rw [take_succ_of hww,List.all_append]; simp
      have hi3' : (i3<S2.length)=True:=eq_true ‹_›
      cases hc:(S2.take i3).all fun w=>decide (¬ w=s.to)
      ·simp -dsimp -implicitDefEqProofs only [go_sem,seval,h10,hc,h11]
       exact ⟨by omega,by simp -dsimp -implicitDefEqProofs only [go_sem,seval,hwi],by rw [hal,hc]; simp -dsimp -implicitDefEqProofs only [go_sem,seval]; rfl,by simp -dsimp -implicitDefEqProofs only [go_sem,seval,hk3],by simp -dsimp -implicitDefEqProofs only [go_sem,seval]; omega⟩
      ·simp -dsimp -implicitDefEqProofs only [go_sem,seval,h10,hc,h11,h72,hk3,hw3,hi3',hs,h9]
       exact ⟨by omega,by simp -dsimp -implicitDefEqProofs only [go_sem,seval,hwi],by rw [hal,hc]; simp -dsimp -implicitDefEqProofs only [go_sem,seval],by simp -dsimp -implicitDefEqProofs only [go_sem,seval,hk3],by simp -dsimp -implicitDefEqProofs only [go_sem,seval]; omega⟩
     ·have hie:i3=S2.length:=by omega
      rw [hie,List.take_length] at h10
      simp -dsimp -implicitDefEqProofs only [go_sem,seval,h10]
      cases hfr:S2.all fun w=>decide (¬ w=s.to)
      ·simp -dsimp -implicitDefEqProofs only [go_sem,seval,h9]
       have hmem:s.to∈S2:=by
        rw [List.all_eq_false] at hfr
        obtain ⟨w,hw1,hw2⟩:=hfr
        have:w=s.to:=by simpa using hw2
        rw [<- this]; exact hw1
       refine ⟨by omega,by simp -dsimp -implicitDefEqProofs only [go_sem,seval,hwk],k2,S2,by simp -dsimp -implicitDefEqProofs only [go_sem,seval,h72],by simp -dsimp -implicitDefEqProofs only [go_sem,seval]; omega,by simp -dsimp -implicitDefEqProofs only [go_sem,seval,hk3],hnd2,⟨R,hR⟩,hin2,fun k' s' hk' hs' hv' => ?_⟩
       rcases Nat.lt_or_ge k' k with h1 | h1
       ·exact hcl2 k' s' h1 hs' hv'
       ·have:k' = k:=by omega
        subst this
        rw [hs] at hs'; cases hs'
        exact ⟨hkj,hmem⟩
      ·have hkz:(k2=q3+4+1+7)=False:=eq_false (by omega)
       have hrl:(rowsI S2).length=S2.length:=by simp [rowsI]
       have htk:(rowsI S2).take S2.length=rowsI S2:=List.take_of_length_le (by omega)
       have hnew:s.to ∉ S2:=by
        intro hm
        rw [List.all_eq_true] at hfr
        have:=hfr s.to hm
        simp at this
       simp -dsimp -implicitDefEqProofs only [go_sem,seval,h72,hs,h9,hk3,hkz,hrl,htk,Nat.le_refl]
       refine putA_appM (x:=q3) (by simp -dsimp -implicitDefEqProofs only [go_sem,seval,hkz,hk3]) hrl.symm hkq3 (by omega) (by rw [hrl]; simp; omega) (by decide) (by simp) (by simp [rowsI]) ?_
       intro k4 hp hk4 hH _ _
       have e1:rowsI S2++[[V.t (ti s.to)]]=rowsI (S2++[s.to]):=by simp [rowsI]
       rw [e1] at hH ⊢
       have hrl2:(rowsI (S2++[s.to])).length=(S2++[s.to]).length:=by simp [rowsI]
       rw [hrl2]
       simp -dsimp -implicitDefEqProofs only [go_sem,seval,h9]
       refine ⟨by omega,by simp -dsimp -implicitDefEqProofs only [go_sem,seval,hwk],k4,S2++[s.to],by simp -dsimp -implicitDefEqProofs only [go_sem,seval],by simp -dsimp -implicitDefEqProofs only [go_sem,seval]; omega,by simp -dsimp -implicitDefEqProofs only [go_sem,seval,hH], ?_,⟨R++[s.to],by rw [hR,List.append_assoc]⟩,fun w hw' => ?_,fun k' s' hk' hs' hv' => ?_⟩
       ·rw [List.nodup_append]
        refine ⟨hnd2,by simp,fun a ha b hb e => ?_⟩
        rw [List.mem_singleton] at hb
        subst hb; subst e
        exact hnew ha
       ·rcases List.mem_append.1 hw' with h1 | h1
        ·exact hin2 w h1
        ·exact ⟨s,hsm,(List.mem_singleton.1 h1).symm⟩
       ·rcases Nat.lt_or_ge k' k with h1 | h1
        ·have:=hcl2 k' s' h1 hs' hv'
         exact ⟨this.1,List.mem_append_left _ this.2⟩
        ·have:k' = k:=by omega
         subst this
         rw [hs] at hs'; cases hs'
         exact ⟨hkj,by simp⟩
   ·simp -dsimp -implicitDefEqProofs only [go_sem,seval,hfv,h9]
    refine ⟨by omega,by simp -dsimp -implicitDefEqProofs only [go_sem,seval,hwk],k2,S2,by simp -dsimp -implicitDefEqProofs only [go_sem,seval,h72],by simp -dsimp -implicitDefEqProofs only [go_sem,seval]; omega,by simp -dsimp -implicitDefEqProofs only [go_sem,seval,hk2],hnd2,⟨R,hR⟩,hin2,fun k' s' hk' hs' hv' => ?_⟩
    rcases Nat.lt_or_ge k' k with h1 | h1
    ·exact hcl2 k' s' h1 hs' hv'
    ·have:k' = k:=by omega
     subst this
     rw [hs] at hs'; cases hs'
     exact absurd hv' hfv
  ·simp -dsimp -implicitDefEqProofs only [go_sem,seval,h8]
   refine ⟨by omega,by simp -dsimp -implicitDefEqProofs only [go_sem,seval,hw],k2,S2,by simp -dsimp -implicitDefEqProofs only [go_sem,seval,h72],by simp -dsimp -implicitDefEqProofs only [go_sem,seval]; omega,by simp -dsimp -implicitDefEqProofs only [go_sem,seval,hk2],hnd2,by have:=(List.getElem?_eq_some_iff.1 hv2).1; omega,hin2,by rw [hR]; exact List.mem_append_left _ h0,fun m w hm hmw => ?_⟩
   rcases Nat.lt_or_ge m n with h1 | h1
   ·intro k' s' hk' hs'
    have hSm:S[m]? = some w:=by rw [hR,List.getElem?_append_left (by omega)] at hmw; exact hmw
    have:=hcl m w h1 hSm k' s' hk' hs'
    exact ⟨this.1,by rw [hR]; exact List.mem_append_left _ this.2⟩
   ·have:m=n:=by omega
    subst this
    rw [hv2] at hmw; cases hmw
    exact fun k' s' hk' hs' => hcl2 k' s' (by have:=(List.getElem?_eq_some_iff.1 hk').1; omega) hk' hs'
 ·exact closed_no hs0 h0 (by rw [show S.length=n by omega]; exact hcl) hP
end Rg
end
