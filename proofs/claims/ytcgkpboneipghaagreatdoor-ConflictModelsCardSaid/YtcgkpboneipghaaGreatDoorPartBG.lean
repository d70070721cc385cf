/- Part of the proof of the laws of the package relyguardlaw30: an abstract machine for the program's functions, what they compute, and that the machine is the program's. No condition. (H45b H32c H32i) -/
import Derived.Test.YtcgkpboneipghaaGreatDoorPartBF
import Derived.Test.YtcgkpboneipghaaGreatDoorPartAZ
import Derived.Test.YtcgkpboneipghaaGreatDoorPartAX
set_option linter.unusedSimpArgs false
set_option linter.unusedVariables false
section
namespace Rg
open Go
def sumS (l:List Thread):Nat:=(l.map fun x=>x.steps.length).sum
def fits30 (p:Prog):Bool:=progSmall 40 p&&decide (sumS p.threads<=36)
theorem sumS_succ {l:List Thread} {i:Nat} {x:Thread} (h:l[i]? = some x):sumS (l.take (i+1))=sumS (l.take i)+x.steps.length:=by
 rw [take_succ_of h]; simp [sumS]
theorem sumS_le (l:List Thread) (h : ∀ x∈l,x.steps.length<=80) : ∀ i,i<=l.length->sumS (l.take i)<=80*i
 | 0,_=>by simp [sumS]
 | i+1,hi=>by
   obtain ⟨x,hx,hxm⟩:=get_of (show i<l.length by omega)
   rw [sumS_succ hx]
   have:=sumS_le l h i (by omega)
   have:=h x hxm
   omega
theorem fits_den (p:Prog):Den Γ G 287 [(.agg [.t (.sl ((p).cells.map (Cell.enc))), .t (.sl ((p).modules.map (Contract.enc))), .t (.sl ((p).locks.map (Lock.enc))), .t (.sl ((p).threads.map (Thread.enc)))])]=some (vb (fits30 p)):=by
 have h1:=small7_den p 40 (by decide)
 (refine den_ofY Γ287 rfl ?_; dsimp only [f287])
 simp -dsimp -implicitDefEqProofs only [go_sem,seval,h1]
 unfold fits30
 cases hs:progSmall 40 p
 ·simp -dsimp -implicitDefEqProofs only [go_sem,seval]
  rfl
 ·have hS:=progSmall_of hs
  have hT:=hS.threads
  have hst : ∀ x∈p.threads,x.steps.length<=80:=fun x hx=>(hS.thr x hx).2.2.1
  simp -dsimp -implicitDefEqProofs only [go_sem,seval]
  refine loopY 16776984 p.threads.length (fun i f=>(f 4).v=vi i/\(f 3).v=vi (sumS (p.threads.take i))) rfl rfl ⟨by simp -dsimp -implicitDefEqProofs only [go_sem,seval],by simp -dsimp -implicitDefEqProofs only [go_sem,seval]; rfl⟩ ?_
  rintro i f u kk bb hi ⟨h4,h3⟩
  have hw:=wrapS i (by omega)
  have hle:=sumS_le p.threads hst i hi
  simp -dsimp -implicitDefEqProofs only [go_sem,seval,h4]
  refine csplit (fun h => ?_) (fun h => ?_) <;> (try rw [h]) <;> (try simp only [bools] at h) <;> (try simp -dsimp -implicitDefEqProofs only [go_sem,seval,h4])
  ·obtain ⟨x,hx,hxm⟩:=get_of ‹i<p.threads.length›
   have hsx:=hst x hxm
   have hadd:IntKind.i64.wrap ((sumS (p.threads.take i):Int)+x.steps.length)=((sumS (p.threads.take (i+1)):Nat):Int):=by
    rw [sumS_succ hx,wrap64 (by omega)]; push_cast; rfl
   simp -dsimp -implicitDefEqProofs only [go_sem,seval,h4,h3,hx,hadd]
   exact ⟨by omega,by simp -dsimp -implicitDefEqProofs only [go_sem,seval,h4,hw],by simp -dsimp -implicitDefEqProofs only [go_sem,seval]⟩
  ·have:i=p.threads.length:=by omega
   subst this
   rw [List.take_length] at h3
   have hd:decide ((sumS p.threads:Int)<=36)=decide (sumS p.threads<=36):=by simp; omega
   simp -dsimp -implicitDefEqProofs only [go_sem,seval,h3,hd]
theorem fits_small {p:Prog} (h:fits30 p=true):p.SmallP 40:=by
 unfold fits30 at h
 rw [Bool.and_eq_true] at h
 exact progSmall_of h.1
theorem small_set {p:Prog} {L:Int} (h:p.SmallP L) : ∀ x∈p.threads, ∀ s∈x.steps,s.set.length<2^20:=fun x hx s hs=>by
 have:=(h.steps x hx s hs).1; omega
theorem delaysM_models (p:Prog) {x:Acc×Acc} (h:x∈delaysM p 1):x∈delaysM p 2:=by
 unfold delaysM at h ⊢
 split at h
 ·rename_i hv; rw [if_pos hv]; exact delays_models p h
 ·cases h
theorem delaysM_sc (p:Prog):delaysM p 0=[]:=by
 unfold delaysM
 split
 ·exact delays_sc p
 ·rfl
theorem robM_sc (p:Prog):robM p 0=validB p:=by
 unfold robM
 rw [robust_sc]; simp
theorem robM_models (p:Prog) (h:robM p 2=true):robM p 1=true:=by
 unfold robM at h ⊢
 rw [Bool.and_eq_true,Option.isNone_iff_eq_none] at h
 rw [h.1,robust_models p h.2]; rfl
theorem dl_len (p:Prog) (hs:p.sane) (m:Int):(delaysM p m).length<=2^28:=by
 unfold delaysM
 split
 ·rename_i hv
  have hp:p.ok:=by simpa [validB] using hv
  obtain ⟨⟨l1,l2,l3,l4⟩,l5⟩:=limits_iff.1 (ok_iff.1 hp).lim
  have h1:=accsN_len p l1 (fun x hx=>(l5 x hx).2.1) _ (Nat.le_refl _)
  have h2:=Gr.delaysN_len (g:=grM p m) (grM p m).all.length
  have h3:(grM p m).all.length<=16384:=by show (accsM p).length<=_; unfold accsM; omega
  have h4:(grM p m).all.length*(grM p m).all.length<=16384*16384:=Nat.mul_le_mul h3 h3
  have:(grM p m).delays=(grM p m).delaysN (grM p m).all.length:=rfl
  rw [this]; omega
 ·simp
set_option maxHeartbeats 2000000
theorem lawModels30_den (p:Prog) (hl:p.lite7):Den Γ G 282 [(.agg [.t (.sl ((p).cells.map (Cell.enc))), .t (.sl ((p).modules.map (Contract.enc))), .t (.sl ((p).locks.map (Lock.enc))), .t (.sl ((p).threads.map (Thread.enc)))])]=some (vb true):=by
 have h0:=head30_den
 have h1:=fits_den p
 (refine den_ofY Γ282 rfl ?_; dsimp only [f282])
 cases hf:fits30 p
 ·rw [hf] at h1
  simp -dsimp -implicitDefEqProofs only [go_sem,seval,h0,h1]
 ·rw [hf] at h1
  have hS:=fits_small hf
  have hs:=hS.sane hl
  have hset:=small_set hS
  have d1:=delays_den p hs hset 1
  have d2:=delays_den p hs hset 2
  have d0:=delays_den p hs hset 0
  have r0:=robust_den p hs hset 0
  have r1:=robust_den p hs hset 1
  have r2:=robust_den p hs hset 2
  have hv:=validP7_den p hs
  rw [delaysM_sc] at d0
  rw [robM_sc] at r0
  have hl1:=dl_len p hs 1
  have hl2:=dl_len p hs 2
  have hsub : ∀ x∈delaysM p 1,x∈delaysM p 2:=fun x hx=>delaysM_models p hx
  simp -dsimp -implicitDefEqProofs only [go_sem,seval,h0,h1,d1,d2]
  generalize delaysM p 1=D at hl1 hsub
  generalize delaysM p 2=E at hl2 hsub
  refine loopY 140737486258628 D.length (fun i f=>(f 6).v=vi i) rfl rfl (by simp -dsimp -implicitDefEqProofs only [go_sem,seval]) ?_
  rintro i f u kk bb hi h6
  have hw:=wrapS i (by omega)
  simp -dsimp -implicitDefEqProofs only [go_sem,seval,h6]
  refine csplit (fun h => ?_) (fun h => ?_) <;> (try rw [h]) <;> (try simp only [bools] at h) <;> (try simp -dsimp -implicitDefEqProofs only [go_sem,seval,h6])
  ·obtain ⟨x,hx,hxm⟩:=get_of ‹i<D.length›
   refine loopY 35184237871488 E.length (fun j f=>(f 8).v=vi j/\(f 7).v=vb ((E.take j).any fun y=>decide (x=y))) rfl rfl ⟨by simp -dsimp -implicitDefEqProofs only [go_sem,seval],by simp -dsimp -implicitDefEqProofs only [go_sem,seval]; rfl⟩ ?_
   rintro j f2 u2 kk2 bb2 hj ⟨h8,h7⟩
   have hw2:=wrapS j (by omega)
   simp -dsimp -implicitDefEqProofs only [go_sem,seval,h8]
   refine csplit (fun h => ?_) (fun h => ?_) <;> (try rw [h]) <;> (try simp only [bools] at h) <;> (try simp -dsimp -implicitDefEqProofs only [go_sem,seval,h8])
   ·obtain ⟨y,hy,_⟩:=get_of ‹j<E.length›
    have hsu:(E.take (j+1)).any (fun y=>decide (x=y))=((E.take j).any (fun y=>decide (x=y))||decide (x=y)):=by
     rw [take_succ_of hy,List.any_append]; simp
    have heq:(decide (x=y))=(decide (x.1.th=y.1.th)&&(decide (x.1.st=y.1.st)&&(decide (x.1.ce=y.1.ce)&&(decide (x.1.wr=y.1.wr)&&(decide (x.2.th=y.2.th)&&(decide (x.2.st=y.2.st)&&(decide (x.2.ce=y.2.ce)&&decide (x.2.wr=y.2.wr)))))))):=by
     obtain ⟨⟨a1,a2,a3,a4⟩,⟨b1,b2,b3,b4⟩⟩:=x
     obtain ⟨⟨c1,c2,c3,c4⟩,⟨d1,d2,d3,d4⟩⟩:=y
     simp only [Prod.mk.injEq,Acc.mk.injEq,Bool.decide_and,Bool.and_assoc]
    simp -dsimp -implicitDefEqProofs only [go_sem,seval,h8,h7,hx,hy,dlT,h6]
    cases hc:(E.take j).any fun y=>decide (x=y)
    ·simp -dsimp -implicitDefEqProofs only [go_sem,seval,h8,h7,hx,hy,dlT,h6,natE]
     refine ⟨by omega,by simp -dsimp -implicitDefEqProofs only [go_sem,seval,h8,hw2], ?_⟩
     simp -dsimp -implicitDefEqProofs only [go_sem,seval]
     have hwb : ∀ a b:Bool,(a==b)=decide (a=b):=by decide
     rw [Bool.bne_false,hsu,hc,Bool.false_or,heq]
     simp only [hwb]
    ·simp -dsimp -implicitDefEqProofs only [go_sem,seval,h8]
     exact ⟨by omega,by simp -dsimp -implicitDefEqProofs only [go_sem,seval,h8,hw2],by rw [hsu,hc]; simp -dsimp -implicitDefEqProofs only [go_sem,seval]; rfl⟩
   ·have:j=E.length:=by omega
    subst this
    have hany:(E.take E.length).any (fun y=>decide (x=y))=true:=by
     rw [List.take_length,List.any_eq_true]
     exact ⟨x,hsub x hxm,by simp⟩
    rw [hany] at h7
    simp -dsimp -implicitDefEqProofs only [go_sem,seval,h7,h6]
    exact ⟨by omega,by simp -dsimp -implicitDefEqProofs only [go_sem,seval,h6,hw]⟩
  ·have hvb:((validB p)==decide ((validM p).1=0))=true:=by unfold validB; simp
   simp -dsimp -implicitDefEqProofs only [go_sem,seval,hv,r0,r1,r2,d0]
   cases h2:robM p 2
   ·simp -dsimp -implicitDefEqProofs only [go_sem,seval,r0,d0,hvb,Bool.bne_false]
   ·have h3:=robM_models p h2
    simp -dsimp -implicitDefEqProofs only [go_sem,seval,r1,r0,d0,h3,hvb,Bool.bne_false]
end Rg
end
section
set_option maxRecDepth 100000
namespace Rg
open Go
end Rg
end
section
set_option maxRecDepth 100000
namespace Rg
open Go
theorem putA_appU {h:Nat->Option O} {q sz bytes k0 n0:Nat} {a b:List (List V)} {K:V->List (Nat×O)->Prop} {w:WK K}
 (hh:h k0=some (.rows sz a false)) (hn:n0=a.length) (hlen:a.length+b.length<=2^32) (hby:bytes<=2^12) (hb:(b.all fun r=>decide (r.length=sz))=true) (ha:(a.all fun r=>decide (r.length=sz))=true)
 (hK : ∀ k hp,(k=k0\/k=q)->hpC h hp k=some (.rows sz (a++b) false)->(∀ j,j≠k0->j≠q->hpC h hp j=h j)->K (.ms k 0 (a++b).length) hp):putA false (appS h q sz bytes (.ms k0 0 n0) a b) K w:=by
 subst hn
 cases b with
 | nil =>
   unfold appS
   rw [if_pos ⟨⟨hlen,hby⟩,hb,ha⟩]
   simp only [List.isEmpty_nil,if_true,putA_some]
   have:=hK k0 [] (.inl rfl) (by rw [hpC_nil,List.append_nil]; exact hh) (fun j _ _=>by rw [hpC_nil])
   rwa [List.append_nil] at this
 | cons r rs =>
   refine putA_appE hh hlen hby hb ha (by simp) ?_
   rw [<- List.length_append]
   refine hK q _ (.inr rfl) ?_ ?_
   ·simp only [hpC_cons,hpC_nil]; rw [updC_at,if_pos rfl]
   ·intro j h1 h2
    simp only [hpC_cons,hpC_nil]; rw [updC_at,if_neg h2,updC_at,if_neg h1]
theorem thr_treeX (p:Prog) (i:Nat) (x' : Thread) {h:Nat->Option O} {k:Nat} {row:List V} (hk:h k=some (.rows 7 (((p.threads.map Thread.enc).map (fun x=>x.map V.t)).set i row) false)) (hrow:row.mapM (toT h 999)=some x'.enc) :
 toT1 h (.agg [.t (.sl (p.cells.map Cell.enc)), .t (.sl (p.modules.map Contract.enc)), .t (.sl (p.locks.map Lock.enc)), .ms k 0 p.threads.length])=some (.agg [.t (.sl ((setThr p i x').cells.map (Cell.enc))), .t (.sl ((setThr p i x').modules.map (Contract.enc))), .t (.sl ((setThr p i x').locks.map (Lock.enc))), .t (.sl ((setThr p i x').threads.map (Thread.enc)))]):=by
 have e:toT h 1000 (.ms k 0 p.threads.length)=some (.sl ((p.threads.set i x').map Thread.enc)):=by
  refine toT_ms (r:=((p.threads.map Thread.enc).map (fun x=>x.map V.t)).set i row) hk (by unfold rd; rw [if_pos (by simp),List.drop_zero,List.take_of_length_le (by simp)]) ?_
  refine mapM_some_of _ _ _ (fun j r hr => ?_) (by simp)
  rw [List.getElem?_set] at hr
  rw [List.getElem?_map,List.getElem?_set]
  split at hr
  ·rename_i hij
   subst hij
   split at hr
   ·rename_i hlt
    cases hr
    rw [if_pos rfl,if_pos (by simpa using hlt),hrow]; exact ⟨_,rfl,rfl⟩
   ·cases hr
  ·rename_i hij
   rw [if_neg hij]
   rw [List.getElem?_map,List.getElem?_map] at hr
   cases hy:p.threads[j]? with
   | none=>rw [hy] at hr; cases hr
   | some y =>
     rw [hy] at hr
     cases hr
     refine ⟨y.enc,rfl, ?_⟩
     refine mapM_some_of _ _ _ (fun a b hb => ?_) (by simp)
     rw [List.getElem?_map] at hb
     cases ht:y.enc[a]? with
     | none=>rw [ht] at hb; cases hb
     | some t =>
       rw [ht] at hb
       cases hb
       refine ⟨t,rfl, ?_⟩
       rw [toT_t]
       have hm:=List.mem_of_getElem? ht
       simp only [Thread.enc,List.mem_cons,List.not_mem_nil,or_false] at hm
       rcases hm with rfl | rfl | rfl | rfl | rfl | rfl | rfl <;> rfl
 simp [toT1,e,toT_t,T.norm,setThr]
end Rg
end
