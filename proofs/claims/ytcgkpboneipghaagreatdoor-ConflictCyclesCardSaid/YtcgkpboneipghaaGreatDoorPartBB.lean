/- Part of the proof of the laws of the package relyguardlaw30: an abstract machine for the program's functions, what they compute, and that the machine is the program's. No condition. (H42e H43a) -/
import Derived.Test.YtcgkpboneipghaaGreatDoorPartBA
set_option linter.unusedSimpArgs false
set_option linter.unusedVariables false
section
namespace Rg
open Go
def idxC (l:List Int) (v:Int):Int:=match l.findIdx? (fun x=>decide (x=v)) with
 | some i=>i
 | none => -1
theorem idxC_hit {l:List Int} {v:Int} {i:Nat} (h:l[i]? = some v) (hn : ∀ j,j<i->l[j]? ≠ some v):idxC l v=i:=by
 have hi:=(List.getElem?_eq_some_iff.1 h).1
 have:l.findIdx? (fun x=>decide (x=v))=some i:=by
  rw [List.findIdx?_eq_some_iff_getElem]
  refine ⟨hi,by simpa using (List.getElem?_eq_some_iff.1 h).2,fun j hj => ?_⟩
  have:=hn j hj
  rw [List.getElem?_eq_getElem (by omega)] at this
  simpa using this
 rw [idxC,this]
theorem idxC_miss {l:List Int} {v:Int} (hn : ∀ j,j<l.length->l[j]? ≠ some v):idxC l v = -1:=by
 have:l.findIdx? (fun x=>decide (x=v))=none:=by
  rw [List.findIdx?_eq_none_iff]
  intro x hx
  obtain ⟨j,hj⟩:=List.getElem?_of_mem hx
  have:=hn j (List.getElem?_eq_some_iff.1 hj).1
  rw [hj] at this
  simpa using this
 rw [idxC,this]
theorem idxC_has (l:List Int) (v:Int):decide (idxC l v>=0)=l.contains v:=by
 unfold idxC
 cases h:l.findIdx? (fun x=>decide (x=v)) with
 | some i =>
   have hm:v∈l:=by
    rw [List.findIdx?_eq_some_iff_getElem] at h
    obtain ⟨h1,h2,_⟩:=h
    exact (by simpa using h2:l[i]=v) ▸ List.getElem_mem h1
   simp [hm]
 | none =>
   have hm:v ∉ l:=by
    intro hm
    rw [List.findIdx?_eq_none_iff] at h
    have:=h v hm
    simp at this
   simp [hm]
theorem indexC_den (l:List Int) (v:Int) (hl:l.length<2^40):Den Γ G 207 [.t (ints l),vi v]=some (vi (idxC l v)):=by
 (refine den_ofY Γ207 rfl ?_; dsimp only [f207])
 simp -dsimp -implicitDefEqProofs only [go_sem,seval]
 refine loopY 524080 l.length (fun i f=>(f 8).v=vi i /\ ∀ j,j<i->l[j]? ≠ some v) rfl rfl ⟨by simp -dsimp -implicitDefEqProofs only [go_sem,seval],fun j hj=>by omega⟩ ?_
 rintro i f u kk bb hi ⟨h8,hn⟩
 have hw:=wrapS i (by omega)
 simp -dsimp -implicitDefEqProofs only [go_sem,seval,h8]
 refine csplit (fun h => ?_) (fun h => ?_) <;> (try rw [h]) <;> (try simp only [bools] at h) <;> (try simp -dsimp -implicitDefEqProofs only [go_sem,seval,h8])
 ·obtain ⟨y,hy,_⟩:=get_of ‹i<l.length›
  simp -dsimp -implicitDefEqProofs only [go_sem,seval,h8,hy]
  refine csplit (fun h => ?_) (fun h => ?_) <;> (try rw [h]) <;> (try simp only [bools] at h) <;> (try simp -dsimp -implicitDefEqProofs only [go_sem,seval,h8])
  ·rw [idxC_hit (by rw [hy,h]) hn]
  ·refine ⟨by omega,by simp -dsimp -implicitDefEqProofs only [go_sem,seval,hw],fun j hj => ?_⟩
   rcases Nat.lt_or_ge j i with h1 | h1
   ·exact hn j h1
   ·have:j=i:=by omega
    subst this
    rw [hy]
    intro he
    cases he
    exact absurd rfl h
 ·have:i=l.length:=by omega
  subst this
  rw [idxC_miss hn]
theorem containsC_den (l:List Int) (v:Int) (hl:l.length<2^40):Den Γ G 206 [.t (ints l),vi v]=some (vb (l.contains v)):=by
 (refine den_ofY Γ206 rfl ?_; dsimp only [f206])
 have h1:=indexC_den l v hl
 have h2:=idxC_has l v
 simp -dsimp -implicitDefEqProofs only [go_sem,seval,h1,h2]
theorem accsC_len (t i:Nat) (s:Step) (l:List Int):(accsC t i s l).length<=2*l.length:=by
 induction l with
 | nil=>simp [accsC]
 | cons c l ih =>
   have e:accsC t i s (c::l)=((if c∈readsM s then [⟨t,i,c.toNat,false⟩] else [])++(if c∈writesM s then [⟨t,i,c.toNat,true⟩] else []))++accsC t i s l:=rfl
   rw [e,List.length_append,List.length_append,List.length_cons]
   have h1:(if c∈readsM s then [(⟨t,i,c.toNat,false⟩:Acc)] else []).length<=1:=by split <;> simp
   have h2:(if c∈writesM s then [(⟨t,i,c.toNat,true⟩:Acc)] else []).length<=1:=by split <;> simp
   omega
theorem ofM_len (p:Prog) (t:Int):(ofM p t).length<=p.cells.length:=by unfold ofM idxM; exact idxN_len _ _ _
theorem accsC_succ (t i:Nat) (s:Step) {l:List Int} {j:Nat} {c:Int} (h:l[j]? = some c):accsC t i s (l.take (j+1))=accsC t i s (l.take j)++((if c∈readsM s then [⟨t,i,c.toNat,false⟩] else [])++(if c∈writesM s then [⟨t,i,c.toNat,true⟩] else [])):=by
 rw [take_succ_of h]
 simp [accsC]
theorem accsT_succ (p:Prog) (t:Nat) {l:List Step} {i:Nat} {s:Step} (h:l[i]? = some s):accsT p t l (i+1)=accsT p t l i++accsS p t i s:=by
 have hi:=(List.getElem?_eq_some_iff.1 h).1
 unfold accsT
 rw [take_succ_of h,List.zipIdx_append,List.flatMap_append]
 have:(l.take i).length=i:=by simp; omega
 simp [this]
theorem accsN_succ (p:Prog) {k:Nat} {x:Thread} (h:p.threads[k]? = some x):accsN p (k+1)=accsN p k++accsT p k x.steps x.steps.length:=by
 have hi:=(List.getElem?_eq_some_iff.1 h).1
 unfold accsN
 rw [take_succ_of h,List.zipIdx_append,List.flatMap_append]
 have:(p.threads.take k).length=k:=by simp; omega
 simp [this]
theorem accsS_len (p:Prog) (hc:p.cells.length<=32) (t i:Nat) (s:Step):(accsS p t i s).length<=64:=by
 unfold accsS
 split
 ·simp
 ·have h1:=accsC_len t i s (ofM p (-1))
  have h2:=ofM_len p (-1)
  omega
theorem accsT_len (p:Prog) (hc:p.cells.length<=32) (t:Nat) (l:List Step) : ∀ i,i<=l.length->(accsT p t l i).length<=64*i
 | 0,_=>by simp [accsT]
 | i+1,h=>by
   obtain ⟨s,hs,_⟩:=get_of (show i<l.length by omega)
   rw [accsT_succ p t hs,List.length_append]
   have h1:=accsT_len p hc t l i (by omega)
   have h2:=accsS_len p hc t i s
   omega
theorem accsN_len (p:Prog) (hc:p.cells.length<=32) (hs : ∀ x∈p.threads,x.steps.length<=64) : ∀ k,k<=p.threads.length->(accsN p k).length<=4096*k
 | 0,_=>by simp [accsN]
 | k+1,h=>by
   obtain ⟨x,hx,hxm⟩:=get_of (show k<p.threads.length by omega)
   rw [accsN_succ p hx,List.length_append]
   have h1:=accsN_len p hc hs k (by omega)
   have h2:=accsT_len p hc k x.steps _ (Nat.le_refl _)
   have h3:=hs x hxm
   omega
def rowsA (l:List Acc):List (List V):=(l.map Acc.enc).map (·.map V.t)
theorem rowsA_len (l:List Acc):(rowsA l).length=l.length:=by simp [rowsA]
theorem rowsA_all (l:List Acc):((rowsA l).all fun r=>decide (r.length=4))=true:=by simp [rowsA,Acc.enc]
theorem rowsA_snoc (l:List Acc) (t k:Nat) (c:Int) (w:Bool) (hc:0<=c):rowsA l++[[V.t (T.int .i64 t),V.t (T.int .i64 k),V.t (T.int .i64 c),V.t (T.bool w)]]=rowsA (l++[⟨t,k,c.toNat,w⟩]):=by
 have:((c.toNat:Nat):Int)=c:=by omega
 simp [rowsA,Acc.enc,this]
theorem acc_norm (l:List Acc) : ∀ e∈l.map Acc.enc, ∀ t∈e,T.norm t=t:=by
 intro e he t ht
 obtain ⟨x,_,rfl⟩:=List.mem_map.1 he
 simp only [Acc.enc,List.mem_cons,List.not_mem_nil,or_false] at ht
 rcases ht with rfl | rfl | rfl | rfl <;> rfl
set_option maxHeartbeats 2000000
theorem accs_den (p:Prog) (hp:p.ok) (hset : ∀ x∈p.threads, ∀ s∈x.steps,s.set.length<2^20) :
 Den Γ G 307 [(.agg [.t (.sl ((p).cells.map (Cell.enc))), .t (.sl ((p).modules.map (Contract.enc))), .t (.sl ((p).locks.map (Lock.enc))), .t (.sl ((p).threads.map (Thread.enc)))])]=some (.t (.sl ((accsM p).map Acc.enc))):=by
 have hr:=ok_iff.1 hp
 obtain ⟨⟨l1,l2,l3,l4⟩,l5⟩:=limits_iff.1 hr.lim
 (refine den_ofY Γ307 rfl ?_; dsimp only [f307])
 simp -dsimp -implicitDefEqProofs only [go_sem,seval]
 refine loopYH 4835703278458516698795000 p.threads.length (fun i f h x=>(f 15).v=vi i/\OwnB h x (f 3).v 4 (rowsA (accsN p i))) rfl ⟨by simp -dsimp -implicitDefEqProofs only [go_sem,seval], .inl ⟨by simp -dsimp -implicitDefEqProofs only [go_sem,seval],rfl⟩⟩ ?_
 rintro i f u H z bs hi ⟨h15,hO⟩
 have hw:=wrapS i (by omega)
 simp -dsimp -implicitDefEqProofs only [go_sem,seval,h15]
 refine csplit (fun h => ?_) (fun h => ?_) <;> (try rw [h]) <;> (try simp only [bools] at h) <;> (try simp -dsimp -implicitDefEqProofs only [go_sem,seval,h15])
 ·obtain ⟨x,hx,hxm⟩:=get_of ‹i<p.threads.length›
  have hxs:=(l5 x hxm).2.1
  simp -dsimp -implicitDefEqProofs only [go_sem,seval,h15,hx]
  refine loopYH 2417851639229258341026760 x.steps.length (fun j f h y=>(f 23).v=vi j/\OwnB h y (f 3).v 4 (rowsA (accsN p i++accsT p i x.steps j))) rfl ⟨by simp -dsimp -implicitDefEqProofs only [go_sem,seval],by rw [show accsT p i x.steps 0=[] from rfl,List.append_nil]; (try simp -dsimp -implicitDefEqProofs only [go_sem,seval]); exact hO.le (by (try simp -dsimp -implicitDefEqProofs only [go_sem,seval]) <;> omega)⟩ ?_
  rintro j f2 u2 H2 z2 bs2 hj ⟨h23,hO2⟩
  have hw2:=wrapS j (by omega)
  simp -dsimp -implicitDefEqProofs only [go_sem,seval,h23]
  refine csplit (fun h => ?_) (fun h => ?_) <;> (try rw [h]) <;> (try simp only [bools] at h) <;> (try simp -dsimp -implicitDefEqProofs only [go_sem,seval,h23])
  ·obtain ⟨s,hs,hsm⟩:=get_of ‹j<x.steps.length›
   have hsl:=hset x hxm s hsm
   have hrd:=reads_den s hsl
   have hwd:=writes_den s (by omega)
   have hsucc:=accsT_succ p i hs
   have htg:s.kind=6\/s.kind=7->0<=s.target/\s.target<p.threads.length:=by
    intro hk
    have ht:=hr.threads _ x hx
    rw [threadErr_iff] at ht
    obtain ⟨hb,_,hset,hko⟩:=stepErr_iff.1 (ht.2.2.2.2.2.1 _ s hs)
    have hj:joinOk p i s=true:=by
     unfold kindOk at hko
     rcases hk with hk | hk <;> rw [hk] at hko <;> simp at hko
     ·exact hko.1
     ·exact hko
    simp only [joinOk,inR,Bool.and_eq_true,decide_eq_true_eq] at hj
    omega
   have v1:=hO2.valOf
   have v2:=hO2.r2
   have v3:=hO2.r3
   have v4:=hO2.r4
   have v5:=hO2.r5
   have hln:(rowsA (accsN p i++accsT p i x.steps j)).length<2^32:=by
    rw [rowsA_len,List.length_append]
    have h1:=accsN_len p l1 (fun x hx=>(l5 x hx).2.1) i hi
    have h2:=accsT_len p l1 i x.steps j hj
    omega
   simp -dsimp -implicitDefEqProofs only [go_sem,seval,h23,hs]
   refine csplit (fun h => ?_) (fun h => ?_) <;> (try rw [h]) <;> (try simp only [bools] at h) <;> (try simp -dsimp -implicitDefEqProofs only [go_sem,seval,h23])
   ·have hk67:s.kind=6\/s.kind=7:=by omega
    obtain ⟨t0,t1⟩:=htg hk67
    have hac:accsS p i j s=[⟨i,j,p.cells.length+s.target.toNat,true⟩]:=by unfold accsS; rw [if_pos hk67]
    have hadd:IntKind.i64.wrap ((p.cells.length:Int)+s.target)=((p.cells.length+s.target.toNat:Nat):Int):=by rw [wrap64 (by omega)]; omega
    simp -dsimp -implicitDefEqProofs only [go_sem,seval,h15,h23,v1,v2,v3,v4,v5,hadd]
    refine putA_app1 (hO2.upd (by omega) _) (by omega) hln (by decide) rfl (rowsA_all _) ?_
    intro v hp hO hoffs hkeep
    have w1:=hO.valOf
    rw [rowsA_snoc _ i j _ true (by omega),show ((p.cells.length+s.target.toNat:Nat):Int).toNat=p.cells.length+s.target.toNat by omega,List.append_assoc, <- hac, <- hsucc] at hO
    simp -dsimp -implicitDefEqProofs only [go_sem,seval,w1,h23]
    refine ⟨by omega,by simp -dsimp -implicitDefEqProofs only [go_sem,seval,h23,hw2], ?_⟩; simp -dsimp -implicitDefEqProofs only [go_sem,seval]; refine hO.le ?_; omega
   ·refine csplit (fun h => ?_) (fun h => ?_) <;> (try rw [h]) <;> (try simp only [bools] at h) <;> (try simp -dsimp -implicitDefEqProofs only [go_sem,seval,h23])
    ·have hk67:s.kind=6\/s.kind=7:=by omega
     obtain ⟨t0,t1⟩:=htg hk67
     have hac:accsS p i j s=[⟨i,j,p.cells.length+s.target.toNat,true⟩]:=by unfold accsS; rw [if_pos hk67]
     have hadd:IntKind.i64.wrap ((p.cells.length:Int)+s.target)=((p.cells.length+s.target.toNat:Nat):Int):=by rw [wrap64 (by omega)]; omega
     simp -dsimp -implicitDefEqProofs only [go_sem,seval,h15,h23,v1,v2,v3,v4,v5,hadd]
     refine putA_app1 (hO2.upd (by omega) _) (by omega) hln (by decide) rfl (rowsA_all _) ?_
     intro v hp hO hoffs hkeep
     have w1:=hO.valOf
     rw [rowsA_snoc _ i j _ true (by omega),show ((p.cells.length+s.target.toNat:Nat):Int).toNat=p.cells.length+s.target.toNat by omega,List.append_assoc, <- hac, <- hsucc] at hO
     simp -dsimp -implicitDefEqProofs only [go_sem,seval,w1,h23]
     refine ⟨by omega,by simp -dsimp -implicitDefEqProofs only [go_sem,seval,h23,hw2], ?_⟩; simp -dsimp -implicitDefEqProofs only [go_sem,seval]; refine hO.le ?_; omega
    ·have hk67 : ¬ (s.kind=6\/s.kind=7):=by omega
     have hac:accsS p i j s=accsC i j s (ofM p (-1)):=by unfold accsS; rw [if_neg hk67]
     have hsh:=sharedLP_den p (by omega)
     have hLl:=ofM_len p (-1)
     have hL0 : ∀ c∈ofM p (-1),0<=c:=by
      intro c hc
      rw [mem_ofM,ofThread_iff] at hc
      exact hc.1
     rw [hac] at hsucc
     simp -dsimp -implicitDefEqProofs only [go_sem,seval,hrd,hwd,hsh]
     generalize ofM p (-1)=L at hLl hL0 hsucc
     have hln3 : ∀ (k:Nat) (l:List Acc),l.length<=1->(rowsA (accsN p i++accsT p i x.steps j++accsC i j s (L.take k)++l)).length<2^32:=by
      intro k l hl
      rw [rowsA_len,List.length_append,List.length_append,List.length_append]
      have h1:=accsN_len p l1 (fun x hx=>(l5 x hx).2.1) i hi
      have h2:=accsT_len p l1 i x.steps j hj
      have h3:=accsC_len i j s (L.take k)
      have h4:(L.take k).length<=L.length:=by simp; omega
      omega
     refine loopYH 1208925783585832155744264 L.length (fun k f h y=>(f 55).v=vi k/\OwnB h y (f 3).v 4 (rowsA (accsN p i++accsT p i x.steps j++accsC i j s (L.take k)))) rfl ⟨by simp -dsimp -implicitDefEqProofs only [go_sem,seval],by rw [show accsC i j s (L.take 0)=[] by simp [accsC],List.append_nil]; (try simp -dsimp -implicitDefEqProofs only [go_sem,seval]); exact hO2.le (by (try simp -dsimp -implicitDefEqProofs only [go_sem,seval]) <;> omega)⟩ ?_
     rintro k f3 u3 H3 z3 bs3 hk ⟨h55,hO3⟩
     have hw3:=wrapS k (by omega)
     simp -dsimp -implicitDefEqProofs only [go_sem,seval,h55]
     refine csplit (fun h => ?_) (fun h => ?_) <;> (try rw [h]) <;> (try simp only [bools] at h) <;> (try simp -dsimp -implicitDefEqProofs only [go_sem,seval,h55])
     ·obtain ⟨c,hc,hcm⟩:=get_of ‹k<L.length›
      have hc0:=hL0 c hcm
      have hcs:=accsC_succ i j s hc
      have hcn:((c.toNat:Nat):Int)=c:=by omega
      have hc1:=containsC_den (readsM s) c (by have h1:=sortedM_len (readsL s s.set.length); have h2:=readsL_len s s.set.length; simp only [readsL,List.take_length] at h1 h2; unfold readsM; omega)
      have hc2:=containsC_den (writesM s) c (by have:=sortedM_len (s.set.map Assign.cell); simp at this; unfold writesM; omega)
      have hlnk:(rowsA (accsN p i++accsT p i x.steps j++accsC i j s (L.take k))).length<2^32:=by simpa using hln3 k [] (by simp)
      have v1:=hO3.valOf
      have v2:=hO3.r2
      have v3:=hO3.r3
      have v4:=hO3.r4
      have v5:=hO3.r5
      simp -dsimp -implicitDefEqProofs only [go_sem,seval,h55,hc,hc1]
      cases hr1:(readsM s).contains c
      ·have hm1 : ¬ c∈readsM s:=by simpa using hr1
       rw [if_neg hm1,List.nil_append] at hcs
       simp -dsimp -implicitDefEqProofs only [go_sem,seval,h55,hc2]
       cases hr2:(writesM s).contains c
       ·have hm2 : ¬ c∈writesM s:=by simpa using hr2
        rw [if_neg hm2,List.append_nil] at hcs
        simp -dsimp -implicitDefEqProofs only [go_sem,seval,h55]
        refine ⟨by omega,by simp -dsimp -implicitDefEqProofs only [go_sem,seval,h55,hw3], ?_⟩
        rw [hcs]
        (try simp -dsimp -implicitDefEqProofs only [go_sem,seval])
        refine hO3.le ?_; omega
       ·have hm2:c∈writesM s:=by simpa using hr2
        rw [if_pos hm2] at hcs
        simp -dsimp -implicitDefEqProofs only [go_sem,seval,h55,v1,v2,v3,v4,v5,h15,h23]
        refine putA_app1 (hO3.upd (by omega) _) (by omega) hlnk (by decide) rfl (rowsA_all _) ?_
        intro v hp hO4 hoffs hkeep
        have w1:=hO4.valOf
        rw [rowsA_snoc _ i j _ true hc0,List.append_assoc, <- hcs] at hO4
        simp -dsimp -implicitDefEqProofs only [go_sem,seval,w1,h55]
        refine ⟨by omega,by simp -dsimp -implicitDefEqProofs only [go_sem,seval,h55,hw3], ?_⟩
        simp -dsimp -implicitDefEqProofs only [go_sem,seval]
        refine hO4.le ?_; omega
      ·have hm1:c∈readsM s:=by simpa using hr1
       rw [if_pos hm1] at hcs
       simp -dsimp -implicitDefEqProofs only [go_sem,seval,h55,v1,v2,v3,v4,v5,h15,h23]
       refine putA_app1 (hO3.upd (by omega) _) (by omega) hlnk (by decide) rfl (rowsA_all _) ?_
       intro v hp hO4 hoffs hkeep
       have w1:=hO4.valOf
       rw [rowsA_snoc _ i j _ false hc0] at hO4
       simp -dsimp -implicitDefEqProofs only [go_sem,seval,w1,h55,hc2]
       cases hr2:(writesM s).contains c
       ·have hm2 : ¬ c∈writesM s:=by simpa using hr2
        rw [if_neg hm2,List.append_nil] at hcs
        simp -dsimp -implicitDefEqProofs only [go_sem,seval,h55]
        refine ⟨by omega,by simp -dsimp -implicitDefEqProofs only [go_sem,seval,h55,hw3], ?_⟩
        rw [hcs]
        simp -dsimp -implicitDefEqProofs only [go_sem,seval]
        rw [List.append_assoc] at hO4
        refine hO4.le ?_; omega
       ·have hm2:c∈writesM s:=by simpa using hr2
        rw [if_pos hm2] at hcs
        have hO5:=hO4.le (y:=z3+1+3+3+8) (by omega)
        have q2:=hO5.r2
        simp -dsimp -implicitDefEqProofs only [go_sem,seval,h55,w1,q2,h15,h23]
        refine putA_app1 (hO5.upd (by omega) _) (by omega) (hln3 k [_] (by simp)) (by decide) rfl (rowsA_all _) ?_
        intro v' hp' hO6 hoffs' hkeep'
        have w2:=hO6.valOf
        rw [rowsA_snoc _ i j _ true hc0,List.append_assoc,List.append_assoc, <- hcs] at hO6
        simp -dsimp -implicitDefEqProofs only [go_sem,seval,w2,h55]
        refine ⟨by omega,by simp -dsimp -implicitDefEqProofs only [go_sem,seval,h55,hw3], ?_⟩
        simp -dsimp -implicitDefEqProofs only [go_sem,seval]
        refine hO6.le ?_; omega
     ·have:k=L.length:=by omega
      subst this
      rw [List.take_length,List.append_assoc, <- hsucc] at hO3
      simp -dsimp -implicitDefEqProofs only [go_sem,seval,h23]
      refine ⟨by omega,by simp -dsimp -implicitDefEqProofs only [go_sem,seval,h23,hw2], ?_⟩
      simp -dsimp -implicitDefEqProofs only [go_sem,seval]
      refine hO3.le ?_; omega
  ·have:j=x.steps.length:=by omega
   subst this
   rw [<- accsN_succ p hx] at hO2
   simp -dsimp -implicitDefEqProofs only [go_sem,seval,h15]
   exact ⟨by omega,by simp -dsimp -implicitDefEqProofs only [go_sem,seval,hw],by (try simp -dsimp -implicitDefEqProofs only [go_sem,seval]); exact hO2.le (by (try simp -dsimp -implicitDefEqProofs only [go_sem,seval]) <;> omega)⟩
 ·have:i=p.threads.length:=by omega
  subst this
  have v1:=hO.valOf
  have hre:=hO.reify (acc_norm _)
  have v5:=hO.resVal
  simp only [Rg.resVal] at v5
  simp -dsimp -implicitDefEqProofs only [go_sem,seval,v1,v5]
  exact hre
end Rg
end
section
namespace Rg
open Go
def rowsV (f:Nat->Nat->Nat):List V:=(List.range 256).map fun j => .t (.int .u64 (f (j / 64) (j % 64):Nat))
theorem rowsV_len (f:Nat->Nat->Nat):(rowsV f).length=256:=by simp [rowsV]
def restV (ld qk:Nat->Nat->Nat) (kn:Nat):List V:=rowsV ld++rowsV qk++[.mm kn]
theorem restV_len (ld qk:Nat->Nat->Nat) (kn:Nat):(restV ld qk kn).length=513:=by simp [restV,rowsV_len]
abbrev rowG (cs ms ls ts:List (List T)) (model:Int) (al:List (List T)) (cv mv:V) (ld qk:Nat->Nat->Nat) (kn:Nat):List V :=
 .t (.sl cs) :: .t (.sl ms) :: .t (.sl ls) :: .t (.sl ts) :: .t (.int .i64 model) :: .t (.sl al)::cv::mv::restV ld qk kn
def Shw (H:Nat->Option O) (v:V) (sz:Nat) (es:List (List T)):Prop:=(v = .t .nils/\es=[]) \/ ∃ k f,v = .ms k 0 es.length/\H k=some (.rows sz (es.map (·.map V.t)) f)
theorem Shw.toT {H:Nat->Option O} {v:V} {sz:Nat} {es:List (List T)} (h:Shw H v sz es) (hn : ∀ e∈es, ∀ t∈e,T.norm t=t) (d:Nat):toT H (d+1) v=some (.sl es):=by
 rcases h with ⟨rfl,rfl⟩ | ⟨k,f,rfl,hk⟩
 ·rfl
 ·have h1:=rows_toT H d es hn
  simp only [Rg.toT,hk]
  rw [show rd (es.map (·.map V.t)) 0 es.length=some (es.map (·.map V.t)) by
   simp only [rd,List.length_map,Nat.zero_add,Nat.le_refl,if_true,List.drop_zero]; rw [List.take_of_length_le (by simp)]]
  simp only [Option.bind_eq_bind,Option.bind_some,h1]
theorem Shw.valOf {H:Nat->Option O} {v:V} {sz:Nat} {es:List (List T)} (h:Shw H v sz es):valOf v=some v:=by
 rcases h with ⟨rfl,rfl⟩ | ⟨k,f,rfl,hk⟩ <;> rfl
theorem Shw.isTr {H:Nat->Option O} {v:V} {sz:Nat} {es:List (List T)} (h:Shw H v sz es):v.one=true:=by
 rcases h with ⟨rfl,rfl⟩ | ⟨k,f,rfl,hk⟩ <;> rfl
def NormT (es:List (List T)):Prop := ∀ e∈es, ∀ t∈e,T.norm t=t
theorem rowsV_toT (H:Nat->Option O) (d:Nat) (f:Nat->Nat->Nat):(rowsV f).mapM (toT H d)=some (rowsT f):=by
 refine mapM_some_of _ _ _ (fun i a ha => ?_) (by simp [rowsV,rowsT])
 simp only [rowsV,rowsT,List.getElem?_map,Option.map_eq_some_iff] at ha ⊢
 obtain ⟨x,hx,rfl⟩:=ha
 exact ⟨_,⟨x,hx,rfl⟩,by cases d <;> rfl⟩
theorem mapM_app {α β:Type} (f:α->Option β) : ∀ {a b:List α} {x y:List β},a.mapM f=some x->b.mapM f=some y->(a++b).mapM f=some (x++y):=by
 intro a b x y ha hb
 rw [List.mapM_append,ha,hb]; rfl
theorem graph_toT {H:Nat->Option O} {kG kn:Nat} {cs ms ls ts al ce me:List (List T)} {model:Int} {cv mv:V} {ld qk:Nat->Nat->Nat} {es:List (T×V)} {fz:Bool}
 (hG:H kG=some (.rows 521 [rowG cs ms ls ts model al cv mv ld qk kn] fz)) (hc:Shw H cv 1 ce) (hcn:NormT ce) (hm:Shw H mv 1 me) (hmn:NormT me) (hk:H kn=some (.map es)) :
 toT1 H (.mp kG 0 0)=some (.t (.ip (.sl cs :: .sl ms :: .sl ls :: .sl ts :: .int .i64 model :: .sl al :: .sl ce :: .sl me::(rowsT ld++rowsT qk++[.opq])))):=by
 have hr:(restV ld qk kn).mapM (toT H 999)=some (rowsT ld++rowsT qk++[.opq]):=by
  refine mapM_app _ (mapM_app _ (rowsV_toT H 999 ld) (rowsV_toT H 999 qk)) ?_
  rw [List.mapM_cons,show toT H 999 (.mm kn)=some .opq by rw [show 999=998+1 from rfl]; simp only [toT,hk]]; rfl
 have h1:=hc.toT hcn 998
 have h2:=hm.toT hmn 998
 have hx : ∀ x:T,toT H 999 (.t x)=some x.norm:=fun x=>rfl
 have hrow:(rowG cs ms ls ts model al cv mv ld qk kn).mapM (toT H 999)=some (.sl cs :: .sl ms :: .sl ls :: .sl ts :: .int .i64 model :: .sl al :: .sl ce :: .sl me::(rowsT ld++rowsT qk++[.opq])):=by
  simp only [rowG,List.mapM_cons,hx,h1,h2,hr,T.norm]
  rfl
 have:toT H 1000 (.mp kG 0 0)=some (.ip (.sl cs :: .sl ms :: .sl ls :: .sl ts :: .int .i64 model :: .sl al :: .sl ce :: .sl me::(rowsT ld++rowsT qk++[.opq]))):=by
  rw [show 1000=999+1 from rfl]
  simp only [toT,hG]
  show (do let row <- [rowG cs ms ls ts model al cv mv ld qk kn][0]?; let cs <- (row.drop 0).mapM (toT H 999); some (T.ip cs))=_
  simp only [List.getElem?_cons_zero,List.drop_zero,Option.bind_eq_bind,Option.bind_some,hrow]
 show (toT H 1000 (.mp kG 0 0)).map V.t=_
 rw [this]; rfl
theorem gstepH_den {H:Nat->Option O} {kG:Nat} {row:List V} {fz:Bool} (n:Nat) (p:Prog) (t k:Nat) (x:Int) (w:Bool) {y:Thread} {s:Step}
 (hG:H kG=some (.rows 521 [.t (.sl (p.cells.map Cell.enc)) :: .t (.sl (p.modules.map Contract.enc)) :: .t (.sl (p.locks.map Lock.enc)) :: .t (.sl (p.threads.map Thread.enc))::row] fz))
 (ht:p.threads[t]? = some y) (hk:y.steps[k]? = some s) :
 ∃ r h' n',DenR Γ G 310 [.mp kG 0 0, .agg [vi t,vi k,vi x,vb w]] H n=some (r,h',n')/\r=(.agg [.t (ti (s).kind), .t (ti (s).fr), .t (ti (s).to), .t (ti ((s).guard).op), .t (ti ((s).guard).w), .t (ti ((s).guard).n), .t (.sl (((s).guard).kids.map Expr.enc)), .t (.sl ((s).set.map Assign.enc)), .t (tb (s).release), .t (ti (s).target), .t (ti (s).module)])/\h' = H/\n<=n' := by
 have hb:=(List.getElem?_eq_some_iff.1 ht).1
 have hb2:=(List.getElem?_eq_some_iff.1 hk).1
 (refine denR_ofY Γ310 rfl ?_; dsimp only [f310])
 simp -dsimp -implicitDefEqProofs only [go_sem,seval,hG,ht,hk]
 refine ⟨rfl,rfl, ?_⟩
 simp -dsimp -implicitDefEqProofs only [go_sem,seval]
 omega
def updR (f:Nat->Nat->Nat) (k:Nat) (l:List Nat):Nat->Nat->Nat:=fun t i=>if t=k then l.getD i 0 else f t i
theorem rowsV_at (f:Nat->Nat->Nat) {j:Nat} (h:j<256):(rowsV f)[j]? = some (.t (.int .u64 (f (j / 64) (j % 64):Nat))):=by
 simp only [rowsV,List.getElem?_map]; rw [List.getElem?_range h]; rfl
theorem rowsV_wr (f:Nat->Nat->Nat) {k:Nat} {l:List Nat} (hk:k<4) (hl:l.length=64):List.take (k*64) (rowsV f)++arr l++List.drop (k*64+64) (rowsV f)=rowsV (updR f k l):=by
 have h1:(List.take (k*64) (rowsV f)).length=k*64:=by rw [List.length_take,rowsV_len]; omega
 refine List.ext_getElem? fun j => ?_
 rcases Nat.lt_or_ge j 256 with hj | hj
 ·rw [rowsV_at _ hj]
  rcases Nat.lt_or_ge j (k*64) with h2 | h2
  ·rw [List.append_assoc,List.getElem?_append_left (by omega),List.getElem?_take,if_pos h2,rowsV_at _ hj]
   have:j / 64≠k:=by omega
   simp [updR,this]
  ·rcases Nat.lt_or_ge j (k*64+64) with h3 | h3
   ·rw [List.append_assoc,List.getElem?_append_right (by omega),h1,List.getElem?_append_left (by rw [arr_len]; omega)]
    have e1:j / 64=k:=by omega
    have e2:j-k*64=j % 64:=by omega
    have h4:j % 64<l.length:=by omega
    simp [arr,updR,e1,e2,List.getD_eq_getElem?_getD,List.getElem?_eq_getElem h4]
   ·rw [List.getElem?_append_right (by rw [List.length_append,arr_len]; omega),List.length_append,arr_len,h1,hl,List.getElem?_drop,show k*64+64+(j-(k*64+64))=j by omega,rowsV_at _ hj]
    have:j / 64≠k:=by omega
    simp [updR,this]
 ·rw [List.getElem?_eq_none (by rw [List.length_append,List.length_append,arr_len,h1,List.length_drop,rowsV_len]; omega),List.getElem?_eq_none (by rw [rowsV_len]; omega)]
theorem wrA {a b l:List V} {m:Nat} (h:m+64<=a.length):List.take m (a++b)++l++List.drop (m+64) (a++b)=(List.take m a++l++List.drop (m+64) a)++b:=by
 rw [List.take_append_of_le_length (by omega),List.drop_append_of_le_length h]; simp only [List.append_assoc]
theorem wrB {a b l:List V} {m:Nat}:List.take (a.length+m) (a++b)++l++List.drop (a.length+(m+64)) (a++b)=a++(List.take m b++l++List.drop (m+64) b):=by
 rw [List.take_length_add_append,List.drop_length_add_append]; simp only [List.append_assoc]
theorem rowG_wl {cs ms ls ts al:List (List T)} {model:Int} {cv mv:V} {ld qk:Nat->Nat->Nat} {kn k:Nat} {l:List Nat} (hk:k<4) (hl:l.length=64) :
 List.take (8+k*64) (rowG cs ms ls ts model al cv mv ld qk kn)++arr l++List.drop (8+k*64+64) (rowG cs ms ls ts model al cv mv ld qk kn)=rowG cs ms ls ts model al cv mv (updR ld k l) qk kn:=by
 have e:List.take (k*64) (restV ld qk kn)++arr l++List.drop (k*64+64) (restV ld qk kn)=restV (updR ld k l) qk kn:=by
  unfold restV
  rw [List.append_assoc (rowsV ld),wrA (by rw [rowsV_len]; omega),rowsV_wr ld hk hl,List.append_assoc]
 rw [show 8+k*64=k*64+1+1+1+1+1+1+1+1 by omega,show k*64+1+1+1+1+1+1+1+1+64=k*64+64+1+1+1+1+1+1+1+1 by omega]
 simp only [rowG,List.take_succ_cons,List.drop_succ_cons,List.cons_append]
 rw [e]
theorem rowG_wq {cs ms ls ts al:List (List T)} {model:Int} {cv mv:V} {ld qk:Nat->Nat->Nat} {kn k:Nat} {l:List Nat} (hk:k<4) (hl:l.length=64) :
 List.take (264+k*64) (rowG cs ms ls ts model al cv mv ld qk kn)++arr l++List.drop (264+k*64+64) (rowG cs ms ls ts model al cv mv ld qk kn)=rowG cs ms ls ts model al cv mv ld (updR qk k l) kn:=by
 have e:List.take (256+k*64) (restV ld qk kn)++arr l++List.drop (256+(k*64+64)) (restV ld qk kn)=restV ld (updR qk k l) kn:=by
  have:=wrB (a:=rowsV ld) (b:=rowsV qk++[.mm kn]) (l:=arr l) (m:=k*64)
  rw [rowsV_len,wrA (by rw [rowsV_len]; omega),rowsV_wr qk hk hl, <- List.append_assoc, <- List.append_assoc] at this
  exact this
 rw [show 264+k*64=256+k*64+1+1+1+1+1+1+1+1 by omega,show 256+k*64+1+1+1+1+1+1+1+1+64=256+(k*64+64)+1+1+1+1+1+1+1+1 by omega]
 simp only [rowG,List.take_succ_cons,List.drop_succ_cons,List.cons_append]
 rw [e]
theorem rowG_wl' {cs ms ls ts al:List (List T)} {model:Int} {cv mv:V} {ld qk:Nat->Nat->Nat} {kn k:Nat} {l:List Nat} (hk:k<4) (hl:l.length=64) :
 List.take (8+k*64) (rowG cs ms ls ts model al cv mv ld qk kn)++arr l++List.drop (8+k*64+56) (restV ld qk kn)=rowG cs ms ls ts model al cv mv (updR ld k l) qk kn:=by
 rw [<- rowG_wl hk hl]; rfl
theorem rowG_wq' {cs ms ls ts al:List (List T)} {model:Int} {cv mv:V} {ld qk:Nat->Nat->Nat} {kn k:Nat} {l:List Nat} (hk:k<4) (hl:l.length=64) :
 List.take (264+k*64) (rowG cs ms ls ts model al cv mv ld qk kn)++arr l++List.drop (264+k*64+56) (restV ld qk kn)=rowG cs ms ls ts model al cv mv ld (updR qk k l) kn:=by
 rw [<- rowG_wq hk hl]; rfl
end Rg
end
