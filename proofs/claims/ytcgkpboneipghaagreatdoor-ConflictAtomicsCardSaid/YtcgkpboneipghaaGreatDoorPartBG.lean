/- Part of the proof of the laws of the package relyguardlaw30: an abstract machine for the program's functions, what they compute, and that the machine is the program's. No condition. (H46b) -/
import Derived.Test.YtcgkpboneipghaaGreatDoorPartBA
import Derived.Test.YtcgkpboneipghaaGreatDoorPartBF
set_option linter.unusedSimpArgs false
set_option linter.unusedVariables false
section
namespace Rg
open Go
def stRows (l:List Step):List (List V):=(l.map Step.enc).map (·.map V.t)
theorem stRows_len (l:List Step):(stRows l).length=l.length:=by simp [stRows]
theorem stRows_at {l:List Step} {i:Nat} {s:Step} (h:l[i]? = some s):(stRows l)[i]? = some (s.enc.map V.t):=by simp [stRows,h]
def atN (kd:Int) (l:List Step) (k:Nat):List Step:=(l.take k).map (atomS kd)++l.drop k
theorem atN_zero (kd:Int) (l:List Step):atN kd l 0=l:=by simp [atN]
theorem atN_end (kd:Int) (l:List Step):atN kd l l.length=l.map (atomS kd):=by simp [atN]
theorem atN_len (kd:Int) (l:List Step) (k:Nat):(atN kd l k).length=l.length:=by simp [atN]; omega
theorem atN_at {kd:Int} {l:List Step} {k:Nat} {s:Step} (h:l[k]? = some s):(atN kd l k)[k]? = some s:=by
 have hk:=(List.getElem?_eq_some_iff.1 h).1
 have hl:((l.take k).map (atomS kd)).length=k:=by simp; omega
 rw [atN,List.getElem?_append_right (by omega),hl,Nat.sub_self,List.getElem?_drop]; simpa using h
theorem atN_succ {kd:Int} {l:List Step} {k:Nat} {s:Step} (h:l[k]? = some s):atN kd l (k+1)=(atN kd l k).set k (atomS kd s):=by
 have hk:=(List.getElem?_eq_some_iff.1 h).1
 have hl:((l.take k).map (atomS kd)).length=k:=by simp; omega
 rw [atN,take_succ_of h,atN,List.set_append_right _ _ (by omega),hl,Nat.sub_self,drop_of h]
 simp
theorem atN_same {kd:Int} {l:List Step} {k:Nat} {s:Step} (h:l[k]? = some s) (hn:s.kind≠kd):atN kd l (k+1)=atN kd l k:=by
 rw [atN_succ h]
 have:atomS kd s=s:=by unfold atomS; rw [if_neg hn]
 rw [this]
 refine List.ext_getElem? fun i => ?_
 rw [List.getElem?_set]
 by_cases hi:k=i
 ·subst hi
  have h2:=(List.getElem?_eq_some_iff.1 (atN_at (kd:=kd) h)).1
  rw [if_pos rfl,if_pos h2]; exact (atN_at h).symm
 ·rw [if_neg hi]
theorem stRows_set (l:List Step) (k:Nat) (s:Step):stRows (l.set k s)=(stRows l).set k (s.enc.map V.t):=by simp [stRows,List.map_set]
def AtRow (kd:Int) (h:Nat->Option O) (x ko:Nat) (y:Thread) (dn:Prop) (r:List V):Prop :=
 (dn /\ ∃ k,r=[.t (.str y.name), .t (ti y.points), .t (.sl (y.asserts.map Expr.enc)), .t (ints y.modules), .ms k 0 y.steps.length, .t (.sl (y.loops.map Loop.enc)), .t (tb y.asleep)]/\k<x/\k≠ko/\h k=some (.rows 11 (stRows (y.steps.map (atomS kd))) false)) \/
 (¬ dn/\r=y.enc.map V.t)
structure AtThr (kd:Int) (p:Prog) (h:Nat->Option O) (x ko t:Nat) (rows:List (List V)):Prop where
 at_:h ko=some (.rows 7 rows false)
 lt:ko<x
 len:rows.length=p.threads.length
 row : ∀ (j:Nat) (y:Thread),p.threads[j]? = some y -> ∃ r,rows[j]? = some r/\AtRow kd h x ko y (j<t) r
set_option maxHeartbeats 1000000
theorem atomic_den (p:Prog) (hs:p.SmallP 40) (kd:Int):Den Γ G 292 [(.agg [.t (.sl ((p).cells.map (Cell.enc))), .t (.sl ((p).modules.map (Contract.enc))), .t (.sl ((p).locks.map (Lock.enc))), .t (.sl ((p).threads.map (Thread.enc)))]),vi kd]=some (.agg [.t (.sl ((atomP kd p).cells.map (Cell.enc))), .t (.sl ((atomP kd p).modules.map (Contract.enc))), .t (.sl ((atomP kd p).locks.map (Lock.enc))), .t (.sl ((atomP kd p).threads.map (Thread.enc)))]):=by
 (refine den_ofY Γ292 rfl ?_; dsimp only [f292])
 have htl:=hs.threads
 simp -dsimp -implicitDefEqProofs only [go_sem,seval]
 refine putA_appU (a:=[]) (by simp -dsimp -implicitDefEqProofs only [go_sem,seval]) rfl (by simp; omega) (by decide) (by simp [Thread.enc]) rfl ?_
 intro ko hp hko hH hfr
 rw [List.nil_append] at hH ⊢
 rw [List.length_map,List.length_map]
 simp -dsimp -implicitDefEqProofs only [go_sem,seval,hH]
 have e0:updC (fun x=>none) 5 (some (O.rows 7 [] false))=hpC (fun x=>none) [(5,O.rows 7 [] false)]:=by rw [hpC_cons,hpC_nil]
 rw [e0] at hH hfr
 generalize hpC (hpC (fun x=>none) [(5,O.rows 7 [] false)]) hp=H0 at hH hfr ⊢
 have hkn:ko<9:=by omega
 clear hko hfr hp
 refine loopYH 37778931862957161693376 p.threads.length (fun t f h x=>(f 6).v=vi t /\ ∃ rows,AtThr kd p h x ko t rows) rfl ⟨by simp -dsimp -implicitDefEqProofs only [go_sem,seval],(p.threads.map Thread.enc).map (·.map V.t), ?_⟩ ?_
 ·refine ⟨by simp -dsimp -implicitDefEqProofs only [go_sem,seval,hH],by simp -dsimp -implicitDefEqProofs only [go_sem,seval]; omega,by simp,fun j y hy=>⟨_,by simp [hy], .inr ⟨by omega,rfl⟩⟩⟩
 clear hH
 rintro t f u H q bq ht ⟨h6,rows,hR⟩
 have hw:=wrapS t (by omega)
 simp -dsimp -implicitDefEqProofs only [go_sem,seval,h6]
 by_cases h:t<p.threads.length
 ·have htr:=eq_true h
  simp -dsimp -implicitDefEqProofs only [go_sem,seval,h6,htr]
  obtain ⟨x,hx,hxm⟩:=get_of h
  have hxs:=(hs.thr x hxm).2.2.1
  obtain ⟨r,hr,har⟩:=hR.row t x hx
  have hk0:=hR.at_
  have hkl:=hR.lt
  have hrl:=hR.len
  have hr2:r=[.t (.str x.name), .t (ti x.points), .t (.sl (x.asserts.map Expr.enc)), .t (ints x.modules), .t (.sl (x.steps.map Step.enc)), .t (.sl (x.loops.map Loop.enc)), .t (tb x.asleep)]:=by
   rcases har with ⟨h,_⟩ | ⟨_,h⟩
   ·omega
   ·exact h
  subst hr2
  simp -dsimp -implicitDefEqProofs only [go_sem,seval,h6,hx]
  have hall:((stRows x.steps).all fun r=>decide (r.length=11))=true:=by simp [stRows,Step.enc,Expr.enc_eq]
  refine putA_appU (a:=[]) (by simp -dsimp -implicitDefEqProofs only [go_sem,seval]) rfl (by simp; omega) (by decide) hall rfl ?_
  intro k1 hp hk1 hH hfr
  rw [List.nil_append] at hH ⊢
  have e1:(List.map (fun x=>List.map V.t x) (List.map Step.enc x.steps))=stRows x.steps:=rfl
  rw [e1] at hH ⊢
  have e0:updC H (q+5+3) (some (O.rows 11 [] false))=hpC H [(q+5+3,O.rows 11 [] false)]:=by rw [hpC_cons,hpC_nil]
  have hfr2 : ∀ j,j<q->hpC (hpC H [(q+5+3,O.rows 11 [] false)]) hp j=H j:=fun j hj=>by
   rw [<- e0,hfr j (by omega) (by omega),updC_at,if_neg (by omega)]
  rw [e0] at hH
  clear hfr
  generalize hpC (hpC H [(q+5+3,O.rows 11 [] false)]) hp=H1 at hH hfr2 ⊢
  have hk2:H1 ko=some (.rows 7 rows false):=by rw [hfr2 ko hkl]; exact hk0
  have hk1q:q<=k1/\k1<q+20:=by omega
  have hne:(ko=k1)=False:=eq_false (by omega)
  have hne2:(k1=ko)=False:=eq_false (by omega)
  clear hk1 e0
  rw [stRows_len]
  simp -dsimp -implicitDefEqProofs only [go_sem,seval,hk2,hr,h6,htr,hne,hne2]
  obtain ⟨R1,hR1⟩ : ∃ R1,R1=rows.set t [.t (.str x.name), .t (ti x.points), .t (.sl (x.asserts.map Expr.enc)), .t (ints x.modules), .ms k1 0 x.steps.length, .t (.sl (x.loops.map Loop.enc)), .t (tb x.asleep)]:=⟨_,rfl⟩
  have hrt:R1[t]? = some [.t (.str x.name), .t (ti x.points), .t (.sl (x.asserts.map Expr.enc)), .t (ints x.modules), .ms k1 0 x.steps.length, .t (.sl (x.loops.map Loop.enc)), .t (tb x.asleep)]:=by rw [hR1,List.getElem?_set,if_pos rfl,if_pos (by omega)]
  have hRl:R1.length=p.threads.length:=by rw [hR1,List.length_set]; exact hrl
  rw [<- hR1]
  refine loopYH 37778931862939981840512 x.steps.length (fun k f h z=>(f 7).v=vi k/\h k1=some (.rows 11 (stRows (atN kd x.steps k)) false)/\h ko=some (.rows 7 R1 false)/\(∀ j,j<q->j≠ko->h j=H j)/\q+20<=z) rfl
   ⟨by simp -dsimp -implicitDefEqProofs only [go_sem,seval],by simp -dsimp -implicitDefEqProofs only [go_sem,seval,hne2]; rw [atN_zero]; exact hH,by simp -dsimp -implicitDefEqProofs only [go_sem,seval],fun j hj hjk => ?_,by simp -dsimp -implicitDefEqProofs only [go_sem,seval]; omega⟩ ?_
  ·have hjk2:(j=ko)=False:=eq_false hjk
   have:=hfr2 j hj
   simp -dsimp -implicitDefEqProofs only [go_sem,seval,hjk2,this]
  clear hH hfr2 hk2
  rintro k g u2 H2 q2 bq2 hk ⟨h7,hs1,hs2,hlow,hq2⟩
  have hwk:=wrapS k (by omega)
  simp -dsimp -implicitDefEqProofs only [go_sem,seval,h7,h6,hx]
  refine csplit (fun h => ?_) (fun h => ?_) <;> (try rw [h]) <;> (try simp only [bools] at h) <;> (try simp -dsimp -implicitDefEqProofs only [go_sem,seval,h7,h6,hx])
  ·obtain ⟨s,hsk,hsm⟩:=get_of (show k<x.steps.length by omega)
   simp -dsimp -implicitDefEqProofs only [go_sem,seval,h7,h6,hx,hsk]
   by_cases hkd:s.kind=kd
   ·have hkx:(k<x.steps.length)=True:=eq_true (by omega)
    have hrow:(stRows (atN kd x.steps k))[k]? = some [.t (ti s.kind), .t (ti s.fr), .t (ti s.to), .t (ti s.guard.op), .t (ti s.guard.w), .t (ti s.guard.n), .t (.sl (s.guard.kids.map Expr.enc)), .t (.sl (s.set.map Assign.enc)), .t (tb s.release), .t (ti s.target), .t (ti s.module)]:=by
     rw [stRows_at (atN_at hsk)]; simp [Step.enc,Expr.enc_eq]
    have hkl2:(stRows (atN kd x.steps k)).length=x.steps.length:=by rw [stRows_len,atN_len]
    have hget : ∀ R,((stRows (atN kd x.steps k)).set k R)[k]? = some R:=fun R=>by rw [List.getElem?_set,if_pos rfl,if_pos (by omega)]
    have hset2 : ∀ A B,((stRows (atN kd x.steps k)).set k A).set k B=(stRows (atN kd x.steps k)).set k B:=fun A B=>List.set_set ..
    simp -dsimp -implicitDefEqProofs only [go_sem,seval,h7,h6,hx,hsk,hkd,hs1,hs2,hrt,htr,hkx,hrow,hget,hset2,hne,hne2]
    have hfin:(stRows (atN kd x.steps k)).set k [.t (ti 4), .t (ti s.fr), .t (ti s.to), .t (ti s.guard.op), .t (ti s.guard.w), .t (ti s.guard.n), .t (.sl (s.guard.kids.map Expr.enc)), .t (.sl (s.set.map Assign.enc)), .t (tb false), .t (ti s.target), .t (ti s.module)]=stRows (atN kd x.steps (k+1)):=by
     rw [atN_succ hsk,stRows_set]
     unfold atomS
     rw [if_pos hkd]
     simp [Step.enc,Expr.enc_eq]
    refine ⟨by omega,by simp -dsimp -implicitDefEqProofs only [go_sem,seval,hwk],by simp -dsimp -implicitDefEqProofs only [go_sem,seval,hfin],by simp -dsimp -implicitDefEqProofs only [go_sem,seval,hne,hs2],fun j hj hjk => ?_,by simp -dsimp -implicitDefEqProofs only [go_sem,seval]; omega⟩
    have hj1:(j=k1)=False:=eq_false (by omega)
    have:=hlow j hj hjk
    simp -dsimp -implicitDefEqProofs only [go_sem,seval,hj1,this]
   ·simp -dsimp -implicitDefEqProofs only [go_sem,seval,h7,h6,hx,hsk,hkd]
    refine ⟨by omega,by simp -dsimp -implicitDefEqProofs only [go_sem,seval,hwk],by simp -dsimp -implicitDefEqProofs only [go_sem,seval,hs1]; rw [atN_same hsk hkd],by simp -dsimp -implicitDefEqProofs only [go_sem,seval,hs2],fun j hj hjk => ?_,by simp -dsimp -implicitDefEqProofs only [go_sem,seval]; omega⟩
    have:=hlow j hj hjk
    simp -dsimp -implicitDefEqProofs only [go_sem,seval,this]
  ·have hke:k=x.steps.length:=by omega
   rw [hke,atN_end] at hs1
   refine ⟨by omega,by simp -dsimp -implicitDefEqProofs only [go_sem,seval,hw],R1, ?_⟩
   refine ⟨by simp -dsimp -implicitDefEqProofs only [go_sem,seval,hs2],by simp -dsimp -implicitDefEqProofs only [go_sem,seval]; omega,hRl,fun j y hy => ?_⟩
   by_cases hjt:t=j
   ·subst hjt
    rw [hx] at hy; cases hy
    exact ⟨_,hrt, .inl ⟨by omega,k1,rfl,by simp -dsimp -implicitDefEqProofs only [go_sem,seval]; omega,by omega,by simp -dsimp -implicitDefEqProofs only [go_sem,seval,hs1]⟩⟩
   ·obtain ⟨r,hr',hra⟩:=hR.row j y hy
    refine ⟨r,by rw [hR1,List.getElem?_set,if_neg hjt]; exact hr', ?_⟩
    rcases hra with ⟨h1,k2,h2,h3,h4,h5⟩ | ⟨h1,h2⟩
    ·refine .inl ⟨by omega,k2,h2,by simp -dsimp -implicitDefEqProofs only [go_sem,seval]; omega,h4, ?_⟩
     have:=(hlow k2 h3 h4).trans h5
     simp -dsimp -implicitDefEqProofs only [go_sem,seval,this]
    ·exact .inr ⟨by omega,h2⟩
 ·have hte:t=p.threads.length:=by omega
  have htr:=eq_false h
  have tq:toT H 1000 (.ms ko 0 p.threads.length)=some (.sl ((atomP kd p).threads.map Thread.enc)):=by
   have hl:=hR.len
   refine toT_ms (r:=rows) hR.at_ (by unfold rd; rw [if_pos (by omega),List.drop_zero,List.take_of_length_le (by omega)]) ?_
   refine mapM_some_of _ _ _ (fun j r hr => ?_) (by simp [atomP,hl])
   have hj:j<p.threads.length:=by have:=(List.getElem?_eq_some_iff.1 hr).1; omega
   obtain ⟨y,hy,_⟩:=get_of hj
   obtain ⟨r',h1,h2⟩:=hR.row j y hy
   rw [hr] at h1; cases h1
   rw [List.getElem?_map,atom_get,hy]
   rcases h2 with ⟨h3,k2,rfl,h5,h6,h7⟩ | ⟨h3,_⟩
   ·refine ⟨_,rfl, ?_⟩
    have tk:toT H 999 (.ms k2 0 y.steps.length)=some (.sl ((y.steps.map (atomS kd)).map Step.enc)):=own_rows Step.enc (fun s t ht=>by
     simp only [Step.enc,Expr.enc_eq,List.cons_append,List.nil_append,List.mem_cons,List.not_mem_nil,or_false] at ht
     rcases ht with rfl | rfl | rfl | rfl | rfl | rfl | rfl | rfl | rfl | rfl | rfl <;> rfl) (y.steps.map (atomS kd)) h7 (by simp)
    simp [toT_t,T.norm,tk,Thread.enc,atomT]
   ·omega
  have e1:(atomP kd p).cells=p.cells:=rfl
  have e2:(atomP kd p).modules=p.modules:=rfl
  have e3:(atomP kd p).locks=p.locks:=rfl
  rw [e1,e2,e3]
  simp -dsimp -implicitDefEqProofs only [go_sem,seval,h6,htr, ↓tq]
set_option maxHeartbeats 2000000
theorem lawAtomics30_den (p:Prog) (hs:p.sane) (hl:p.lite7):Den Γ G 283 [(.agg [.t (.sl ((p).cells.map (Cell.enc))), .t (.sl ((p).modules.map (Contract.enc))), .t (.sl ((p).locks.map (Lock.enc))), .t (.sl ((p).threads.map (Thread.enc)))])]=some (vb true):=by
 have h0:=head30_den
 have h1:=fits_den p
 have hv:=validP7_den p hs
 (refine den_ofY Γ283 rfl ?_; dsimp only [f283])
 cases hf:fits30 p
 ·rw [hf] at h1
  simp -dsimp -implicitDefEqProofs only [go_sem,seval,h0,h1,hv]
 ·rw [hf] at h1
  by_cases hok:(validM p).1=0
  ·have hS:=fits_small hf
   have a3:=atomic_den p hS 3
   have a2:=atomic_den p hS 2
   have s3:=atom_small (k:=3) hS
   have s2:=atom_small (k:=2) hS
   have l3:=atom_lite (k:=3) hl
   have l2:=atom_lite (k:=2) hl
   have r1:=robust_den (atomP 3 p) (s3.sane l3) (small_set s3) 1
   have r2:=robust_den (atomP 3 p) (s3.sane l3) (small_set s3) 2
   have r3:=robust_den (atomP 2 p) (s2.sane l2) (small_set s2) 1
   rw [rob_store hok] at r1 r2
   rw [rob_load hok] at r3
   generalize atomP 3 p=Q3 at a3 r1 r2
   generalize atomP 2 p=Q2 at a2 r3
   simp -dsimp -implicitDefEqProofs only [go_sem,seval,h0,h1,hv,hok,a3,a2,r1,r2,r3]
  ·simp -dsimp -implicitDefEqProofs only [go_sem,seval,h0,h1,hv,hok]
end Rg
end
