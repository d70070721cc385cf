/- Part of the proof of the laws of the package relyguardlaw07: an abstract machine for the program's functions, what they compute, and that the machine is the program's. No condition. (H10b H10c H10d H10e H10f) -/
import Derived.Test.YtamaecmfhphpeaaGreatDoorPartAZ
set_option linter.unusedSimpArgs false
set_option linter.unusedVariables false
section
namespace Rg
open Go
theorem shl_one {w:Int} (h:0<=w/\w<=62):IntKind.i64.wrap (1*2^min w.toNat 64)=2^w.toNat:=by
 have:min w.toNat 64=w.toNat:=Nat.min_eq_left (by omega)
 rw [this,Int.one_mul]
 have h2:(2:Int)^w.toNat<=2^62:=pow2_le (by omega)
 have h3:=pow2_pos w.toNat
 exact wrap64 (by omega)
theorem u64_id {w:Int} (h:0<=w/\w<=62):IntKind.u64.wrap w=w:=by
 have h1:IntKind.u64.wrap w=w % 2^64:=by simp [IntKind.wrap,IntKind.signed,IntKind.bits]
 rw [h1]; omega
theorem cellsP_den (p:Prog) (hs:p.sane):Den Γ G 80 [(.agg [.t (.sl ((p).cells.map (Cell.enc))), .t (.sl ((p).modules.map (Contract.enc))), .t (.sl ((p).locks.map (Lock.enc))), .t (.sl ((p).threads.map (Thread.enc)))])]=some (vi (cellsM p)):=by
 (refine den_ofY Γ80 rfl ?_; dsimp only [f80])
 simp -dsimp -implicitDefEqProofs only [go_sem,seval]
 have hbi:=hs.cells
 refine loopYH 4611686018427385892 p.cells.length (fun i f h x=>(f 11).v=vi i/\h 2=some (.map (setS ((p.cells.take i).map Cell.name)))/\cellsM p=(feGo (cellErr p) i (p.cells.drop i)).1) rfl ⟨by simp -dsimp -implicitDefEqProofs only [go_sem,seval],by simp -dsimp -implicitDefEqProofs only [go_sem,seval]; rfl,rfl⟩ ?_
 rintro i f u hh x bs hi ⟨h11,hmap,hm⟩
 have hw:=wrapS i (by omega)
 simp -dsimp -implicitDefEqProofs only [go_sem,seval,h11]
 refine csplit (fun h => ?_) (fun h => ?_) <;> (try rw [h]) <;> (try simp only [bools] at h) <;> (try simp -dsimp -implicitDefEqProofs only [go_sem,seval,h11])
 ·obtain ⟨c,hc,hcm⟩:=get_of ‹i<p.cells.length›
  have hl:=labelP_den c.name
  have hb1:=below_den c.init (2^c.w.toNat)
  have hb2:=below_den c.thread p.threads.length
  have hb3:=below_den c.module p.modules.length
  have hbad:cellBad p c=true->cellsM p=1:=fun h0=>by
   have:cellErr p i c=1:=by simp [cellErr,h0]
   rw [hm,fe_stop hc (by simp [this])]; exact this
  by_cases hb:cellBad p c=true
  ·rw [hbad hb]
   by_cases hww:1<=c.w/\c.w<=8
   ·have s1:=shl_one (w:=c.w) (by omega)
    have s2:=u64_id (w:=c.w) (by omega)
    have s3 : ¬ c.w<0:=by omega
    simp -dsimp -implicitDefEqProofs only [go_sem,seval,h11,hc,hl]
    repeat' (refine csplit (fun h => ?_) (fun h => ?_) <;> (try rw [h]) <;> (try simp only [bools] at h) <;> (try simp -dsimp -implicitDefEqProofs only [go_sem,seval,h11,hb1,hb2,hb3,s1,s2,s3]))
    all_goals (exfalso; simp only [cellBad,inR,Bool.or_eq_true,Bool.not_eq_true',decide_eq_true_eq,decide_eq_false_iff_not] at *; simp_all; (try omega); done)
   ·have s3:c.w<1\/c.w>8:=by omega
    simp -dsimp -implicitDefEqProofs only [go_sem,seval,h11,hc,hl]
    refine csplit (fun h => ?_) (fun h => ?_) <;> (try rw [h]) <;> (try simp only [bools] at h) <;> (try simp -dsimp -implicitDefEqProofs only [go_sem,seval,h11])
    refine csplit (fun h => ?_) (fun h => ?_) <;> (try rw [h]) <;> (try simp only [bools] at h) <;> (try simp -dsimp -implicitDefEqProofs only [go_sem,seval,h11])
    refine csplit (fun h => ?_) (fun h => ?_) <;> (try rw [h]) <;> (try simp only [bools] at h) <;> (try simp -dsimp -implicitDefEqProofs only [go_sem,seval,h11])
    all_goals (exfalso; omega)
  ·have hb' : cellBad p c=false:=by simpa using hb
   obtain ⟨b1,b2,b3,b4,b5,b6,b7,b8⟩:=cellBad_parts hb'
   have s1:=shl_one (w:=c.w) (by omega)
   have s2:=u64_id (w:=c.w) (by omega)
   have s3 : ¬ c.w<0:=by omega
   have s4 : ¬ c.w<1:=by omega
   have s5 : ¬ c.w>8:=by omega
   have e1:inR c.init (2^c.w.toNat)=true:=by simp [inR]; omega
   rw [b1] at hl
   rw [e1] at hb1
   rw [b8] at hb3
   have hraw:=fun n=>taken_den 2 c.name ((p.cells.take i).map Cell.name) hh n hmap
   have hany:((p.cells.take i).map Cell.name).any (fun d=>d.toList==c.name.toList)=(p.cells.take i).any (fun d=>d.name.toList==c.name.toList):=by rw [List.any_map]; rfl
   have hcs : ∀ Q:Prop,(c.thread = -1->Q)->(¬ c.thread = -1->inR c.thread p.threads.length=true->Q)->Q:=fun Q q1 q2=>by
    by_cases h:c.thread = -1
    ·exact q1 h
    ·exact q2 h (by simp [inR]; omega)
   refine hcs _ (fun t1 => ?_) (fun t1 t2 => ?_)
   all_goals (
    (try rw [t2] at hb2)
    simp -dsimp -implicitDefEqProofs only [go_sem,seval,h11,hc,hl,hb1,hb2,hb3,s1,s2,s3,s4,s5,t1]
    refine rawK_of (hraw _) ?_
    rintro r h' n' ⟨rfl,hk'⟩
    rw [hany] at hk'
    simp -dsimp -implicitDefEqProofs only [go_sem,seval,h11,hany]
    refine csplit (fun h => ?_) (fun h => ?_) <;> (try rw [h]) <;> (try simp only [bools] at h) <;> (try simp -dsimp -implicitDefEqProofs only [go_sem,seval,h11])
    ·have:cellErr p i c=41:=by rw [cellErr,if_neg hb,if_pos h]
     rw [hm,fe_stop hc (by simp [this])]; exact this.symm
    ·refine ⟨by omega,by simp -dsimp -implicitDefEqProofs only [go_sem,seval,hw], ?_, ?_⟩
     ·have hk2:=hk' h
      simp -dsimp -implicitDefEqProofs only [go_sem,seval,hk2]
      rw [take_succ_of hc]; simp
     ·rw [hm,fe_step hc (by rw [cellErr,if_neg hb,if_neg (by simp [h])])])
 ·have:i=p.cells.length:=by omega
  subst this
  rw [hm,fe_end]
end Rg
end
section
namespace Rg
open Go
theorem sharedIs (p:Prog):IsF (.fa 100 [.sl (p.cells.map Cell.enc), .sl (p.modules.map Contract.enc), .sl (p.locks.map Lock.enc), .sl (p.threads.map Thread.enc)]) (ofThread p (-1)) :=
 isF_fa (by simp [T.norm]) (fun n=>sharedP_den p n)
theorem sees_shared (p:Prog) (c:Int):sees p (-1) c=ofThread p (-1) c:=by simp [sees]
theorem mayP_shared (p:Prog):mayP p true (-1)=ofThread p (-1):=by funext c; simp [mayP,sees_shared]
theorem mayP_sees (p:Prog) (t:Int):mayP p true t=sees p t:=by funext c; simp [mayP]
theorem mayP_own (p:Prog) (t:Int):mayP p false t=ofThread p t:=by funext c; simp [mayP]
theorem bitShared (p:Prog) (e:Expr) (pair:Bool):Den Γ G 99 [(.agg [.t (.sl ((p).cells.map (Cell.enc))), .t (.sl ((p).modules.map (Contract.enc))), .t (.sl ((p).locks.map (Lock.enc))), .t (.sl ((p).threads.map (Thread.enc)))]),(.agg [.t (ti (e).op), .t (ti (e).w), .t (ti (e).n), .t (.sl ((e).kids.map (Expr.enc)))]),vb pair, .t (.fa 100 [.sl (p.cells.map Cell.enc), .sl (p.modules.map Contract.enc), .sl (p.locks.map Lock.enc), .sl (p.threads.map Thread.enc)])]=some (vb (truthOk p e pair (-1))):=by
 rw [bitP_den p e pair _ _ (sharedIs p),truthOk,overOk,mayP_shared]
theorem modulesP_den (p:Prog) (hs:p.sane):Den Γ G 81 [(.agg [.t (.sl ((p).cells.map (Cell.enc))), .t (.sl ((p).modules.map (Contract.enc))), .t (.sl ((p).locks.map (Lock.enc))), .t (.sl ((p).threads.map (Thread.enc)))])]=some (vi (modulesM p)):=by
 (refine den_ofY Γ81 rfl ?_; dsimp only [f81])
 simp -dsimp -implicitDefEqProofs only [go_sem,seval]
 have hbi:=hs.modules
 refine loopYH 4611686018427385892 p.modules.length (fun i f h x=>(f 11).v=vi i/\h 2=some (.map (setS ((p.modules.take i).map Contract.name)))/\modulesM p=(feGo (modErr p) i (p.modules.drop i)).1) rfl ⟨by simp -dsimp -implicitDefEqProofs only [go_sem,seval],by simp -dsimp -implicitDefEqProofs only [go_sem,seval]; rfl,rfl⟩ ?_
 rintro i f u hh x bs hi ⟨h11,hmap,hm⟩
 have hw:=wrapS i (by omega)
 simp -dsimp -implicitDefEqProofs only [go_sem,seval,h11]
 refine csplit (fun h => ?_) (fun h => ?_) <;> (try rw [h]) <;> (try simp only [bools] at h) <;> (try simp -dsimp -implicitDefEqProofs only [go_sem,seval,h11])
 ·obtain ⟨c,hc,hcm⟩:=get_of ‹i<p.modules.length›
  obtain ⟨_,_,s3⟩:=hs.mname c hcm
  have hstop : ∀ k:Int,k≠0->modErr p i c=k->modulesM p=k:=fun k hk h0=>by
   rw [hm,fe_stop hc (by rw [h0]; exact hk)]; exact h0
  have hl:=labelP_den c.name
  have hl2:=labelP_den c.owner
  simp -dsimp -implicitDefEqProofs only [go_sem,seval,h11,hc,hl]
  refine csplit (fun h => ?_) (fun h => ?_) <;> (try rw [h]) <;> (try simp only [bools] at h) <;> (try simp -dsimp -implicitDefEqProofs only [go_sem,seval,h11,hl2])
  ·rw [hstop 1 (by decide) (by simp [modErr,h])]
  ·have e1:isLabel c.name=true:=by assumption
   refine csplit (fun h => ?_) (fun h => ?_) <;> (try rw [h]) <;> (try simp only [bools] at h) <;> (try simp -dsimp -implicitDefEqProofs only [go_sem,seval,h11])
   ·rw [hstop 1 (by decide) (by simp [modErr,h])]
   ·have e2:isLabel c.owner=true:=by assumption
    have hraw:=fun n=>taken_den 2 c.name ((p.modules.take i).map Contract.name) hh n hmap
    have hany:((p.modules.take i).map Contract.name).any (fun d=>d.toList==c.name.toList)=(p.modules.take i).any (fun d=>d.name.toList==c.name.toList):=by rw [List.any_map]; rfl
    refine rawK_of (hraw _) ?_
    rintro r h' n' ⟨rfl,hk'⟩
    rw [hany] at hk'
    simp -dsimp -implicitDefEqProofs only [go_sem,seval,h11,hany]
    have hab:=absentP_den c.rely
    have ht1:=bitShared p c.rely true
    have ht2:=bitShared p c.guar true
    refine csplit (fun h => ?_) (fun h => ?_) <;> (try rw [h]) <;> (try simp only [bools] at h) <;> (try simp -dsimp -implicitDefEqProofs only [go_sem,seval,h11,hab])
    ·rw [hstop 41 (by decide) (by rw [modErr,if_neg (by simp [e1,e2]),if_pos h])]
    ·have hme:modErr p i c=if (!c.rely.absent && !truthOk p c.rely true (-1)) || !truthOk p c.guar true (-1) then 60 else if !rising c.frame || !c.frame.all (ofThread p (-1)) then 1 else 0:=by
      rw [modErr,if_neg (by simp [e1,e2]),if_neg (by simp [h])]
     have hk2:=hk' h
     have hri:=increasing_den c.frame (by omega)
     have hwi:=within_den _ _ (sharedIs p) c.frame (by omega)
     repeat' (refine csplit (fun h => ?_) (fun h => ?_) <;> (try rw [h]) <;> (try simp only [bools] at h) <;> (try simp -dsimp -implicitDefEqProofs only [go_sem,seval,h11,ht1,ht2,hri,hwi]))
     all_goals first
      | (rw [hstop 60 (by decide) (by rw [hme]; simp [*])]; done)
      | (rw [hstop 1 (by decide) (by rw [hme]; simp [*])]; done)
      | (refine ⟨by omega,by simp -dsimp -implicitDefEqProofs only [go_sem,seval,hw], ?_, ?_⟩
         ·simp -dsimp -implicitDefEqProofs only [go_sem,seval,hk2]
          rw [take_succ_of hc]; simp
         ·rw [hm,fe_step hc (by rw [hme]; simp [*])])
 ·have:i=p.modules.length:=by omega
  subst this
  rw [hm,fe_end]
theorem ofThread_in {p:Prog} {t c:Int} (h:ofThread p t c=true):0<=c /\ ∃ x,p.cells[c.toNat]? = some x/\x.thread=t:=by
 unfold ofThread at h
 simp only [Bool.and_eq_true,decide_eq_true_eq] at h
 refine ⟨h.1, ?_⟩
 rcases hx:p.cells[c.toNat]? with _ | x
 ·rw [hx] at h; simp at h
 ·rw [hx] at h; exact ⟨x,rfl,by simpa using h.2⟩
theorem locksP_den (p:Prog) (hs:p.sane):Den Γ G 82 [(.agg [.t (.sl ((p).cells.map (Cell.enc))), .t (.sl ((p).modules.map (Contract.enc))), .t (.sl ((p).locks.map (Lock.enc))), .t (.sl ((p).threads.map (Thread.enc)))])]=some (vi (locksM p)):=by
 (refine den_ofY Γ82 rfl ?_; dsimp only [f82])
 simp -dsimp -implicitDefEqProofs only [go_sem,seval]
 have hbi:=hs.locks
 refine loopYH 9444732965739290419428 p.locks.length (fun i f h x=>(f 13).v=vi i/\h 2=some (.map (setI ((p.locks.take i).map Lock.cell)))/\locksM p=(feGo (lockErr p) i (p.locks.drop i)).1) rfl ⟨by simp -dsimp -implicitDefEqProofs only [go_sem,seval],by simp -dsimp -implicitDefEqProofs only [go_sem,seval]; rfl,rfl⟩ ?_
 rintro i f u hh x bs hi ⟨h13,hmap,hm⟩
 have hw:=wrapS i (by omega)
 simp -dsimp -implicitDefEqProofs only [go_sem,seval,h13]
 refine csplit (fun h => ?_) (fun h => ?_) <;> (try rw [h]) <;> (try simp only [bools] at h) <;> (try simp -dsimp -implicitDefEqProofs only [go_sem,seval,h13])
 ·obtain ⟨l,hl,hlm⟩:=get_of ‹i<p.locks.length›
  have hstop : ∀ k:Int,k≠0->lockErr p i l=k->locksM p=k:=fun k hk h0=>by
   rw [hm,fe_stop hl (by rw [h0]; exact hk)]; exact h0
  have hsh:=sharedP_den p l.cell
  have hb:=below_den l.module p.modules.length
  have ht:=bitShared p l.inv false
  have hany:((p.locks.take i).map Lock.cell).any (fun d=>decide (d=l.cell))=(p.locks.take i).any (fun d=>decide (d.cell=l.cell)):=by rw [List.any_map]; rfl
  have hfi:=findI l.cell ((p.locks.take i).map Lock.cell)
  rw [hany] at hfi
  simp -dsimp -implicitDefEqProofs only [go_sem,seval,h13,hl,hsh]
  refine csplit (fun h => ?_) (fun h => ?_) <;> (try rw [h]) <;> (try simp only [bools] at h) <;> (try simp -dsimp -implicitDefEqProofs only [go_sem,seval,h13])
  ·rw [hstop 1 (by decide) (by simp [lockErr,h])]
  ·have o1:ofThread p (-1) l.cell=true:=by assumption
   obtain ⟨d0,y,hy,_⟩:=ofThread_in o1
   have hc1:=cellIs_at (g:=fun x=>decide (x.w=1)) hy
   have hc2:=cellIs_at (g:=Cell.ghost) hy
   simp -dsimp -implicitDefEqProofs only [go_sem,seval,h13,hl,d0,hy]
   refine csplit (fun h => ?_) (fun h => ?_) <;> (try rw [h]) <;> (try simp only [bools] at h) <;> (try simp -dsimp -implicitDefEqProofs only [go_sem,seval,h13,hl,d0,hy])
   ·rw [hstop 1 (by decide) (by rw [lockErr,if_pos (by rw [hc1]; simp [h])])]
   ·have e1:y.w=1:=by assumption
    refine csplit (fun h => ?_) (fun h => ?_) <;> (try rw [h]) <;> (try simp only [bools] at h) <;> (try simp -dsimp -implicitDefEqProofs only [go_sem,seval,h13,hl,hmap,hfi,Option.getD_none,Option.getD_some,Option.isSome_none,Bool.false_eq_true,if_true,if_false])
    ·rw [hstop 1 (by decide) (by rw [lockErr,if_pos (by rw [hc2]; simp [h])])]
    ·have e2:y.ghost=false:=by assumption
     have hle:lockErr p i l=if !inR l.module p.modules.length then 1 else if (p.locks.take i).any (fun d=>decide (d.cell=l.cell)) then 1 else if !truthOk p l.inv false (-1) then 60 else 0:=by
      rw [lockErr,o1,hc1,hc2,e1,e2]; simp
     cases ha:(p.locks.take i).any (fun d=>decide (d.cell=l.cell))
     ·rw [ha] at hfi hany hle
      have hpu:=putI l.cell _ hany
      simp -dsimp -implicitDefEqProofs only [go_sem,seval,h13,hl,hmap,hfi,Option.getD_none,Option.getD_some,Option.isSome_none,Bool.false_eq_true,if_true,if_false,hb]
      refine csplit (fun h => ?_) (fun h => ?_) <;> (try rw [h]) <;> (try simp only [bools] at h) <;> (try simp -dsimp -implicitDefEqProofs only [go_sem,seval,h13,hl,hmap,hpu,ht])
      ·rw [hstop 1 (by decide) (by rw [hle]; simp [h])]
      ·have e3:inR l.module p.modules.length=true:=by assumption
       refine csplit (fun h => ?_) (fun h => ?_) <;> (try rw [h]) <;> (try simp only [bools] at h) <;> (try simp -dsimp -implicitDefEqProofs only [go_sem,seval,h13])
       ·rw [hstop 60 (by decide) (by rw [hle]; simp [h,e3])]
       ·refine ⟨by omega,by simp -dsimp -implicitDefEqProofs only [go_sem,seval,hw], ?_, ?_⟩
        ·simp -dsimp -implicitDefEqProofs only [go_sem,seval]
         rw [take_succ_of hl]; simp
        ·rw [hm,fe_step hl (by rw [hle]; simp [h,e3])]
     ·rw [ha] at hfi hle
      simp -dsimp -implicitDefEqProofs only [go_sem,seval,h13,hl,hmap,hfi,Option.getD_none,Option.getD_some,Option.isSome_none,Bool.false_eq_true,if_true,if_false]
      rw [hstop 1 (by decide) (by rw [hle]; simp)]
 ·have:i=p.locks.length:=by omega
  subst this
  rw [hm,fe_end]
def IsFo (F:T) (P:Int->Bool) (D:Int->Prop):Prop:=T.norm F=F /\ ∃ g a b,fnOf (.t F)=some (g,a,b)/\(∀ (h:Nat->Option O) (n:Int),(a++[vi n]++b).mapM (toT1 h)=some (a++[vi n]++b)) /\
 (∀ n:Int,(a++[vi n]++b).all V.tree=true) /\ ∀ n:Int,D n->Den Γ G g (a++[vi n]++b)=some (vb (P n))
theorem IsF.on {F:T} {P:Int->Bool} (h:IsF F P):IsFo F P (fun _=>True):=by
 obtain ⟨h1,g,a,b,h2,h3,h4,h5⟩:=h
 exact ⟨h1,g,a,b,h2,h3,h4,fun n _=>h5 n⟩
theorem targets_den (set:List Assign) (F:T) (P:Int->Bool) (D:Int->Prop) (hP:IsFo F P D) (hD : ∀ a∈set,D a.cell) (hl:set.length<2^40) :
 Den Γ G 162 [.t (.sl (set.map Assign.enc)), .t F]=some (vb (set.all fun a=>P a.cell)):=by
 (refine den_ofY Γ162 rfl ?_; dsimp only [f162])
 obtain ⟨_,g,a,b,hf,hm,ha,hd⟩:=hP
 have hK:=fnK_of hf
 simp -dsimp -implicitDefEqProofs only [go_sem,seval]
 refine loopY 523856 set.length (fun i f=>(f 9).v=vi i/\(set.all fun a=>P a.cell)=(set.drop i).all fun a=>P a.cell) rfl rfl ⟨by simp -dsimp -implicitDefEqProofs only [go_sem,seval],rfl⟩ ?_
 rintro i f u kk bb hi ⟨h9,hall⟩
 have hw:=wrapS i (by omega)
 simp -dsimp -implicitDefEqProofs only [go_sem,seval,h9]
 refine csplit (fun h => ?_) (fun h => ?_) <;> (try rw [h]) <;> (try simp only [bools] at h) <;> (try simp -dsimp -implicitDefEqProofs only [go_sem,seval,h9])
 ·obtain ⟨x,hx,hxm⟩:=get_of ‹i<set.length›
  have hdx:=hd x.cell (hD x hxm)
  simp -dsimp -implicitDefEqProofs only [go_sem,seval,h9,hx,hK,hm,ha,hdx]
  refine csplit (fun h => ?_) (fun h => ?_) <;> (try rw [h]) <;> (try simp only [bools] at h) <;> (try simp -dsimp -implicitDefEqProofs only [go_sem,seval,h9])
  ·rw [hall,all_stop hx h]
  ·refine ⟨by omega,by simp -dsimp -implicitDefEqProofs only [go_sem,seval,hw], ?_⟩
   rw [hall,all_step hx h]
 ·have:i=set.length:=by omega
  subst this
  rw [hall,all_end]
theorem valuesP_den (s:Step) (F:T) (P:Int->Bool) (hP:IsF F P) (hl:s.set.length<2^40) :
 Den Γ G 161 [(.agg [.t (ti (s).kind), .t (ti (s).fr), .t (ti (s).to), .t (ti ((s).guard).op), .t (ti ((s).guard).w), .t (ti ((s).guard).n), .t (.sl (((s).guard).kids.map Expr.enc)), .t (.sl ((s).set.map Assign.enc)), .t (tb (s).release), .t (ti (s).target), .t (ti (s).module)]), .t F]=some (vb (((s.guard.sup 3).all P&&(s.guard.sup 2).all P)&&s.set.all fun a=>(a.to.sup 3).all P&&(a.to.sup 2).all P)):=by
 (refine den_ofY Γ161 rfl ?_; dsimp only [f161])
 have hn:=hP.1
 simp only [T.norm] at hn
 have hg:=overP_den s.guard F P hP
 simp -dsimp -implicitDefEqProofs only [go_sem,seval,hg,hn]
 refine csplit (fun h => ?_) (fun h => ?_) <;> (try rw [h]) <;> (try simp only [bools] at h) <;> (try simp -dsimp -implicitDefEqProofs only [go_sem,seval])
 ·rw [h]; simp
 ·rw [h,Bool.true_and]
  refine loopY 33521744 s.set.length (fun i f=>(f 15).v=vi i/\(s.set.all fun a=>(a.to.sup 3).all P&&(a.to.sup 2).all P)=(s.set.drop i).all fun a=>(a.to.sup 3).all P&&(a.to.sup 2).all P) rfl rfl ⟨by simp -dsimp -implicitDefEqProofs only [go_sem,seval],rfl⟩ ?_
  rintro i f u kk bb hi ⟨h15,hall⟩
  have hw:=wrapS i (by omega)
  simp -dsimp -implicitDefEqProofs only [go_sem,seval,h15]
  refine csplit (fun h => ?_) (fun h => ?_) <;> (try rw [h]) <;> (try simp only [bools] at h) <;> (try simp -dsimp -implicitDefEqProofs only [go_sem,seval,h15])
  ·obtain ⟨x,hx,hxm⟩:=get_of ‹i<s.set.length›
   have hox:=overP_den x.to F P hP
   simp -dsimp -implicitDefEqProofs only [go_sem,seval,h15,hx,hox,hn]
   refine csplit (fun h => ?_) (fun h => ?_) <;> (try rw [h]) <;> (try simp only [bools] at h) <;> (try simp -dsimp -implicitDefEqProofs only [go_sem,seval,h15])
   ·rw [hall,all_stop hx h]
   ·refine ⟨by omega,by simp -dsimp -implicitDefEqProofs only [go_sem,seval,hw], ?_⟩
    rw [hall,all_step hx h]
  ·have:i=s.set.length:=by omega
   subst this
   rw [hall,all_end]
theorem bare_den (s:Step):Den Γ G 165 [(.agg [.t (ti (s).kind), .t (ti (s).fr), .t (ti (s).to), .t (ti ((s).guard).op), .t (ti ((s).guard).w), .t (ti ((s).guard).n), .t (.sl (((s).guard).kids.map Expr.enc)), .t (.sl ((s).set.map Assign.enc)), .t (tb (s).release), .t (ti (s).target), .t (ti (s).module)])]=some (vb (s.guard.one&&decide (s.set=[]))):=by
 (refine den_ofY Γ165 rfl ?_; dsimp only [f165])
 have h1:=one_den s.guard
 simp -dsimp -implicitDefEqProofs only [go_sem,seval,h1]
 refine csplit (fun h => ?_) (fun h => ?_) <;> (try rw [h]) <;> (try simp only [bools] at h) <;> (try simp -dsimp -implicitDefEqProofs only [go_sem,seval])
 ·rcases s.set with _ | ⟨a,r⟩
  ·simp
  ·simp; omega
 ·simp
theorem ownF (p:Prog) (t:Int):IsF (.fn 146 [] [progT p, .ip [ti t]]) (ofThread p t):=(ownIs p t).isF
theorem seesF (p:Prog) (t:Int):IsF (.fn 134 [] [progT p, .ip [.fn 146 [] [progT p, .ip [ti t]]]]) (sees p t):=(visibleIs p t).isF
theorem fitsLocal_den (p:Prog) (t:Int) (s:Step) (hl:s.set.length<2^40):Den Γ G 147 [(.agg [.t (.sl ((p).cells.map (Cell.enc))), .t (.sl ((p).modules.map (Contract.enc))), .t (.sl ((p).locks.map (Lock.enc))), .t (.sl ((p).threads.map (Thread.enc)))]),vi t,(.agg [.t (ti (s).kind), .t (ti (s).fr), .t (ti (s).to), .t (ti ((s).guard).op), .t (ti ((s).guard).w), .t (ti ((s).guard).n), .t (.sl (((s).guard).kids.map Expr.enc)), .t (.sl ((s).set.map Assign.enc)), .t (tb (s).release), .t (ti (s).target), .t (ti (s).module)])]=some (vb (valuesOk p s false t&&s.set.all fun a=>ofThread p t a.cell)):=by
 (refine den_ofY Γ147 rfl ?_; dsimp only [f147])
 have h1:=own_den p t
 have h2:Den Γ G 161 [(.agg [.t (ti (s).kind), .t (ti (s).fr), .t (ti (s).to), .t (ti ((s).guard).op), .t (ti ((s).guard).w), .t (ti ((s).guard).n), .t (.sl (((s).guard).kids.map Expr.enc)), .t (.sl ((s).set.map Assign.enc)), .t (tb (s).release), .t (ti (s).target), .t (ti (s).module)]), .t (.fn 146 [] [progT p, .ip [ti t]])]=some (vb (valuesOk p s false t)):=by
  rw [valuesP_den s _ _ (ownF p t) hl]; simp only [valuesOk,overOk,mayP_own]
 have h3:=targets_den s.set _ _ _ (ownF p t).on (fun _ _=>trivial) hl
 simp -dsimp -implicitDefEqProofs only [go_sem,seval,h1,h2]
 refine csplit (fun h => ?_) (fun h => ?_) <;> (try rw [h]) <;> (try simp only [bools] at h) <;> (try simp -dsimp -implicitDefEqProofs only [go_sem,seval,h3])
 ·simp
theorem fitsAtomic_den (p:Prog) (t:Int) (s:Step) (hl:s.set.length<2^40):Den Γ G 150 [(.agg [.t (.sl ((p).cells.map (Cell.enc))), .t (.sl ((p).modules.map (Contract.enc))), .t (.sl ((p).locks.map (Lock.enc))), .t (.sl ((p).threads.map (Thread.enc)))]),vi t,(.agg [.t (ti (s).kind), .t (ti (s).fr), .t (ti (s).to), .t (ti ((s).guard).op), .t (ti ((s).guard).w), .t (ti ((s).guard).n), .t (.sl (((s).guard).kids.map Expr.enc)), .t (.sl ((s).set.map Assign.enc)), .t (tb (s).release), .t (ti (s).target), .t (ti (s).module)])]=some (vb (valuesOk p s true t&&s.set.all fun a=>sees p t a.cell)):=by
 (refine den_ofY Γ150 rfl ?_; dsimp only [f150])
 have h1:=visible_den p t
 have h2:Den Γ G 161 [(.agg [.t (ti (s).kind), .t (ti (s).fr), .t (ti (s).to), .t (ti ((s).guard).op), .t (ti ((s).guard).w), .t (ti ((s).guard).n), .t (.sl (((s).guard).kids.map Expr.enc)), .t (.sl ((s).set.map Assign.enc)), .t (tb (s).release), .t (ti (s).target), .t (ti (s).module)]), .t (.fn 134 [] [progT p, .ip [.fn 146 [] [progT p, .ip [ti t]]]])]=some (vb (valuesOk p s true t)):=by
  rw [valuesP_den s _ _ (seesF p t) hl]; simp only [valuesOk,overOk,mayP_sees]
 have h3:=targets_den s.set _ _ _ (seesF p t).on (fun _ _=>trivial) hl
 simp -dsimp -implicitDefEqProofs only [go_sem,seval,h1,h2]
 refine csplit (fun h => ?_) (fun h => ?_) <;> (try rw [h]) <;> (try simp only [bools] at h) <;> (try simp -dsimp -implicitDefEqProofs only [go_sem,seval,h3])
 ·simp
theorem fitsFence_den (p:Prog) (t:Int) (s:Step):Den Γ G 151 [(.agg [.t (.sl ((p).cells.map (Cell.enc))), .t (.sl ((p).modules.map (Contract.enc))), .t (.sl ((p).locks.map (Lock.enc))), .t (.sl ((p).threads.map (Thread.enc)))]),vi t,(.agg [.t (ti (s).kind), .t (ti (s).fr), .t (ti (s).to), .t (ti ((s).guard).op), .t (ti ((s).guard).w), .t (ti ((s).guard).n), .t (.sl (((s).guard).kids.map Expr.enc)), .t (.sl ((s).set.map Assign.enc)), .t (tb (s).release), .t (ti (s).target), .t (ti (s).module)])]=some (vb (s.guard.one&&decide (s.set=[]))):=by
 (refine den_ofY Γ151 rfl ?_; dsimp only [f151])
 have h1:=bare_den s
 simp -dsimp -implicitDefEqProofs only [go_sem,seval,h1]
theorem fitsJoin_den (p:Prog) (t:Int) (s:Step):Den Γ G 153 [(.agg [.t (.sl ((p).cells.map (Cell.enc))), .t (.sl ((p).modules.map (Contract.enc))), .t (.sl ((p).locks.map (Lock.enc))), .t (.sl ((p).threads.map (Thread.enc)))]),vi t,(.agg [.t (ti (s).kind), .t (ti (s).fr), .t (ti (s).to), .t (ti ((s).guard).op), .t (ti ((s).guard).w), .t (ti ((s).guard).n), .t (.sl (((s).guard).kids.map Expr.enc)), .t (.sl ((s).set.map Assign.enc)), .t (tb (s).release), .t (ti (s).target), .t (ti (s).module)])]=some (vb (joinOk p t s)):=by
 (refine den_ofY Γ153 rfl ?_; dsimp only [f153])
 have h1:=bare_den s
 have h2:=below_den s.target p.threads.length
 simp -dsimp -implicitDefEqProofs only [go_sem,seval,h1]
 cases hb:(s.guard.one&&decide (s.set=[]))
 ·rw [hb] at h1
  simp -dsimp -implicitDefEqProofs only [go_sem,seval,h1]
  simp [joinOk,hb]
 ·rw [hb] at h1
  simp -dsimp -implicitDefEqProofs only [go_sem,seval,h1]
  refine csplit (fun h => ?_) (fun h => ?_) <;> (try rw [h]) <;> (try simp only [bools] at h) <;> (try simp -dsimp -implicitDefEqProofs only [go_sem,seval,h2])
  ·simp [joinOk,hb,h]
  ·simp [joinOk,hb,h]
theorem fitsSpawn_den (p:Prog) (t:Int) (s:Step):Den Γ G 152 [(.agg [.t (.sl ((p).cells.map (Cell.enc))), .t (.sl ((p).modules.map (Contract.enc))), .t (.sl ((p).locks.map (Lock.enc))), .t (.sl ((p).threads.map (Thread.enc)))]),vi t,(.agg [.t (ti (s).kind), .t (ti (s).fr), .t (ti (s).to), .t (ti ((s).guard).op), .t (ti ((s).guard).w), .t (ti ((s).guard).n), .t (.sl (((s).guard).kids.map Expr.enc)), .t (.sl ((s).set.map Assign.enc)), .t (tb (s).release), .t (ti (s).target), .t (ti (s).module)])]=some (vb (joinOk p t s&&asleepAt p s.target)):=by
 (refine den_ofY Γ152 rfl ?_; dsimp only [f152])
 have h1:=fitsJoin_den p t s
 simp -dsimp -implicitDefEqProofs only [go_sem,seval,h1]
 cases hb:joinOk p t s
 ·rw [hb] at h1
  simp -dsimp -implicitDefEqProofs only [go_sem,seval]
  simp
 ·have hr:inR s.target p.threads.length=true:=by
   simp only [joinOk,Bool.and_eq_true] at hb; exact hb.2
  simp only [inR,decide_eq_true_eq] at hr
  obtain ⟨t0,t1⟩:=hr
  obtain ⟨y,hy⟩ : ∃ y,p.threads[s.target.toNat]? = some y:=⟨_,List.getElem?_eq_getElem (by omega)⟩
  simp -dsimp -implicitDefEqProofs only [go_sem,seval,t0,hy]
  simp [asleepAt,hy]
theorem overOwn (p:Prog) (t:Int) (e:Expr):Den Γ G 108 [(.agg [.t (ti (e).op), .t (ti (e).w), .t (ti (e).n), .t (.sl ((e).kids.map (Expr.enc)))]), .t (.fn 146 [] [progT p, .ip [ti t]])]=some (vb (overOk p e false t)):=by
 rw [overP_den e _ _ (ownF p t),overOk,mayP_own]
theorem assign_all (r:List Assign):((r.map Assign.enc).all fun x=>decide (x.length=5))=true:=by
 simp [Assign.enc,Expr.enc_eq]
theorem pred_nat (n:Nat):(((n+1:Nat):Int)-1).toNat=n:=by omega
theorem take_map {α β:Type} (f:α->β) (r:List α):List.take r.length (r.map f)=r.map f:=List.take_of_length_le (by simp)
theorem fitsLoad_den (p:Prog) (t:Int) (s:Step) (hl:s.set.length<2^40) (hr:RangeOk p s):Den Γ G 148 [(.agg [.t (.sl ((p).cells.map (Cell.enc))), .t (.sl ((p).modules.map (Contract.enc))), .t (.sl ((p).locks.map (Lock.enc))), .t (.sl ((p).threads.map (Thread.enc)))]),vi t,(.agg [.t (ti (s).kind), .t (ti (s).fr), .t (ti (s).to), .t (ti ((s).guard).op), .t (ti ((s).guard).w), .t (ti ((s).guard).n), .t (.sl (((s).guard).kids.map Expr.enc)), .t (.sl ((s).set.map Assign.enc)), .t (tb (s).release), .t (ti (s).target), .t (ti (s).module)])]=some (vb (loadOk p t s)):=by
 (refine den_ofY Γ148 rfl ?_; dsimp only [f148])
 have h1:=own_den p t
 have hg:=overOwn p t s.guard
 rcases hs:s.set with _ | ⟨a,r⟩
 ·simp -dsimp -implicitDefEqProofs only [go_sem,seval,h1,hs]
  simp [loadOk,hs]
 ·have hne : ¬ (((r.length+1:Nat):Int)=0):=by omega
  have hle:(1:Int)<=((r.length+1:Nat):Int):=by omega
  have hK:loadOk p t s=(overOk p s.guard false t&&ofThread p t a.cell && !cellIs p a.cell Cell.ghost&&decide (a.to.op=2)&&ofThread p (-1) a.to.n && !cellIs p a.to.n Cell.ghost &&
   r.all fun b=>ofThread p t b.cell&&cellIs p b.cell Cell.ghost&&overOk p b.to false t):=by rw [loadOk,hs]
  have ham:a∈s.set:=by rw [hs]; simp
  obtain ⟨d0,x,hx⟩:=cell_in (hr.2 a ham).1
  have ho:=ownP_den p t a.cell
  have hgh:=ghost_den p a.cell x d0 hx
  have o2:=cellIs_at (g:=Cell.ghost) hx
  have hsh:=sharedP_den p a.to.n
  simp -dsimp -implicitDefEqProofs only [go_sem,seval,h1,hs,hne,hg]
  refine csplit (fun h => ?_) (fun h => ?_) <;> (try rw [h]) <;> (try simp only [bools] at h) <;> (try simp -dsimp -implicitDefEqProofs only [go_sem,seval,hs,ho,progT])
  ·rw [hK,h]; simp
  ·have e0:overOk p s.guard false t=true:=by assumption
   refine csplit (fun h => ?_) (fun h => ?_) <;> (try rw [h]) <;> (try simp only [bools] at h) <;> (try simp -dsimp -implicitDefEqProofs only [go_sem,seval,hgh,hs])
   ·rw [hK,h]; simp
   ·have e1:ofThread p t a.cell=true:=by assumption
    refine csplit (fun h => ?_) (fun h => ?_) <;> (try rw [h]) <;> (try simp only [bools] at h) <;> (try simp -dsimp -implicitDefEqProofs only [go_sem,seval,hs])
    ·rw [hK,o2,h]; simp
    ·have e2:x.ghost=false:=by assumption
     refine csplit (fun h => ?_) (fun h => ?_) <;> (try rw [h]) <;> (try simp only [bools] at h) <;> (try simp -dsimp -implicitDefEqProofs only [go_sem,seval,hsh])
     ·rw [hK]; simp [h]
     ·have e3:a.to.op=2:=by assumption
      obtain ⟨d1,y,hy⟩:=cell_in (valid_cell (hr.2 a ham).2 e3)
      have hgh2:=ghost_den p a.to.n y d1 hy
      have q2:=cellIs_at (g:=Cell.ghost) hy
      refine csplit (fun h => ?_) (fun h => ?_) <;> (try rw [h]) <;> (try simp only [bools] at h) <;> (try simp -dsimp -implicitDefEqProofs only [go_sem,seval,hgh2])
      ·rw [hK,h]; simp
      ·have e4:ofThread p (-1) a.to.n=true:=by assumption
       refine csplit (fun h => ?_) (fun h => ?_) <;> (try rw [h]) <;> (try simp only [bools] at h) <;> (try simp -dsimp -implicitDefEqProofs only [go_sem,seval,hs,hle])
       ·rw [hK,q2,h]; simp
       ·rw [o2,q2,e0,e1,e2,e4,h] at hK
        simp only [e3,decide_true,Bool.not_false,Bool.and_true,Bool.true_and] at hK
        have t1:=assign_all r
        have t2:=pred_nat r.length
        have t3:=take_map Assign.enc r
        simp -dsimp -implicitDefEqProofs only [go_sem,seval,t1,t2,t3,Int.le_refl]
        refine loopY 2475879930996807960121837632 r.length (fun j f' => (f' 67).v=vi j/\loadOk p t s=(r.drop j).all fun b=>ofThread p t b.cell&&cellIs p b.cell Cell.ghost&&overOk p b.to false t) rfl rfl ⟨by simp -dsimp -implicitDefEqProofs only [go_sem,seval],hK⟩ ?_
        rintro j f' u' kk' bb' hj ⟨h67,hall⟩
        have hw' := wrapS j (by rw [hs] at hl; simp at hl; omega)
        simp -dsimp -implicitDefEqProofs only [go_sem,seval,h67]
        refine csplit (fun h => ?_) (fun h => ?_) <;> (try rw [h]) <;> (try simp only [bools] at h) <;> (try simp -dsimp -implicitDefEqProofs only [go_sem,seval,h67])
        ·obtain ⟨b,hb,hbr⟩:=get_of ‹j<r.length›
         obtain ⟨d2,z,hz⟩:=cell_in (hr.2 b (by rw [hs]; simp [hbr])).1
         have hob:=ownP_den p t b.cell
         have hgz:=ghost_den p b.cell z d2 hz
         have z2:=cellIs_at (g:=Cell.ghost) hz
         have hov:=overOwn p t b.to
         simp only [progT] at hov
         simp -dsimp -implicitDefEqProofs only [go_sem,seval,h67,hb,hob,progT]
         repeat' (refine csplit (fun h => ?_) (fun h => ?_) <;> (try rw [h]) <;> (try simp only [bools] at h) <;> (try simp -dsimp -implicitDefEqProofs only [go_sem,seval,h67,hgz,hov,progT]))
         all_goals first
          | (rw [hall,all_stop hb (by rw [z2]; simp [*])]; done)
          | (refine ⟨by omega,by simp -dsimp -implicitDefEqProofs only [go_sem,seval,hw'], ?_⟩
             rw [hall,all_step hb (by rw [z2]; simp [*])])
        ·have:j=r.length:=by omega
         subst this
         rw [hall,all_end]
theorem store1 (p:Prog) (t:Int):IsFo (.fn 164 [] [progT p, .ip [.fn 134 [] [progT p, .ip [.fn 146 [] [progT p, .ip [ti t]]]]]]) (fun c=>cellIs p c Cell.ghost&&sees p t c) (fun c=>inR c p.cells.length=true):=by
 have hb:IsP 134 [progT p, .ip [.fn 146 [] [progT p, .ip [ti t]]]] (sees p t):=visibleIs p t
 have hn : ∀ x∈[progT p, .ip [.fn 134 [] [progT p, .ip [.fn 146 [] [progT p, .ip [ti t]]]]]],T.norm x=x:=by simp [progT,T.norm]
 refine ⟨rfl,164,[],[progT p, .ip [.fn 134 [] [progT p, .ip [.fn 146 [] [progT p, .ip [ti t]]]]]].map V.t,rfl,fun hh n => ?_,fun n => ?_,fun n hin => ?_⟩
 ·exact toT1_trees hh (ti n::[progT p, .ip [.fn 134 [] [progT p, .ip [.fn 146 [] [progT p, .ip [ti t]]]]]]) (fun x hx=>(List.mem_cons.1 hx).elim (fun e=>by rw [e]; rfl) (hn x))
 ·exact trees_all (ti n::[progT p, .ip [.fn 134 [] [progT p, .ip [.fn 146 [] [progT p, .ip [ti t]]]]]])
 ·obtain ⟨d0,x,hx⟩:=cell_in hin
  have hgh:=ghost_den p n x d0 hx
  have o2:=cellIs_at (g:=Cell.ghost) hx
  have hd:=hb.2 n
  simp only [List.map_cons,List.map_nil,progT,List.nil_append,List.cons_append] at hd ⊢
  (refine den_ofY Γ164 rfl ?_; dsimp only [f164])
  simp -dsimp -implicitDefEqProofs only [go_sem,seval,hgh]
  refine csplit (fun h => ?_) (fun h => ?_) <;> (try rw [h]) <;> (try simp only [bools] at h) <;> (try simp -dsimp -implicitDefEqProofs only [go_sem,seval,hd])
  ·rw [o2,h]; simp
  ·rw [o2,h]; simp
theorem fitsStore_den (p:Prog) (t:Int) (s:Step) (hl:s.set.length<2^40) (hr:RangeOk p s):Den Γ G 149 [(.agg [.t (.sl ((p).cells.map (Cell.enc))), .t (.sl ((p).modules.map (Contract.enc))), .t (.sl ((p).locks.map (Lock.enc))), .t (.sl ((p).threads.map (Thread.enc)))]),vi t,(.agg [.t (ti (s).kind), .t (ti (s).fr), .t (ti (s).to), .t (ti ((s).guard).op), .t (ti ((s).guard).w), .t (ti ((s).guard).n), .t (.sl (((s).guard).kids.map Expr.enc)), .t (.sl ((s).set.map Assign.enc)), .t (tb (s).release), .t (ti (s).target), .t (ti (s).module)])]=some (vb (storeOk p t s)):=by
 (refine den_ofY Γ149 rfl ?_; dsimp only [f149])
 have h1:=own_den p t
 have hv:Den Γ G 161 [(.agg [.t (ti (s).kind), .t (ti (s).fr), .t (ti (s).to), .t (ti ((s).guard).op), .t (ti ((s).guard).w), .t (ti ((s).guard).n), .t (.sl (((s).guard).kids.map Expr.enc)), .t (.sl ((s).set.map Assign.enc)), .t (tb (s).release), .t (ti (s).target), .t (ti (s).module)]), .t (.fn 146 [] [progT p, .ip [ti t]])]=some (vb (valuesOk p s false t)):=by
  rw [valuesP_den s _ _ (ownF p t) hl]; simp only [valuesOk,overOk,mayP_own]
 by_cases he:s.set=[]
 ·simp -dsimp -implicitDefEqProofs only [go_sem,seval,h1,he]
  simp [storeOk,he]
 ·obtain ⟨a,r,hs⟩ : ∃ a r,s.set=a::r:=by
   rcases h:s.set with _ | ⟨a,r⟩
   ·exact absurd h he
   ·exact ⟨a,r,rfl⟩
  have hsl:s.set.length=r.length+1:=by rw [hs]; rfl
  have h0:s.set[0]? = some a:=by rw [hs]; rfl
  have hd1:List.drop 1 (s.set.map Assign.enc)=r.map Assign.enc:=by rw [hs]; rfl
  have hne : ¬ (((r.length+1:Nat):Int)=0):=by omega
  have hle:(1:Int)<=((r.length+1:Nat):Int):=by omega
  have hK:storeOk p t s=(valuesOk p s false t&&ofThread p (-1) a.cell && !cellIs p a.cell Cell.ghost&&r.all fun b=>cellIs p b.cell Cell.ghost&&sees p t b.cell):=by rw [storeOk,hs]
  have ham:a∈s.set:=by rw [hs]; simp
  obtain ⟨d0,x,hx⟩:=cell_in (hr.2 a ham).1
  have hgh:=ghost_den p a.cell x d0 hx
  have o2:=cellIs_at (g:=Cell.ghost) hx
  have hsh:=sharedP_den p a.cell
  have hvis:=visible_den p t
  have hta:=targets_den r _ _ _ (store1 p t) (fun b hb=>(hr.2 b (by rw [hs]; simp [hb])).1) (by omega)
  have t1:=assign_all s.set
  have t2:=pred_nat r.length
  have t3:=take_map Assign.enc r
  simp -dsimp -implicitDefEqProofs only [go_sem,seval,h1,hsl,hne,hv,h0]
  refine csplit (fun h => ?_) (fun h => ?_) <;> (try rw [h]) <;> (try simp only [bools] at h) <;> (try simp -dsimp -implicitDefEqProofs only [go_sem,seval,h0,hsh])
  ·rw [hK,h]; simp
  ·have e0:valuesOk p s false t=true:=by assumption
   refine csplit (fun h => ?_) (fun h => ?_) <;> (try rw [h]) <;> (try simp only [bools] at h) <;> (try simp -dsimp -implicitDefEqProofs only [go_sem,seval,hgh])
   ·rw [hK,h]; simp
   ·have e1:ofThread p (-1) a.cell=true:=by assumption
    refine csplit (fun h => ?_) (fun h => ?_) <;> (try rw [h]) <;> (try simp only [bools] at h) <;> (try simp -dsimp -implicitDefEqProofs only [go_sem,seval,hvis,hsl,hd1,t1,t2,t3,hle,Int.le_refl,hta])
    ·rw [hK,o2,h]; simp
    ·rw [o2,e0,e1,h] at hK
     simp only [Bool.not_false,Bool.and_true,Bool.true_and] at hK
     rw [hK]
     have hpt:T.ip [.sl (p.cells.map Cell.enc), .sl (p.modules.map Contract.enc), .sl (p.locks.map Lock.enc), .sl (p.threads.map Thread.enc)]=progT p:=rfl
     simp -dsimp -implicitDefEqProofs only [go_sem,seval,hpt,hta]
theorem kinds_den:Den Γ G 135 []=some (.agg [.t .nilf, .t (.fn 147 [] []), .t (.fn 148 [] []), .t (.fn 149 [] []), .t (.fn 150 [] []), .t (.fn 151 [] []), .t (.fn 152 [] []), .t (.fn 153 [] [])]):=by
 (refine den_ofY Γ135 rfl ?_; dsimp only [f135])
 simp -dsimp -implicitDefEqProofs only [go_sem,seval]
set_option maxHeartbeats 4000000 in
theorem stepP_den (p:Prog) (t:Int) (x:Thread) (hxp : -2^40<x.points/\x.points<2^40) (s:Step) (hlen:s.set.length<2^40) :
 Den Γ G 105 [(.agg [.t (.sl ((p).cells.map (Cell.enc))), .t (.sl ((p).modules.map (Contract.enc))), .t (.sl ((p).locks.map (Lock.enc))), .t (.sl ((p).threads.map (Thread.enc)))]),vi t,(.agg [.t (.str (x).name), .t (ti (x).points), .t (.sl ((x).asserts.map Expr.enc)), .t (ints (x).modules), .t (.sl ((x).steps.map Step.enc)), .t (.sl ((x).loops.map Loop.enc)), .t (tb (x).asleep)]),(.agg [.t (ti (s).kind), .t (ti (s).fr), .t (ti (s).to), .t (ti ((s).guard).op), .t (ti ((s).guard).w), .t (ti ((s).guard).n), .t (.sl (((s).guard).kids.map Expr.enc)), .t (.sl ((s).set.map Assign.enc)), .t (tb (s).release), .t (ti (s).target), .t (ti (s).module)])]=some (vi (stepErr p t x.points s)):=by
 (refine den_ofY Γ105 rfl ?_; dsimp only [f105])
 have hw1:IntKind.i64.wrap (x.points-1)=x.points-1:=wrap64 (by omega)
 have hi1:=below_den s.fr (x.points-1)
 have hi2:=below_den s.to x.points
 have hi3:=below_den s.module p.modules.length
 have hv:=validP_den s.guard p.cells false
 simp -dsimp -implicitDefEqProofs only [go_sem,seval]
 by_cases hbad:stepBad p x.points s=true
 ·rw [stepErr,if_pos hbad]
  repeat' (refine csplit (fun h => ?_) (fun h => ?_) <;> (try rw [h]) <;> (try simp only [bools] at h) <;> (try simp -dsimp -implicitDefEqProofs only [go_sem,seval,hw1,hi1,hi2,hi3]))
  all_goals (exfalso; simp only [stepBad,Bool.or_eq_true,Bool.and_eq_true,Bool.not_eq_true',decide_eq_true_eq] at hbad; simp_all; try omega)
 ·have hse:stepErr p t x.points s=if !s.guard.valid p.cells false||decide (s.guard.w≠1) then 60 else if ¬ (feGo (setErr p s.set) 0 s.set).1=0 then (feGo (setErr p s.set) 0 s.set).1 else if kindOk p t s then 0 else 70:=by rw [stepErr,if_neg hbad]
  have hb' : stepBad p x.points s=false:=by simpa using hbad
  simp only [stepBad,Bool.or_eq_false_iff,Bool.and_eq_false_iff,Bool.not_eq_false',decide_eq_false_iff_not] at hb'
  obtain ⟨⟨⟨⟨⟨⟨b1,b2⟩,b3⟩,b4⟩,b5⟩,b6⟩,b7⟩:=hb'
  rw [b3] at hi1
  rw [b4] at hi2
  rw [b5] at hi3
  have hcs : ∀ Q:Prop,(∀ (c3 c6 c7 r tz:Bool),decide (s.kind=6)=c6->decide (s.kind=7)=c7->decide (s.kind=3)=c3->s.release=r->decide (s.target=0)=tz ->
   ((c6=true/\r=false)\/(c6=false/\c7=true/\r=false)\/(c6=false/\c7=false/\tz=true/\r=false)\/(c6=false/\c7=false/\tz=true/\r=true/\c3=true))->Q)->Q:=fun Q q=>by
   refine q _ _ _ _ _ rfl rfl rfl rfl rfl ?_
   simp only [decide_eq_true_eq,decide_eq_false_iff_not]
   by_cases h6:s.kind=6 <;> by_cases h7:s.kind=7 <;> by_cases h3:s.kind=3 <;> cases hr:s.release <;> by_cases hz:s.target=0 <;> simp_all
  refine hcs _ (fun c3 c6 c7 r tz e6 e7 e3 er ez hc => ?_)
  have hmid:s.guard.valid p.cells false=true->s.guard.w=1->stepErr p t x.points s=if ¬ (feGo (setErr p s.set) 0 s.set).1=0 then (feGo (setErr p s.set) 0 s.set).1 else if kindOk p t s then 0 else 70:=fun g1 g2=>by rw [hse,if_neg (by simp [g1,g2])]
  have hg60:(s.guard.valid p.cells false=false \/ ¬ s.guard.w=1)->stepErr p t x.points s=60:=fun g=>by rw [hse,if_pos (by rcases g with g | g <;> simp [g])]
  have b1' : 1<=s.kind/\s.kind<=7:=by omega
  have e3' : (decide ¬ s.kind=3) = !c3:=by rw [<- e3]; simp
  have ez' : (decide ¬ s.target=0) = !tz:=by rw [<- ez]; simp
  rcases hc with ⟨rfl,rfl⟩ | ⟨rfl,rfl,rfl⟩ | ⟨rfl,rfl,rfl,rfl⟩ | ⟨rfl,rfl,rfl,rfl,rfl⟩
  all_goals (try cases tz)
  all_goals (try cases c3)
  all_goals (try (exfalso; simp only [decide_eq_true_eq] at e3 e6 e7; omega))
  all_goals (
   (try simp only [Bool.not_true,Bool.not_false] at e3' ez')
   simp -dsimp -implicitDefEqProofs only [go_sem,seval,hw1,hi1,hi2,hi3,b1,b2,e6,e7,e3',ez',er,hv]
   repeat' (refine csplit (fun h => ?_) (fun h => ?_) <;> (try rw [h]) <;> (try simp only [bools] at h) <;> (try simp -dsimp -implicitDefEqProofs only [go_sem,seval,hv])))
  all_goals (try (rw [hg60 (.inl ‹_›)]; done))
  all_goals (try (rw [hg60 (.inr ‹_›)]; done))
  all_goals (
   have hgv:s.guard.valid p.cells false=true:=by assumption
   have hgw:s.guard.w=1:=by assumption
   have hmid:=hmid hgv hgw
   clear hcs hg60 hse hv hi1 hi2 hi3 e3' ez' er e3 e6
   refine loopYH 2722258935367498036300439942420748071168 s.set.length (fun i f h y=>(f 83).v=vi i/\h 74=some (.map (setI ((s.set.take i).map Assign.cell)))/\feGo (setErr p s.set) 0 s.set=feGo (setErr p s.set) i (s.set.drop i)) rfl ⟨by simp -dsimp -implicitDefEqProofs only [go_sem,seval],by simp -dsimp -implicitDefEqProofs only [go_sem,seval]; rfl,rfl⟩ ?_
   rintro i f u hh y bs hi ⟨h83,hmap,hm⟩
   have hw:=wrapS i (by omega)
   simp -dsimp -implicitDefEqProofs only [go_sem,seval,h83]
   refine csplit (fun h => ?_) (fun h => ?_) <;> (try rw [h]) <;> (try simp only [bools] at h) <;> (try simp -dsimp -implicitDefEqProofs only [go_sem,seval,h83])
   ·obtain ⟨a,ha,ham⟩:=get_of ‹i<s.set.length›
    have hi1:=below_den a.cell p.cells.length
    have hstop : ∀ k:Int,k≠0->setErr p s.set i a=k->stepErr p t x.points s=k:=fun k hk h0=>by
     have h2:=hm.trans (fe_stop ha (by rw [h0]; exact hk))
     rw [hmid,h2,h0,if_pos hk]
    have hany:((s.set.take i).map Assign.cell).any (fun d=>decide (d=a.cell))=(s.set.take i).any (fun d=>decide (d.cell=a.cell)):=by rw [List.any_map]; rfl
    have hfi:=findI a.cell ((s.set.take i).map Assign.cell)
    rw [hany] at hfi
    cases hc:(s.set.take i).any (fun d=>decide (d.cell=a.cell))
    ·rw [hc] at hfi hany
     have hpu:=putI a.cell _ hany
     simp -dsimp -implicitDefEqProofs only [go_sem,seval,h83,ha,hmap,hfi,Option.getD_none,Option.getD_some,Option.isSome_none,Bool.false_eq_true,if_true,if_false,hi1]
     cases hir:inR a.cell p.cells.length
     ·simp -dsimp -implicitDefEqProofs only [go_sem,seval,h83]
      rw [hstop 70 (by decide) (by simp [setErr,hir])]
     ·obtain ⟨d0,z,hz⟩:=cell_in hir
      have hv2:=validP_den a.to p.cells false
      have hci:=cellIs_at (g:=fun x=>decide (a.to.w=x.w)) hz
      have hsx:setErr p s.set i a=if !a.to.valid p.cells false || !cellIs p a.cell (fun x=>decide (a.to.w=x.w)) then 60 else 0:=by
       rw [setErr,if_neg (by rw [hir,hc]; simp)]
      rw [hci] at hsx
      simp -dsimp -implicitDefEqProofs only [go_sem,seval,h83,hmap,hpu,d0,hz]
      refine csplit (fun h => ?_) (fun h => ?_) <;> (try rw [h]) <;> (try simp only [bools] at h) <;> (try simp -dsimp -implicitDefEqProofs only [go_sem,seval,h83,hv2])
      ·rw [hstop 60 (by decide) (by rw [hsx]; simp [h])]
      ·have hvt:a.to.w=z.w:=by assumption
       refine csplit (fun h => ?_) (fun h => ?_) <;> (try rw [h]) <;> (try simp only [bools] at h) <;> (try simp -dsimp -implicitDefEqProofs only [go_sem,seval,h83])
       ·rw [hstop 60 (by decide) (by rw [hsx]; simp [h])]
       ·refine ⟨by omega,by simp -dsimp -implicitDefEqProofs only [go_sem,seval,hw], ?_, ?_⟩
        ·simp -dsimp -implicitDefEqProofs only [go_sem,seval]
         rw [take_succ_of ha]; simp
        ·rw [hm,fe_step ha (by rw [hsx]; simp [h,hvt])]
    ·rw [hc] at hfi
     simp -dsimp -implicitDefEqProofs only [go_sem,seval,h83,ha,hmap,hfi,Option.getD_none,Option.getD_some,Option.isSome_none,Bool.false_eq_true,if_true,if_false]
     rw [hstop 70 (by decide) (by rw [setErr,if_pos (by rw [hc]; simp)])]
   ·have:i=s.set.length:=by omega
    subst this
    rw [fe_end] at hm
    rw [hm,if_neg (by simp)] at hmid
    have hr:RangeOk p s:=⟨hgv,setErr_range (i:=0) (set:=s.set) (by rw [hm])⟩
    have hkk:=kinds_den
    have f1:=fitsLocal_den p t s hlen
    have f2:=fitsLoad_den p t s hlen hr
    have f3:=fitsStore_den p t s hlen hr
    have f4:=fitsAtomic_den p t s hlen
    have f5:=fitsFence_den p t s
    have f6:=fitsSpawn_den p t s
    have f7:=fitsJoin_den p t s
    have hks:s.kind=1\/s.kind=2\/s.kind=3\/s.kind=4\/s.kind=5\/s.kind=6\/s.kind=7:=by omega
    rw [hmid]
    clear hmid hm hmap
    rcases hks with k | k | k | k | k | k | k
    all_goals (try (exfalso; simp only [decide_eq_false_iff_not] at e7; omega))
    all_goals (
     simp only [k] at f1 f2 f3 f4 f5 f6 f7
     simp -dsimp -implicitDefEqProofs only [go_sem,seval,hkk,k,f1,f2,f3,f4,f5,f6,f7]
     refine csplit (fun h => ?_) (fun h => ?_) <;> (try rw [h]) <;> (try simp only [bools] at h) <;> (try simp -dsimp -implicitDefEqProofs only [go_sem,seval])
     all_goals (simp [kindOk,k,h])))
end Rg
end
