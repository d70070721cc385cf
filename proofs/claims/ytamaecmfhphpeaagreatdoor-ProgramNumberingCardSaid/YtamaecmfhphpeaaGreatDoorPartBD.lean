/- Part of the proof of the laws of the package relyguardlaw07: an abstract machine for the program's functions, what they compute, and that the machine is the program's. No condition. (H31c H13p H32e H30w H32g) -/
import Derived.Test.YtamaecmfhphpeaaGreatDoorPartBC
import Derived.Test.YtamaecmfhphpeaaGreatDoorPartAV
import Derived.Test.YtamaecmfhphpeaaGreatDoorPartBB
set_option linter.unusedSimpArgs false
set_option linter.unusedVariables false
section
set_option maxRecDepth 100000
namespace Rg
open Go
def exS (L:Int) (e:Expr):Bool:=decide ((e.size:Int)<=L)
def stepSmall (L:Int) (s:Step):Bool:=decide ((s.set.length:Int)<=40)&&exS L s.guard&&s.set.all fun a=>exS L a.to
def loopSmall (L:Int) (l:Loop):Bool:=decide ((l.body.length:Int)<=60)&&exS L l.variant
def modSmall (L:Int) (m:Contract):Bool:=exS L m.rely&&exS L m.guar&&decide ((m.frame.length:Int)<=60)
def thrSmall (L:Int) (x:Thread):Bool:=(decide ((x.asserts.length:Int)<=60)&&decide ((x.modules.length:Int)<=60)&&decide ((x.steps.length:Int)<=80)&&decide ((x.loops.length:Int)<=12)) &&
 x.asserts.all (exS L)&&x.steps.all (stepSmall L)&&x.loops.all (loopSmall L)
def progSmall (L:Int) (p:Prog):Bool:=(decide ((p.cells.length:Int)<=40)&&decide ((p.modules.length:Int)<=10)&&decide ((p.locks.length:Int)<=10)&&decide ((p.threads.length:Int)<=8)) &&
 p.modules.all (modSmall L)&&p.locks.all (fun l=>exS L l.inv)&&p.threads.all (thrSmall L)
theorem times_den (l:List Int) (x:Int) (hl:l.length<2^40):Den Γ G 231 [.t (ints l),vi x]=some (vi (l.countP fun y=>decide (y=x))):=by
 (refine den_ofY Γ231 rfl ?_; dsimp only [f231])
 simp -dsimp -implicitDefEqProofs only [go_sem,seval]
 refine loopY 2097120 l.length (fun i f=>(f 6).v=vi i/\(f 5).v=vi ((l.take i).countP fun y=>decide (y=x))) rfl rfl ⟨by simp -dsimp -implicitDefEqProofs only [go_sem,seval],by simp -dsimp -implicitDefEqProofs only [go_sem,seval,List.take_zero,List.countP_nil]⟩ ?_
 rintro i f u kk bb hi ⟨h6,h5⟩
 have hw:=wrapS i (by omega)
 have hcl:(l.take i).countP (fun y=>decide (y=x))<=l.length:=Nat.le_trans List.countP_le_length (by simp; omega)
 have hw2:=wrapS ((l.take i).countP fun y=>decide (y=x)) (by omega)
 simp -dsimp -implicitDefEqProofs only [go_sem,seval,h6,h5]
 refine csplit (fun h => ?_) (fun h => ?_) <;> (try rw [h]) <;> (try simp only [bools] at h) <;> (try simp -dsimp -implicitDefEqProofs only [go_sem,seval,h6,h5])
 ·obtain ⟨y,hy,_⟩:=get_of ‹i<l.length›
  have hs:(l.take (i+1)).countP (fun y=>decide (y=x))=(l.take i).countP (fun y=>decide (y=x))+if y=x then 1 else 0:=by
   rw [take_succ_of hy,List.countP_append]
   by_cases h:y=x <;> simp [h]
  simp -dsimp -implicitDefEqProofs only [go_sem,seval,h6,h5,hy]
  refine csplit (fun h => ?_) (fun h => ?_) <;> (try rw [h]) <;> (try simp only [bools] at h) <;> (try simp -dsimp -implicitDefEqProofs only [go_sem,seval,h6,h5])
  ·rw [if_pos (by simpa using h)] at hs
   exact ⟨by omega,by simp -dsimp -implicitDefEqProofs only [go_sem,seval,hw],by simp -dsimp -implicitDefEqProofs only [go_sem,seval,hw2,hs]⟩
  ·rw [if_neg (by simpa using h)] at hs
   exact ⟨by omega,by simp -dsimp -implicitDefEqProofs only [go_sem,seval,hw],by simp -dsimp -implicitDefEqProofs only [go_sem,seval,h5,hs]; rfl⟩
 ·have:i=l.length:=by omega
  subst this
  rw [List.take_length]
theorem smallThread_den (x:Thread) (L:Int) (hL:0<=L/\L<10000):Den Γ G 239 [(.agg [.t (.str (x).name), .t (ti (x).points), .t (.sl ((x).asserts.map Expr.enc)), .t (ints (x).modules), .t (.sl ((x).steps.map Step.enc)), .t (.sl ((x).loops.map Loop.enc)), .t (tb (x).asleep)]),vi L]=some (vb (thrSmall L x)):=by
 (refine den_ofY Γ239 rfl ?_; dsimp only [f239])
 by_cases c1:(60:Int)<x.asserts.length
 ·have hr:thrSmall L x=false:=by simp [thrSmall]; intros; omega
  simp -dsimp -implicitDefEqProofs only [go_sem,seval,c1,decide_true,hr]
 by_cases c2:(60:Int)<x.modules.length
 ·have hr:thrSmall L x=false:=by simp [thrSmall]; intros; omega
  simp -dsimp -implicitDefEqProofs only [go_sem,seval,c1,c2,decide_true,decide_false,hr]
 by_cases c3:(80:Int)<x.steps.length
 ·have hr:thrSmall L x=false:=by simp [thrSmall]; intros; omega
  simp -dsimp -implicitDefEqProofs only [go_sem,seval,c1,c2,c3,decide_true,decide_false,hr]
 by_cases c4:(12:Int)<x.loops.length
 ·have hr:thrSmall L x=false:=by simp [thrSmall]; intros; omega
  simp -dsimp -implicitDefEqProofs only [go_sem,seval,c1,c2,c3,c4,decide_true,decide_false,hr]
 have hr:thrSmall L x=(x.asserts.all (exS L)&&(x.steps.all (stepSmall L)&&x.loops.all (loopSmall L))):=by
  have e1:(x.asserts.length:Int)<=60:=by omega
  have e2:(x.modules.length:Int)<=60:=by omega
  have e3:(x.steps.length:Int)<=80:=by omega
  have e4:(x.loops.length:Int)<=12:=by omega
  simp [thrSmall,e1,e2,e3,e4,Bool.and_assoc]
 rw [hr]
 simp -dsimp -implicitDefEqProofs only [go_sem,seval,c1,c2,c3,c4,decide_false]
 refine loopY 70366596694064 x.asserts.length (fun i f=>(f 5).v=vi i/\x.asserts.all (exS L)=(x.asserts.drop i).all (exS L)) rfl rfl ⟨by simp -dsimp -implicitDefEqProofs only [go_sem,seval],rfl⟩ ?_
 rintro i f u kk bq hi ⟨h5,hall⟩
 have hw:=wrapS i (by omega)
 simp -dsimp -implicitDefEqProofs only [go_sem,seval,h5]
 refine csplit (fun h => ?_) (fun h => ?_) <;> (try rw [h]) <;> (try simp only [bools] at h) <;> (try simp -dsimp -implicitDefEqProofs only [go_sem,seval,h5])
 ·obtain ⟨a,ha,_⟩:=get_of ‹i<x.asserts.length›
  have h2:=small_den a L hL
  simp -dsimp -implicitDefEqProofs only [go_sem,seval,h5,ha,h2]
  refine csplit (fun h => ?_) (fun h => ?_) <;> (try rw [h]) <;> (try simp only [bools] at h) <;> (try simp -dsimp -implicitDefEqProofs only [go_sem,seval,h5])
  ·rw [hall,all_stop (P:=exS L) ha (by simpa [exS] using h),Bool.false_and]
  ·refine ⟨by omega,by simp -dsimp -implicitDefEqProofs only [go_sem,seval,hw], ?_⟩
   rw [hall,all_step (P:=exS L) ha (by simpa [exS] using h)]
 ·have:i=x.asserts.length:=by omega
  subst this
  rw [hall,all_end,Bool.true_and]
  clear hall h5 hw hi
  refine loopY 79228162514264267224799772880 x.steps.length (fun i f=>(f 6).v=vi i/\x.steps.all (stepSmall L)=(x.steps.drop i).all (stepSmall L)) rfl rfl ⟨by simp -dsimp -implicitDefEqProofs only [go_sem,seval],rfl⟩ ?_
  rintro i f u kk bq hi ⟨h6,hall⟩
  have hw:=wrapS i (by omega)
  simp -dsimp -implicitDefEqProofs only [go_sem,seval,h6]
  refine csplit (fun h => ?_) (fun h => ?_) <;> (try rw [h]) <;> (try simp only [bools] at h) <;> (try simp -dsimp -implicitDefEqProofs only [go_sem,seval,h6])
  ·obtain ⟨s,hs,_⟩:=get_of ‹i<x.steps.length›
   have h2:=small_den s.guard L hL
   by_cases c5:(40:Int)<s.set.length
   ·have hr:stepSmall L s=false:=by simp [stepSmall]; intros; omega
    simp -dsimp -implicitDefEqProofs only [go_sem,seval,h6,hs,h2,c5,decide_true]
    rw [hall,all_stop hs hr,Bool.false_and]
   ·simp -dsimp -implicitDefEqProofs only [go_sem,seval,h6,hs,h2,c5,decide_false]
    refine csplit (fun h => ?_) (fun h => ?_) <;> (try rw [h]) <;> (try simp only [bools] at h) <;> (try simp -dsimp -implicitDefEqProofs only [go_sem,seval,h6])
    ·have hr:stepSmall L s=false:=by simp [stepSmall,exS]; intros; omega
     rw [hall,all_stop hs hr,Bool.false_and]
    ·have hr:stepSmall L s=s.set.all fun a=>exS L a.to:=by
      have e1:(s.set.length:Int)<=40:=by omega
      have e2:exS L s.guard=true:=by unfold exS; simpa using h
      simp [stepSmall,e1,e2]
     refine loopY 79228157791897854723898736784 s.set.length (fun j f=>(f 7).v=vi j/\stepSmall L s=(s.set.drop j).all fun a=>exS L a.to) rfl rfl ⟨by simp -dsimp -implicitDefEqProofs only [go_sem,seval],hr⟩ ?_
     rintro j f1 u1 k1 b1 hj ⟨h7,hset⟩
     have hwj:=wrapS j (by omega)
     simp -dsimp -implicitDefEqProofs only [go_sem,seval,h6,h7,hs]
     refine csplit (fun h => ?_) (fun h => ?_) <;> (try rw [h]) <;> (try simp only [bools] at h) <;> (try simp -dsimp -implicitDefEqProofs only [go_sem,seval,h6,h7])
     ·obtain ⟨a,ha,_⟩:=get_of ‹j<s.set.length›
      have h3:=small_den a.to L hL
      simp -dsimp -implicitDefEqProofs only [go_sem,seval,h6,h7,hs,ha,h3]
      refine csplit (fun h => ?_) (fun h => ?_) <;> (try rw [h]) <;> (try simp only [bools] at h) <;> (try simp -dsimp -implicitDefEqProofs only [go_sem,seval,h6,h7])
      ·rw [all_stop (P:=fun a=>exS L a.to) ha (by simpa [exS] using h)] at hset
       rw [hall,all_stop hs hset,Bool.false_and]
      ·refine ⟨by omega,by simp -dsimp -implicitDefEqProofs only [go_sem,seval,hwj], ?_⟩
       rw [hset,all_step (P:=fun a=>exS L a.to) ha (by simpa [exS] using h)]
     ·have:j=s.set.length:=by omega
      subst this
      rw [all_end] at hset
      refine ⟨by omega,by simp -dsimp -implicitDefEqProofs only [go_sem,seval,hw], ?_⟩
      rw [hall,all_step hs hset]
  ·have:i=x.steps.length:=by omega
   subst this
   rw [hall,all_end,Bool.true_and]
   clear hall h6 hw hi
   refine loopY 5316911903911500977350890647577428240 x.loops.length (fun i f=>(f 8).v=vi i/\x.loops.all (loopSmall L)=(x.loops.drop i).all (loopSmall L)) rfl rfl ⟨by simp -dsimp -implicitDefEqProofs only [go_sem,seval],rfl⟩ ?_
   rintro i f u kk bq hi ⟨h8,hall⟩
   have hw:=wrapS i (by omega)
   simp -dsimp -implicitDefEqProofs only [go_sem,seval,h8]
   refine csplit (fun h => ?_) (fun h => ?_) <;> (try rw [h]) <;> (try simp only [bools] at h) <;> (try simp -dsimp -implicitDefEqProofs only [go_sem,seval,h8])
   ·obtain ⟨l,hl,_⟩:=get_of ‹i<x.loops.length›
    have h2:=small_den l.variant L hL
    by_cases c5:(60:Int)<l.body.length
    ·have hr:loopSmall L l=false:=by simp [loopSmall]; intros; omega
     simp -dsimp -implicitDefEqProofs only [go_sem,seval,h8,hl,h2,c5,decide_true]
     rw [hall,all_stop hl hr]
    ·simp -dsimp -implicitDefEqProofs only [go_sem,seval,h8,hl,h2,c5,decide_false]
     refine csplit (fun h => ?_) (fun h => ?_) <;> (try rw [h]) <;> (try simp only [bools] at h) <;> (try simp -dsimp -implicitDefEqProofs only [go_sem,seval,h8])
     ·have hr:loopSmall L l=false:=by simp [loopSmall,exS]; intros; omega
      rw [hall,all_stop hl hr]
     ·have hr:loopSmall L l=true:=by
       have e1:(l.body.length:Int)<=60:=by omega
       have e2:exS L l.variant=true:=by unfold exS; simpa using h
       simp [loopSmall,e1,e2]
      refine ⟨by omega,by simp -dsimp -implicitDefEqProofs only [go_sem,seval,hw], ?_⟩
      rw [hall,all_step hl hr]
   ·have:i=x.loops.length:=by omega
    subst this
    rw [hall,all_end]
theorem small7_den (p:Prog) (L:Int) (hL:0<=L/\L<10000):Den Γ G 217 [(.agg [.t (.sl ((p).cells.map (Cell.enc))), .t (.sl ((p).modules.map (Contract.enc))), .t (.sl ((p).locks.map (Lock.enc))), .t (.sl ((p).threads.map (Thread.enc)))]),vi L]=some (vb (progSmall L p)):=by
 (refine den_ofY Γ217 rfl ?_; dsimp only [f217])
 by_cases c1:(40:Int)<p.cells.length
 ·have hr:progSmall L p=false:=by simp [progSmall]; intros; omega
  simp -dsimp -implicitDefEqProofs only [go_sem,seval,c1,decide_true,hr]
 by_cases c2:(10:Int)<p.modules.length
 ·have hr:progSmall L p=false:=by simp [progSmall]; intros; omega
  simp -dsimp -implicitDefEqProofs only [go_sem,seval,c1,c2,decide_true,decide_false,hr]
 by_cases c3:(10:Int)<p.locks.length
 ·have hr:progSmall L p=false:=by simp [progSmall]; intros; omega
  simp -dsimp -implicitDefEqProofs only [go_sem,seval,c1,c2,c3,decide_true,decide_false,hr]
 by_cases c4:(8:Int)<p.threads.length
 ·have hr:progSmall L p=false:=by simp [progSmall]; intros; omega
  simp -dsimp -implicitDefEqProofs only [go_sem,seval,c1,c2,c3,c4,decide_true,decide_false,hr]
 have hr:progSmall L p=(p.modules.all (modSmall L)&&(p.locks.all (fun l=>exS L l.inv)&&p.threads.all (thrSmall L))):=by
  have e1:(p.cells.length:Int)<=40:=by omega
  have e2:(p.modules.length:Int)<=10:=by omega
  have e3:(p.locks.length:Int)<=10:=by omega
  have e4:(p.threads.length:Int)<=8:=by omega
  simp [progSmall,e1,e2,e3,e4,Bool.and_assoc]
 rw [hr]
 simp -dsimp -implicitDefEqProofs only [go_sem,seval,c1,c2,c3,c4,decide_false]
 refine loopY 2305843007066210416 p.modules.length (fun i f=>(f 5).v=vi i/\p.modules.all (modSmall L)=(p.modules.drop i).all (modSmall L)) rfl rfl ⟨by simp -dsimp -implicitDefEqProofs only [go_sem,seval],rfl⟩ ?_
 rintro i f u kk bq hi ⟨h5,hall⟩
 have hw:=wrapS i (by omega)
 simp -dsimp -implicitDefEqProofs only [go_sem,seval,h5]
 refine csplit (fun h => ?_) (fun h => ?_) <;> (try rw [h]) <;> (try simp only [bools] at h) <;> (try simp -dsimp -implicitDefEqProofs only [go_sem,seval,h5])
 ·obtain ⟨m,hm,_⟩:=get_of ‹i<p.modules.length›
  have h2:=small_den m.rely L hL
  have h3:=small_den m.guar L hL
  by_cases d1:(m.rely.size:Int)<=L
  ·by_cases d2:(m.guar.size:Int)<=L
   ·by_cases d3:(60:Int)<m.frame.length
    ·have hr:modSmall L m=false:=by simp [modSmall]; intros; omega
     simp -dsimp -implicitDefEqProofs only [go_sem,seval,h5,hm,h2,h3,d1,d2,d3,decide_true,decide_false]
     rw [hall,all_stop hm hr,Bool.false_and]
    ·have hr:modSmall L m=true:=by
      have e3:(m.frame.length:Int)<=60:=by omega
      simp [modSmall,exS,d1,d2,e3]
     simp -dsimp -implicitDefEqProofs only [go_sem,seval,h5,hm,h2,h3,d1,d2,d3,decide_true,decide_false]
     show _/\_
     refine ⟨by omega,by simp -dsimp -implicitDefEqProofs only [go_sem,seval,hw], ?_⟩
     rw [hall,all_step hm hr]
   ·have hr:modSmall L m=false:=by simp [modSmall,exS,d2]
    simp -dsimp -implicitDefEqProofs only [go_sem,seval,h5,hm,h2,h3,d1,d2,decide_true,decide_false]
    rw [hall,all_stop hm hr,Bool.false_and]
  ·have hr:modSmall L m=false:=by simp [modSmall,exS,d1]
   simp -dsimp -implicitDefEqProofs only [go_sem,seval,h5,hm,h2,h3,d1,decide_true,decide_false]
   rw [hall,all_stop hm hr,Bool.false_and]
 ·have:i=p.modules.length:=by omega
  subst this
  rw [hall,all_end,Bool.true_and]
  clear hall h5 hw hi
  refine loopY 151113421608819433144464 p.locks.length (fun i f=>(f 7).v=vi i/\p.locks.all (fun l=>exS L l.inv)=(p.locks.drop i).all (fun l=>exS L l.inv)) rfl rfl ⟨by simp -dsimp -implicitDefEqProofs only [go_sem,seval],rfl⟩ ?_
  rintro i f u kk bq hi ⟨h7,hall⟩
  have hw:=wrapS i (by omega)
  simp -dsimp -implicitDefEqProofs only [go_sem,seval,h7]
  refine csplit (fun h => ?_) (fun h => ?_) <;> (try rw [h]) <;> (try simp only [bools] at h) <;> (try simp -dsimp -implicitDefEqProofs only [go_sem,seval,h7])
  ·obtain ⟨l,hl,_⟩:=get_of ‹i<p.locks.length›
   have h2:=small_den l.inv L hL
   simp -dsimp -implicitDefEqProofs only [go_sem,seval,h7,hl,h2]
   refine csplit (fun h => ?_) (fun h => ?_) <;> (try rw [h]) <;> (try simp only [bools] at h) <;> (try simp -dsimp -implicitDefEqProofs only [go_sem,seval,h7])
   ·rw [hall,all_stop (P:=fun l:Lock=>exS L l.inv) hl (by simpa [exS] using h),Bool.false_and]
   ·refine ⟨by omega,by simp -dsimp -implicitDefEqProofs only [go_sem,seval,hw], ?_⟩
    rw [hall,all_step (P:=fun l:Lock=>exS L l.inv) hl (by simpa [exS] using h)]
  ·have:i=p.locks.length:=by omega
   subst this
   rw [hall,all_end,Bool.true_and]
   clear hall h7 hw hi
   refine loopY 4951609041414069270949658896 p.threads.length (fun i f=>(f 8).v=vi i/\p.threads.all (thrSmall L)=(p.threads.drop i).all (thrSmall L)) rfl rfl ⟨by simp -dsimp -implicitDefEqProofs only [go_sem,seval],rfl⟩ ?_
   rintro i f u kk bq hi ⟨h8,hall⟩
   have hw:=wrapS i (by omega)
   simp -dsimp -implicitDefEqProofs only [go_sem,seval,h8]
   refine csplit (fun h => ?_) (fun h => ?_) <;> (try rw [h]) <;> (try simp only [bools] at h) <;> (try simp -dsimp -implicitDefEqProofs only [go_sem,seval,h8])
   ·obtain ⟨x,hx,_⟩:=get_of ‹i<p.threads.length›
    have h2:=smallThread_den x L hL
    simp -dsimp -implicitDefEqProofs only [go_sem,seval,h8,hx,h2]
    refine csplit (fun h => ?_) (fun h => ?_) <;> (try rw [h]) <;> (try simp only [bools] at h) <;> (try simp -dsimp -implicitDefEqProofs only [go_sem,seval,h8])
    ·rw [hall,all_stop hx h]
    ·refine ⟨by omega,by simp -dsimp -implicitDefEqProofs only [go_sem,seval,hw], ?_⟩
     rw [hall,all_step hx h]
   ·have:i=p.threads.length:=by omega
    subst this
    rw [hall,all_end]
structure Prog.lite7 (p:Prog):Prop where
 cname : ∀ c∈p.cells,c.name.size<2^50
 mname : ∀ m∈p.modules,m.name.size<2^50/\m.owner.size<2^50
 tname : ∀ t∈p.threads,t.name.size<2^50
structure Prog.SmallP (p:Prog) (L:Int):Prop where
 cells:p.cells.length<=40
 modules:p.modules.length<=10
 locks:p.locks.length<=10
 threads:p.threads.length<=8
 mods : ∀ m∈p.modules,m.frame.length<=60/\(m.rely.size:Int)<=L/\(m.guar.size:Int)<=L
 lcks : ∀ l∈p.locks,(l.inv.size:Int)<=L
 thr : ∀ t∈p.threads,t.asserts.length<=60/\t.modules.length<=60/\t.steps.length<=80/\t.loops.length<=12/\(∀ e∈t.asserts,(e.size:Int)<=L)
 steps : ∀ t∈p.threads, ∀ s∈t.steps,s.set.length<=40/\(s.guard.size:Int)<=L /\ ∀ a∈s.set,(a.to.size:Int)<=L
 loops : ∀ t∈p.threads, ∀ l∈t.loops,l.body.length<=60/\(l.variant.size:Int)<=L
theorem progSmall_of {L:Int} {p:Prog} (h:progSmall L p=true):p.SmallP L:=by
 simp only [progSmall,modSmall,exS,thrSmall,stepSmall,loopSmall,Bool.and_eq_true,decide_eq_true_eq,List.all_eq_true] at h
 obtain ⟨⟨⟨⟨⟨⟨h1,h2⟩,h3⟩,h4⟩,h5⟩,h6⟩,h7⟩:=h
 refine ⟨by omega,by omega,by omega,by omega,fun m hm=>⟨by have:=(h5 m hm).2; omega,(h5 m hm).1.1,(h5 m hm).1.2⟩,h6,fun t ht => ?_,fun t ht s hs => ?_,fun t ht l hl => ?_⟩
 ·obtain ⟨⟨⟨⟨⟨⟨a,b⟩,c⟩,d⟩,e⟩,_⟩,_⟩:=h7 t ht
  exact ⟨by omega,by omega,by omega,by omega,e⟩
 ·obtain ⟨⟨⟨_,_⟩,e⟩,_⟩:=h7 t ht
  obtain ⟨⟨a,b⟩,c⟩:=e s hs
  exact ⟨by omega,b,c⟩
 ·obtain ⟨⟨⟨_,_⟩,_⟩,e⟩:=h7 t ht
  obtain ⟨a,b⟩:=e l hl
  exact ⟨by omega,b⟩
theorem Prog.SmallP.progSmall {L:Int} {p:Prog} (h:p.SmallP L):progSmall L p=true:=by
 simp only [Rg.progSmall,modSmall,exS,thrSmall,stepSmall,loopSmall,Bool.and_eq_true,decide_eq_true_eq,List.all_eq_true]
 have h1:=h.cells
 have h2:=h.modules
 have h3:=h.locks
 have h4:=h.threads
 refine ⟨⟨⟨⟨⟨⟨by omega,by omega⟩,by omega⟩,by omega⟩,fun m hm => ?_⟩,h.lcks⟩,fun t ht=>⟨⟨⟨?_,(h.thr t ht).2.2.2.2⟩,fun s hs => ?_⟩,fun l hl => ?_⟩⟩
 ·have:=h.mods m hm
  exact ⟨⟨this.2.1,this.2.2⟩,by omega⟩
 ·have:=h.thr t ht
  exact ⟨⟨⟨by omega,by omega⟩,by omega⟩,by omega⟩
 ·have:=h.steps t ht s hs
  exact ⟨⟨by omega,this.2.1⟩,this.2.2⟩
 ·have:=h.loops t ht l hl
  exact ⟨by omega,this.2⟩
theorem Prog.SmallP.sane {L:Int} {p:Prog} (hl:p.lite7) (h:p.SmallP L):p.sane:=by
 have h1:=h.cells
 have h2:=h.modules
 have h3:=h.locks
 have h4:=h.threads
 refine ⟨by omega,by omega,by omega,by omega,hl.cname, ?_, ?_, ?_, ?_⟩
 ·intro m hm
  have:=h.mods m hm
  exact ⟨(hl.mname m hm).1,(hl.mname m hm).2,by omega⟩
 ·intro t ht
  have:=h.thr t ht
  exact ⟨hl.tname t ht,by omega,by omega,by omega,by omega⟩
 ·intro t ht s hs
  have:=(h.steps t ht s hs).1
  omega
 ·intro t ht l hl
  have:=(h.loops t ht l hl).1
  omega
def good7M (L:Int) (p:Prog):Bool:=progSmall L p&&decide ((validM p).1=0)
theorem good7_den (p:Prog) (hl:p.lite7) (L:Int) (hL:0<=L/\L<10000):Den Γ G 230 [(.agg [.t (.sl ((p).cells.map (Cell.enc))), .t (.sl ((p).modules.map (Contract.enc))), .t (.sl ((p).locks.map (Lock.enc))), .t (.sl ((p).threads.map (Thread.enc)))]),vi L]=some (vb (good7M L p)):=by
 (refine den_ofY Γ230 rfl ?_; dsimp only [f230])
 have h1:=small7_den p L hL
 cases hs:progSmall L p
 ·rw [hs] at h1
  simp -dsimp -implicitDefEqProofs only [go_sem,seval,h1]
  rw [good7M,hs]; rfl
 ·rw [hs] at h1
  have h2:=validP7_den p ((progSmall_of hs).sane hl)
  simp -dsimp -implicitDefEqProofs only [go_sem,seval,h1,h2]
  rw [good7M,hs]; rfl
end Rg
end
section
namespace Rg
open Go
theorem lv_deep {x:Expr} : ∀ {d:Nat} {e:Expr},e.deep d=true->x∈e.lv->nodeOk x=true:=by
 intro d
 induction d with
 | zero=>intro e h; simp [Expr.deep] at h
 | succ d ih =>
  intro e h hx
  rw [Expr.lv_eq] at hx
  split at hx
  ·rw [List.mem_singleton.1 hx]; exact deep_node h
  ·obtain ⟨k,hk,hx⟩:=List.mem_flatMap.1 hx
   exact ih (deep_kid h hk) hx
theorem lv_allE {f:Expr->Bool} {x:Expr} : ∀ {e:Expr},e.allE f=true->x∈e.lv->f x=true:=by
 intro e
 induction e using Expr.ind with
 | _ e ih =>
  intro h hx
  rw [Expr.lv_eq] at hx
  split at hx
  ·rw [List.mem_singleton.1 hx]; exact Expr.allE_self h
  ·obtain ⟨k,hk,hx⟩:=List.mem_flatMap.1 hx
   exact ih k hk (Expr.allE_kid h hk) hx
theorem compactUp_sorted (zs:List Int) (hs:zs.Pairwise (· <= ·)) (m:Nat) (hm:m<=zs.length):(Go.Lib.compactUpTo zs.toArray m).Pairwise (· < ·):=by
 have hget : ∀ i j:Nat,i<=j->j<zs.length->zs.toArray[i]! <= zs.toArray[j]! := by
  intro i j hij hj
  rw [getElem!_pos zs.toArray i (by simp; omega),getElem!_pos zs.toArray j (by simp; omega)]
  simp only [List.getElem_toArray]
  rcases Nat.lt_or_eq_of_le hij with h | h
  ·exact List.pairwise_iff_getElem.1 hs i j (by omega) hj h
  ·subst h; exact Int.le_refl _
 unfold Go.Lib.compactUpTo
 rw [List.pairwise_map]
 have h0:=(List.pairwise_lt_range (n:=m)).filter (Go.Lib.keeps zs.toArray)
 refine h0.imp_of_mem ?_
 intro a b ha hb hab
 have hb1:=List.mem_range.1 (List.mem_filter.1 hb).1
 have hk:=(List.mem_filter.1 hb).2
 have h1:=hget a (b-1) (by omega) (by omega)
 have h2:=hget (b-1) b (by omega) (by omega)
 simp only [Go.Lib.keeps,Bool.or_eq_true,decide_eq_true_eq,bne_iff_ne,ne_eq] at hk
 rcases hk with hk | hk
 ·omega
 ·omega
theorem sortedM_sorted (l:List Int):(sortedM l).Pairwise (· < ·):=by
 unfold sortedM Go.Lib.compact
 refine compactUp_sorted _ ?_ _ (Nat.le_refl _)
 have:=List.pairwise_mergeSort (le:=fun x y:Int=>decide (x<=y)) (by intro a b c h1 h2; simp at *; omega) (by intro a b; simp; omega) l
 exact this.imp (by intro a b h; simpa using h)
theorem sorted_count {l:List Int} (hs:l.Pairwise (· < ·)) (x:Int):l.countP (fun y=>decide (y=x))=if x∈l then 1 else 0:=by
 induction l with
 | nil=>simp
 | cons a l ih =>
  have h1:=List.pairwise_cons.1 hs
  rw [List.countP_cons,ih h1.2]
  by_cases ha:a=x
  ·subst ha
   have:a ∉ l:=fun h=>by have:=h1.1 a h; omega
   simp [this]
  ·have:x∈a::l<->x∈l:=by simp [Ne.symm ha]
   simp [ha,this]
end Rg
end
section
namespace Rg
open Go
structure Like (p q:Prog):Prop where
 cells:p.cells=q.cells
 mods:p.modules.length=q.modules.length
 thr:p.threads.length=q.threads.length
 asl : ∀ t,asleepAt p t=asleepAt q t
variable {p q:Prog}
end Rg
end
section
namespace Rg
open Go
theorem reads_mem {s:Step} {c:Int}:c∈readsM s<->c∈s.guard.sup 2 \/ ∃ a∈s.set,c∈a.to.sup 2:=by
 unfold readsM; rw [sortedM_mem,List.mem_append,List.mem_flatMap]
structure KindFacts (p:Prog) (t:Int) (s:Step):Prop where
 r : ∀ c∈readsM s,sees p t c=true
 w : ∀ c∈writesM s,sees p t c=true
 k1:s.kind=1->(∀ c∈readsM s,ofThread p t c=true) /\ ∀ c∈writesM s,ofThread p t c=true
 k2:s.kind=2->(∃ n∈readsM s,ofThread p (-1) n=true /\ ∀ c∈readsM s,ofThread p (-1) c=true->ofThread p t c=false->c=n)/\(∀ c∈writesM s,ofThread p t c=true)/\writesM s≠[]
 k3:s.kind=3->(∀ c∈readsM s,ofThread p t c=true) /\ ∃ n∈writesM s,ofThread p (-1) n=true/\cellIs p n Cell.ghost=false /\ ∀ c∈writesM s,cellIs p c Cell.ghost=false->c=n
 k5:4<s.kind->readsM s=[]/\writesM s=[]
end Rg
end
