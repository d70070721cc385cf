/- Part of the proof of the laws of the package relyguardlaw30: an abstract machine for the program's functions, what they compute, and that the machine is the program's. No condition. (H31c H13p H32e H30w H32g H31b H32a H32h H41c H32b H32d H32j H41d H35a H35b) -/
import Derived.Test.YtcgkpboneipghaaGreatDoorPartAY
import Derived.Test.YtcgkpboneipghaaGreatDoorPartAU
import Derived.Test.YtcgkpboneipghaaGreatDoorPartAX
set_option linter.unusedSimpArgs false
set_option linter.unusedVariables false
section
set_option maxRecDepth 100000
namespace Rg
open Go
def exS (L:Int) (e:Expr):Bool:=decide ((e.size:Int)<=L)
def stepSmall (L:Int) (s:Step):Bool:=decide ((s.set.length:Int)<=40)&&exS L s.guard&&s.set.all fun a=>exS L a.to
def loopSmall (L:Int) (l:Loop):Bool:=decide ((l.body.length:Int)<=60)&&exS L l.variant
def modSmall (L:Int) (m:Contract):Bool:=exS L m.rely&&exS L m.guar&&decide ((m.frame.length:Int)<=60)
def thrSmall (L:Int) (x:Thread):Bool:=(decide ((x.asserts.length:Int)<=60)&&decide ((x.modules.length:Int)<=60)&&decide ((x.steps.length:Int)<=80)&&decide ((x.loops.length:Int)<=12)) &&
 x.asserts.all (exS L)&&x.steps.all (stepSmall L)&&x.loops.all (loopSmall L)
def progSmall (L:Int) (p:Prog):Bool:=(decide ((p.cells.length:Int)<=40)&&decide ((p.modules.length:Int)<=10)&&decide ((p.locks.length:Int)<=10)&&decide ((p.threads.length:Int)<=8)) &&
 p.modules.all (modSmall L)&&p.locks.all (fun l=>exS L l.inv)&&p.threads.all (thrSmall L)
theorem smallThread_den (x:Thread) (L:Int) (hL:0<=L/\L<10000):Den Γ G 239 [(.agg [.t (.str (x).name), .t (ti (x).points), .t (.sl ((x).asserts.map Expr.enc)), .t (ints (x).modules), .t (.sl ((x).steps.map Step.enc)), .t (.sl ((x).loops.map Loop.enc)), .t (tb (x).asleep)]),vi L]=some (vb (thrSmall L x)):=by
 (refine den_ofY Γ239 rfl ?_; dsimp only [f239])
 by_cases c1:(60:Int)<x.asserts.length
 ·have hr:thrSmall L x=false:=by simp [thrSmall]; intros; omega
  simp -dsimp -implicitDefEqProofs only [go_sem,seval,c1,decide_true,hr]
 by_cases c2:(60:Int)<x.modules.length
 ·have hr:thrSmall L x=false:=by simp [thrSmall]; intros; omega
  simp -dsimp -implicitDefEqProofs only [go_sem,seval,c1,c2,decide_true,decide_false,hr]
 by_cases c3:(80:Int)<x.steps.length
 ·have hr:thrSmall L x=false:=by simp [thrSmall]; intros; omega
  simp -dsimp -implicitDefEqProofs only [go_sem,seval,c1,c2,c3,decide_true,decide_false,hr]
 by_cases c4:(12:Int)<x.loops.length
 ·have hr:thrSmall L x=false:=by simp [thrSmall]; intros; omega
  simp -dsimp -implicitDefEqProofs only [go_sem,seval,c1,c2,c3,c4,decide_true,decide_false,hr]
 have hr:thrSmall L x=(x.asserts.all (exS L)&&(x.steps.all (stepSmall L)&&x.loops.all (loopSmall L))):=by
  have e1:(x.asserts.length:Int)<=60:=by omega
  have e2:(x.modules.length:Int)<=60:=by omega
  have e3:(x.steps.length:Int)<=80:=by omega
  have e4:(x.loops.length:Int)<=12:=by omega
  simp [thrSmall,e1,e2,e3,e4,Bool.and_assoc]
 rw [hr]
 simp -dsimp -implicitDefEqProofs only [go_sem,seval,c1,c2,c3,c4,decide_false]
 refine loopY 70366596694064 x.asserts.length (fun i f=>(f 5).v=vi i/\x.asserts.all (exS L)=(x.asserts.drop i).all (exS L)) rfl rfl ⟨by simp -dsimp -implicitDefEqProofs only [go_sem,seval],rfl⟩ ?_
 rintro i f u kk bq hi ⟨h5,hall⟩
 have hw:=wrapS i (by omega)
 simp -dsimp -implicitDefEqProofs only [go_sem,seval,h5]
 refine csplit (fun h => ?_) (fun h => ?_) <;> (try rw [h]) <;> (try simp only [bools] at h) <;> (try simp -dsimp -implicitDefEqProofs only [go_sem,seval,h5])
 ·obtain ⟨a,ha,_⟩:=get_of ‹i<x.asserts.length›
  have h2:=small_den a L hL
  simp -dsimp -implicitDefEqProofs only [go_sem,seval,h5,ha,h2]
  refine csplit (fun h => ?_) (fun h => ?_) <;> (try rw [h]) <;> (try simp only [bools] at h) <;> (try simp -dsimp -implicitDefEqProofs only [go_sem,seval,h5])
  ·rw [hall,all_stop (P:=exS L) ha (by simpa [exS] using h),Bool.false_and]
  ·refine ⟨by omega,by simp -dsimp -implicitDefEqProofs only [go_sem,seval,hw], ?_⟩
   rw [hall,all_step (P:=exS L) ha (by simpa [exS] using h)]
 ·have:i=x.asserts.length:=by omega
  subst this
  rw [hall,all_end,Bool.true_and]
  clear hall h5 hw hi
  refine loopY 79228162514264267224799772880 x.steps.length (fun i f=>(f 6).v=vi i/\x.steps.all (stepSmall L)=(x.steps.drop i).all (stepSmall L)) rfl rfl ⟨by simp -dsimp -implicitDefEqProofs only [go_sem,seval],rfl⟩ ?_
  rintro i f u kk bq hi ⟨h6,hall⟩
  have hw:=wrapS i (by omega)
  simp -dsimp -implicitDefEqProofs only [go_sem,seval,h6]
  refine csplit (fun h => ?_) (fun h => ?_) <;> (try rw [h]) <;> (try simp only [bools] at h) <;> (try simp -dsimp -implicitDefEqProofs only [go_sem,seval,h6])
  ·obtain ⟨s,hs,_⟩:=get_of ‹i<x.steps.length›
   have h2:=small_den s.guard L hL
   by_cases c5:(40:Int)<s.set.length
   ·have hr:stepSmall L s=false:=by simp [stepSmall]; intros; omega
    simp -dsimp -implicitDefEqProofs only [go_sem,seval,h6,hs,h2,c5,decide_true]
    rw [hall,all_stop hs hr,Bool.false_and]
   ·simp -dsimp -implicitDefEqProofs only [go_sem,seval,h6,hs,h2,c5,decide_false]
    refine csplit (fun h => ?_) (fun h => ?_) <;> (try rw [h]) <;> (try simp only [bools] at h) <;> (try simp -dsimp -implicitDefEqProofs only [go_sem,seval,h6])
    ·have hr:stepSmall L s=false:=by simp [stepSmall,exS]; intros; omega
     rw [hall,all_stop hs hr,Bool.false_and]
    ·have hr:stepSmall L s=s.set.all fun a=>exS L a.to:=by
      have e1:(s.set.length:Int)<=40:=by omega
      have e2:exS L s.guard=true:=by unfold exS; simpa using h
      simp [stepSmall,e1,e2]
     refine loopY 79228157791897854723898736784 s.set.length (fun j f=>(f 7).v=vi j/\stepSmall L s=(s.set.drop j).all fun a=>exS L a.to) rfl rfl ⟨by simp -dsimp -implicitDefEqProofs only [go_sem,seval],hr⟩ ?_
     rintro j f1 u1 k1 b1 hj ⟨h7,hset⟩
     have hwj:=wrapS j (by omega)
     simp -dsimp -implicitDefEqProofs only [go_sem,seval,h6,h7,hs]
     refine csplit (fun h => ?_) (fun h => ?_) <;> (try rw [h]) <;> (try simp only [bools] at h) <;> (try simp -dsimp -implicitDefEqProofs only [go_sem,seval,h6,h7])
     ·obtain ⟨a,ha,_⟩:=get_of ‹j<s.set.length›
      have h3:=small_den a.to L hL
      simp -dsimp -implicitDefEqProofs only [go_sem,seval,h6,h7,hs,ha,h3]
      refine csplit (fun h => ?_) (fun h => ?_) <;> (try rw [h]) <;> (try simp only [bools] at h) <;> (try simp -dsimp -implicitDefEqProofs only [go_sem,seval,h6,h7])
      ·rw [all_stop (P:=fun a=>exS L a.to) ha (by simpa [exS] using h)] at hset
       rw [hall,all_stop hs hset,Bool.false_and]
      ·refine ⟨by omega,by simp -dsimp -implicitDefEqProofs only [go_sem,seval,hwj], ?_⟩
       rw [hset,all_step (P:=fun a=>exS L a.to) ha (by simpa [exS] using h)]
     ·have:j=s.set.length:=by omega
      subst this
      rw [all_end] at hset
      refine ⟨by omega,by simp -dsimp -implicitDefEqProofs only [go_sem,seval,hw], ?_⟩
      rw [hall,all_step hs hset]
  ·have:i=x.steps.length:=by omega
   subst this
   rw [hall,all_end,Bool.true_and]
   clear hall h6 hw hi
   refine loopY 5316911903911500977350890647577428240 x.loops.length (fun i f=>(f 8).v=vi i/\x.loops.all (loopSmall L)=(x.loops.drop i).all (loopSmall L)) rfl rfl ⟨by simp -dsimp -implicitDefEqProofs only [go_sem,seval],rfl⟩ ?_
   rintro i f u kk bq hi ⟨h8,hall⟩
   have hw:=wrapS i (by omega)
   simp -dsimp -implicitDefEqProofs only [go_sem,seval,h8]
   refine csplit (fun h => ?_) (fun h => ?_) <;> (try rw [h]) <;> (try simp only [bools] at h) <;> (try simp -dsimp -implicitDefEqProofs only [go_sem,seval,h8])
   ·obtain ⟨l,hl,_⟩:=get_of ‹i<x.loops.length›
    have h2:=small_den l.variant L hL
    by_cases c5:(60:Int)<l.body.length
    ·have hr:loopSmall L l=false:=by simp [loopSmall]; intros; omega
     simp -dsimp -implicitDefEqProofs only [go_sem,seval,h8,hl,h2,c5,decide_true]
     rw [hall,all_stop hl hr]
    ·simp -dsimp -implicitDefEqProofs only [go_sem,seval,h8,hl,h2,c5,decide_false]
     refine csplit (fun h => ?_) (fun h => ?_) <;> (try rw [h]) <;> (try simp only [bools] at h) <;> (try simp -dsimp -implicitDefEqProofs only [go_sem,seval,h8])
     ·have hr:loopSmall L l=false:=by simp [loopSmall,exS]; intros; omega
      rw [hall,all_stop hl hr]
     ·have hr:loopSmall L l=true:=by
       have e1:(l.body.length:Int)<=60:=by omega
       have e2:exS L l.variant=true:=by unfold exS; simpa using h
       simp [loopSmall,e1,e2]
      refine ⟨by omega,by simp -dsimp -implicitDefEqProofs only [go_sem,seval,hw], ?_⟩
      rw [hall,all_step hl hr]
   ·have:i=x.loops.length:=by omega
    subst this
    rw [hall,all_end]
theorem small7_den (p:Prog) (L:Int) (hL:0<=L/\L<10000):Den Γ G 217 [(.agg [.t (.sl ((p).cells.map (Cell.enc))), .t (.sl ((p).modules.map (Contract.enc))), .t (.sl ((p).locks.map (Lock.enc))), .t (.sl ((p).threads.map (Thread.enc)))]),vi L]=some (vb (progSmall L p)):=by
 (refine den_ofY Γ217 rfl ?_; dsimp only [f217])
 by_cases c1:(40:Int)<p.cells.length
 ·have hr:progSmall L p=false:=by simp [progSmall]; intros; omega
  simp -dsimp -implicitDefEqProofs only [go_sem,seval,c1,decide_true,hr]
 by_cases c2:(10:Int)<p.modules.length
 ·have hr:progSmall L p=false:=by simp [progSmall]; intros; omega
  simp -dsimp -implicitDefEqProofs only [go_sem,seval,c1,c2,decide_true,decide_false,hr]
 by_cases c3:(10:Int)<p.locks.length
 ·have hr:progSmall L p=false:=by simp [progSmall]; intros; omega
  simp -dsimp -implicitDefEqProofs only [go_sem,seval,c1,c2,c3,decide_true,decide_false,hr]
 by_cases c4:(8:Int)<p.threads.length
 ·have hr:progSmall L p=false:=by simp [progSmall]; intros; omega
  simp -dsimp -implicitDefEqProofs only [go_sem,seval,c1,c2,c3,c4,decide_true,decide_false,hr]
 have hr:progSmall L p=(p.modules.all (modSmall L)&&(p.locks.all (fun l=>exS L l.inv)&&p.threads.all (thrSmall L))):=by
  have e1:(p.cells.length:Int)<=40:=by omega
  have e2:(p.modules.length:Int)<=10:=by omega
  have e3:(p.locks.length:Int)<=10:=by omega
  have e4:(p.threads.length:Int)<=8:=by omega
  simp [progSmall,e1,e2,e3,e4,Bool.and_assoc]
 rw [hr]
 simp -dsimp -implicitDefEqProofs only [go_sem,seval,c1,c2,c3,c4,decide_false]
 refine loopY 2305843007066210416 p.modules.length (fun i f=>(f 5).v=vi i/\p.modules.all (modSmall L)=(p.modules.drop i).all (modSmall L)) rfl rfl ⟨by simp -dsimp -implicitDefEqProofs only [go_sem,seval],rfl⟩ ?_
 rintro i f u kk bq hi ⟨h5,hall⟩
 have hw:=wrapS i (by omega)
 simp -dsimp -implicitDefEqProofs only [go_sem,seval,h5]
 refine csplit (fun h => ?_) (fun h => ?_) <;> (try rw [h]) <;> (try simp only [bools] at h) <;> (try simp -dsimp -implicitDefEqProofs only [go_sem,seval,h5])
 ·obtain ⟨m,hm,_⟩:=get_of ‹i<p.modules.length›
  have h2:=small_den m.rely L hL
  have h3:=small_den m.guar L hL
  by_cases d1:(m.rely.size:Int)<=L
  ·by_cases d2:(m.guar.size:Int)<=L
   ·by_cases d3:(60:Int)<m.frame.length
    ·have hr:modSmall L m=false:=by simp [modSmall]; intros; omega
     simp -dsimp -implicitDefEqProofs only [go_sem,seval,h5,hm,h2,h3,d1,d2,d3,decide_true,decide_false]
     rw [hall,all_stop hm hr,Bool.false_and]
    ·have hr:modSmall L m=true:=by
      have e3:(m.frame.length:Int)<=60:=by omega
      simp [modSmall,exS,d1,d2,e3]
     simp -dsimp -implicitDefEqProofs only [go_sem,seval,h5,hm,h2,h3,d1,d2,d3,decide_true,decide_false]
     show _/\_
     refine ⟨by omega,by simp -dsimp -implicitDefEqProofs only [go_sem,seval,hw], ?_⟩
     rw [hall,all_step hm hr]
   ·have hr:modSmall L m=false:=by simp [modSmall,exS,d2]
    simp -dsimp -implicitDefEqProofs only [go_sem,seval,h5,hm,h2,h3,d1,d2,decide_true,decide_false]
    rw [hall,all_stop hm hr,Bool.false_and]
  ·have hr:modSmall L m=false:=by simp [modSmall,exS,d1]
   simp -dsimp -implicitDefEqProofs only [go_sem,seval,h5,hm,h2,h3,d1,decide_true,decide_false]
   rw [hall,all_stop hm hr,Bool.false_and]
 ·have:i=p.modules.length:=by omega
  subst this
  rw [hall,all_end,Bool.true_and]
  clear hall h5 hw hi
  refine loopY 151113421608819433144464 p.locks.length (fun i f=>(f 7).v=vi i/\p.locks.all (fun l=>exS L l.inv)=(p.locks.drop i).all (fun l=>exS L l.inv)) rfl rfl ⟨by simp -dsimp -implicitDefEqProofs only [go_sem,seval],rfl⟩ ?_
  rintro i f u kk bq hi ⟨h7,hall⟩
  have hw:=wrapS i (by omega)
  simp -dsimp -implicitDefEqProofs only [go_sem,seval,h7]
  refine csplit (fun h => ?_) (fun h => ?_) <;> (try rw [h]) <;> (try simp only [bools] at h) <;> (try simp -dsimp -implicitDefEqProofs only [go_sem,seval,h7])
  ·obtain ⟨l,hl,_⟩:=get_of ‹i<p.locks.length›
   have h2:=small_den l.inv L hL
   simp -dsimp -implicitDefEqProofs only [go_sem,seval,h7,hl,h2]
   refine csplit (fun h => ?_) (fun h => ?_) <;> (try rw [h]) <;> (try simp only [bools] at h) <;> (try simp -dsimp -implicitDefEqProofs only [go_sem,seval,h7])
   ·rw [hall,all_stop (P:=fun l:Lock=>exS L l.inv) hl (by simpa [exS] using h),Bool.false_and]
   ·refine ⟨by omega,by simp -dsimp -implicitDefEqProofs only [go_sem,seval,hw], ?_⟩
    rw [hall,all_step (P:=fun l:Lock=>exS L l.inv) hl (by simpa [exS] using h)]
  ·have:i=p.locks.length:=by omega
   subst this
   rw [hall,all_end,Bool.true_and]
   clear hall h7 hw hi
   refine loopY 4951609041414069270949658896 p.threads.length (fun i f=>(f 8).v=vi i/\p.threads.all (thrSmall L)=(p.threads.drop i).all (thrSmall L)) rfl rfl ⟨by simp -dsimp -implicitDefEqProofs only [go_sem,seval],rfl⟩ ?_
   rintro i f u kk bq hi ⟨h8,hall⟩
   have hw:=wrapS i (by omega)
   simp -dsimp -implicitDefEqProofs only [go_sem,seval,h8]
   refine csplit (fun h => ?_) (fun h => ?_) <;> (try rw [h]) <;> (try simp only [bools] at h) <;> (try simp -dsimp -implicitDefEqProofs only [go_sem,seval,h8])
   ·obtain ⟨x,hx,_⟩:=get_of ‹i<p.threads.length›
    have h2:=smallThread_den x L hL
    simp -dsimp -implicitDefEqProofs only [go_sem,seval,h8,hx,h2]
    refine csplit (fun h => ?_) (fun h => ?_) <;> (try rw [h]) <;> (try simp only [bools] at h) <;> (try simp -dsimp -implicitDefEqProofs only [go_sem,seval,h8])
    ·rw [hall,all_stop hx h]
    ·refine ⟨by omega,by simp -dsimp -implicitDefEqProofs only [go_sem,seval,hw], ?_⟩
     rw [hall,all_step hx h]
   ·have:i=p.threads.length:=by omega
    subst this
    rw [hall,all_end]
structure Prog.lite7 (p:Prog):Prop where
 cname : ∀ c∈p.cells,c.name.size<2^50
 mname : ∀ m∈p.modules,m.name.size<2^50/\m.owner.size<2^50
 tname : ∀ t∈p.threads,t.name.size<2^50
structure Prog.SmallP (p:Prog) (L:Int):Prop where
 cells:p.cells.length<=40
 modules:p.modules.length<=10
 locks:p.locks.length<=10
 threads:p.threads.length<=8
 mods : ∀ m∈p.modules,m.frame.length<=60/\(m.rely.size:Int)<=L/\(m.guar.size:Int)<=L
 lcks : ∀ l∈p.locks,(l.inv.size:Int)<=L
 thr : ∀ t∈p.threads,t.asserts.length<=60/\t.modules.length<=60/\t.steps.length<=80/\t.loops.length<=12/\(∀ e∈t.asserts,(e.size:Int)<=L)
 steps : ∀ t∈p.threads, ∀ s∈t.steps,s.set.length<=40/\(s.guard.size:Int)<=L /\ ∀ a∈s.set,(a.to.size:Int)<=L
 loops : ∀ t∈p.threads, ∀ l∈t.loops,l.body.length<=60/\(l.variant.size:Int)<=L
theorem progSmall_of {L:Int} {p:Prog} (h:progSmall L p=true):p.SmallP L:=by
 simp only [progSmall,modSmall,exS,thrSmall,stepSmall,loopSmall,Bool.and_eq_true,decide_eq_true_eq,List.all_eq_true] at h
 obtain ⟨⟨⟨⟨⟨⟨h1,h2⟩,h3⟩,h4⟩,h5⟩,h6⟩,h7⟩:=h
 refine ⟨by omega,by omega,by omega,by omega,fun m hm=>⟨by have:=(h5 m hm).2; omega,(h5 m hm).1.1,(h5 m hm).1.2⟩,h6,fun t ht => ?_,fun t ht s hs => ?_,fun t ht l hl => ?_⟩
 ·obtain ⟨⟨⟨⟨⟨⟨a,b⟩,c⟩,d⟩,e⟩,_⟩,_⟩:=h7 t ht
  exact ⟨by omega,by omega,by omega,by omega,e⟩
 ·obtain ⟨⟨⟨_,_⟩,e⟩,_⟩:=h7 t ht
  obtain ⟨⟨a,b⟩,c⟩:=e s hs
  exact ⟨by omega,b,c⟩
 ·obtain ⟨⟨⟨_,_⟩,_⟩,e⟩:=h7 t ht
  obtain ⟨a,b⟩:=e l hl
  exact ⟨by omega,b⟩
theorem Prog.SmallP.progSmall {L:Int} {p:Prog} (h:p.SmallP L):progSmall L p=true:=by
 simp only [Rg.progSmall,modSmall,exS,thrSmall,stepSmall,loopSmall,Bool.and_eq_true,decide_eq_true_eq,List.all_eq_true]
 have h1:=h.cells
 have h2:=h.modules
 have h3:=h.locks
 have h4:=h.threads
 refine ⟨⟨⟨⟨⟨⟨by omega,by omega⟩,by omega⟩,by omega⟩,fun m hm => ?_⟩,h.lcks⟩,fun t ht=>⟨⟨⟨?_,(h.thr t ht).2.2.2.2⟩,fun s hs => ?_⟩,fun l hl => ?_⟩⟩
 ·have:=h.mods m hm
  exact ⟨⟨this.2.1,this.2.2⟩,by omega⟩
 ·have:=h.thr t ht
  exact ⟨⟨⟨by omega,by omega⟩,by omega⟩,by omega⟩
 ·have:=h.steps t ht s hs
  exact ⟨⟨by omega,this.2.1⟩,this.2.2⟩
 ·have:=h.loops t ht l hl
  exact ⟨by omega,this.2⟩
theorem Prog.SmallP.sane {L:Int} {p:Prog} (hl:p.lite7) (h:p.SmallP L):p.sane:=by
 have h1:=h.cells
 have h2:=h.modules
 have h3:=h.locks
 have h4:=h.threads
 refine ⟨by omega,by omega,by omega,by omega,hl.cname, ?_, ?_, ?_, ?_⟩
 ·intro m hm
  have:=h.mods m hm
  exact ⟨(hl.mname m hm).1,(hl.mname m hm).2,by omega⟩
 ·intro t ht
  have:=h.thr t ht
  exact ⟨hl.tname t ht,by omega,by omega,by omega,by omega⟩
 ·intro t ht s hs
  have:=(h.steps t ht s hs).1
  omega
 ·intro t ht l hl
  have:=(h.loops t ht l hl).1
  omega
end Rg
end
section
namespace Rg
open Go
end Rg
end
section
namespace Rg
open Go
end Rg
end
section
namespace Rg
open Go
structure Like (p q:Prog):Prop where
 cells:p.cells=q.cells
 mods:p.modules.length=q.modules.length
 thr:p.threads.length=q.threads.length
 asl : ∀ t,asleepAt p t=asleepAt q t
variable {p q:Prog}
end Rg
end
section
namespace Rg
open Go
theorem ofThread_iff {p:Prog} {t c:Int}:ofThread p t c=true<->0<=c /\ ∃ x,p.cells[c.toNat]? = some x/\x.thread=t:=by
 unfold ofThread
 cases h:p.cells[c.toNat]? with
 | none=>simp
 | some x=>simp
structure KindFacts (p:Prog) (t:Int) (s:Step):Prop where
 r : ∀ c∈readsM s,sees p t c=true
 w : ∀ c∈writesM s,sees p t c=true
 k1:s.kind=1->(∀ c∈readsM s,ofThread p t c=true) /\ ∀ c∈writesM s,ofThread p t c=true
 k2:s.kind=2->(∃ n∈readsM s,ofThread p (-1) n=true /\ ∀ c∈readsM s,ofThread p (-1) c=true->ofThread p t c=false->c=n)/\(∀ c∈writesM s,ofThread p t c=true)/\writesM s≠[]
 k3:s.kind=3->(∀ c∈readsM s,ofThread p t c=true) /\ ∃ n∈writesM s,ofThread p (-1) n=true/\cellIs p n Cell.ghost=false /\ ∀ c∈writesM s,cellIs p c Cell.ghost=false->c=n
 k5:4<s.kind->readsM s=[]/\writesM s=[]
end Rg
end
section
set_option maxRecDepth 100000
namespace Rg
open Go
def exE:Expr:=.mk 1 1 1 []
def exP (nm:ByteArray) (fr:Int) (to as1:Expr):Prog :=
 ⟨[⟨nm,2,0, -1,false,0⟩,⟨bs [114],2,0,0,false,0⟩],
  [⟨bs [77],bs [65,110,110], .mk 0 0 0 [],exE,[0]⟩],[],
  [⟨bs [116],2,[exE,as1],[0,0],[⟨2,fr,1,exE,[⟨1,to⟩],false,0,0⟩],[],false⟩]⟩
def rowE (e:Expr):List V:=[.t (ti e.op), .t (ti e.w), .t (ti e.n), .t (.sl (e.kids.map Expr.enc))]
structure Ex7 (z:Nat->Bool) (h:Nat->Option O) (a:Nat) (nm:ByteArray) (fr:Int) (to as1:Expr):Prop where
 k7:h (a+7)=some (.rows 5 [.t (ti 1)::rowE to] (z 0))
 k13:h (a+13)=some (.rows 6 [[.t (.str nm), .t (ti 2), .t (ti 0), .t (ti (-1)), .t (tb false), .t (ti 0)],[.t (.str (bs [114])), .t (ti 2), .t (ti 0), .t (ti 0), .t (tb false), .t (ti 0)]] (z 1))
 k15:h (a+15)=some (.rows 1 [[.t (ti 0)]] (z 2))
 k17:h (a+17)=some (.rows 11 [[.t (.str (bs [77])), .t (.str (bs [65,110,110])), .t (ti 0), .t (ti 0), .t (ti 0), .t .nils, .t (ti 1), .t (ti 1), .t (ti 1), .t (.sl []), .ms (a+15) 0 1]] (z 3))
 k20:h (a+20)=some (.rows 4 [rowE exE,rowE as1] (z 4))
 k21:h (a+21)=some (.rows 1 [[.t (ti 0)],[.t (ti 0)]] (z 5))
 k23:h (a+23)=some (.rows 11 [[.t (ti 2), .t (ti fr), .t (ti 1), .t (ti 1), .t (ti 1), .t (ti 1), .t (.sl []), .ms (a+7) 0 1, .t (tb false), .t (ti 0), .t (ti 0)]] (z 6))
 k25:h (a+25)=some (.rows 7 [[.t (.str (bs [116])), .t (ti 2), .ms (a+20) 0 2, .ms (a+21) 0 2, .ms (a+23) 0 1, .t .nils, .t (tb false)]] (z 7))
theorem toT_ms {h:Nat->Option O} {k i len d sz:Nat} {rs r:List (List V)} {fz:Bool} {es:List (List T)} (hk:h k=some (.rows sz rs fz)) (hr:rd rs i len=some r) (he:r.mapM (fun row=>row.mapM (toT h d))=some es) :
 toT h (d+1) (.ms k i len)=some (.sl es):=by
 simp [toT,hk,hr,he]
theorem toT_t (h:Nat->Option O) (d:Nat) (x:T):toT h d (.t x)=some x.norm:=by cases d <;> rfl
section
variable {z:Nat->Bool} {h:Nat->Option O} {a:Nat} {nm:ByteArray} {fr:Int} {to as1:Expr}
theorem Ex7.stree (hx:Ex7 z h a nm fr to as1) (d:Nat):toT h (d+1) (.ms (a+7) 0 1)=some (.sl [Assign.enc ⟨1,to⟩]):=by
 refine toT_ms hx.k7 (by rfl) ?_
 simp [toT_t,rowE,Assign.enc,Expr.enc_eq,T.norm]
theorem Ex7.tree (hx:Ex7 z h a nm fr to as1) :
 toT1 h (V.agg [.ms (a+13) 0 2, .ms (a+17) 0 1, .t .nils, .ms (a+25) 0 1])=some (.agg [.t (.sl ((exP nm fr to as1).cells.map (Cell.enc))), .t (.sl ((exP nm fr to as1).modules.map (Contract.enc))), .t (.sl ((exP nm fr to as1).locks.map (Lock.enc))), .t (.sl ((exP nm fr to as1).threads.map (Thread.enc)))]):=by
 have e13:toT h 1000 (.ms (a+13) 0 2)=some (.sl ((exP nm fr to as1).cells.map Cell.enc)):=by
  refine toT_ms hx.k13 (by rfl) ?_
  simp [toT_t,exP,Cell.enc,T.norm]
 have e15:toT h 999 (.ms (a+15) 0 1)=some (ints [0]):=by
  refine toT_ms hx.k15 (by rfl) ?_
  simp [toT_t,T.norm]
 have e17:toT h 1000 (.ms (a+17) 0 1)=some (.sl ((exP nm fr to as1).modules.map Contract.enc)):=by
  refine toT_ms hx.k17 (by rfl) ?_
  simp [toT_t,e15,exP,Contract.enc,Expr.enc_eq,T.norm,exE,Expr.op,Expr.w,Expr.n,Expr.kids]
 have e20:toT h 999 (.ms (a+20) 0 2)=some (.sl ([exE,as1].map Expr.enc)):=by
  refine toT_ms hx.k20 (by rfl) ?_
  simp [toT_t,rowE,Expr.enc_eq,T.norm]
 have e21:toT h 999 (.ms (a+21) 0 2)=some (ints [0,0]):=by
  refine toT_ms hx.k21 (by rfl) ?_
  simp [toT_t,T.norm]
 have e7:=hx.stree 997
 have e23:toT h 999 (.ms (a+23) 0 1)=some (.sl ([⟨2,fr,1,exE,[⟨1,to⟩],false,0,0⟩].map Step.enc)):=by
  refine toT_ms hx.k23 (by rfl) ?_
  simp [toT_t,e7,Step.enc,exE,Expr.enc_eq,T.norm,Expr.op,Expr.w,Expr.n,Expr.kids]
 have e25:toT h 1000 (.ms (a+25) 0 1)=some (.sl ((exP nm fr to as1).threads.map Thread.enc)):=by
  refine toT_ms hx.k25 (by rfl) ?_
  simp [toT_t,e20,e21,e23,exP,Thread.enc,T.norm]
 simp [toT1,e13,e17,e25,toT_t,T.norm,exP]
theorem frz_rows {h:Nat->Option O} {k sz:Nat} {rs:List (List V)} {z:Bool} (hk:h k=some (.rows sz rs z)) (l:List Nat) : ∃ z',hpC h (freezes h l) k=some (.rows sz rs z'):=by
 suffices hs : ∀ (l:List Nat) (g:Nat->Option O) (y:Bool),g k=some (.rows sz rs y) -> ∃ z',hpC g (freezes h l) k=some (.rows sz rs z') from hs l h z hk
 intro l
 induction l with
 | nil=>intro g y hg; exact ⟨y,by simp only [freezes,List.filterMap_nil,hpC_nil]; exact hg⟩
 | cons q r ih =>
   intro g y hg
   unfold freezes at ih ⊢
   rw [List.filterMap_cons]
   split
   ·exact ih g y hg
   ·rename_i b hb
    split at hb
    ·rename_i s1 r1 y1 hq
     cases hb
     rw [hpC_cons]
     by_cases hkq:k=q
     ·subst hkq
      rw [hk] at hq
      cases hq
      exact ih _ true (by rw [updC_at,if_pos rfl])
     ·exact ih _ y (by rw [updC_at,if_neg hkq]; exact hg)
    ·cases hb
theorem Ex7.frz (hx : ∃ z,Ex7 z h a nm fr to as1) (l:List Nat) : ∃ z,Ex7 z (hpC h (freezes h l)) a nm fr to as1:=by
 obtain ⟨z,hx⟩:=hx
 obtain ⟨z0,f0⟩:=frz_rows hx.k7 l
 obtain ⟨z1,f1⟩:=frz_rows hx.k13 l
 obtain ⟨z2,f2⟩:=frz_rows hx.k15 l
 obtain ⟨z3,f3⟩:=frz_rows hx.k17 l
 obtain ⟨z4,f4⟩:=frz_rows hx.k20 l
 obtain ⟨z5,f5⟩:=frz_rows hx.k21 l
 obtain ⟨z6,f6⟩:=frz_rows hx.k23 l
 obtain ⟨z7,f7⟩:=frz_rows hx.k25 l
 exact ⟨fun i=>[z0,z1,z2,z3,z4,z5,z6,z7].getD i false,f0,f1,f2,f3,f4,f5,f6,f7⟩
theorem Ex7.upd (hx : ∃ z,Ex7 z h a nm fr to as1) {k:Nat} (hk:a+26<=k) (o:Option O) : ∃ z,Ex7 z (updC h k o) a nm fr to as1:=by
 obtain ⟨z,hx⟩:=hx
 exact ⟨z,by constructor <;> (rw [updC_at,if_neg (by omega)]) <;> first | exact hx.k7 | exact hx.k13 | exact hx.k15 | exact hx.k17 | exact hx.k20 | exact hx.k21 | exact hx.k23 | exact hx.k25⟩
end
def frzK (h:Nat->Option O) (vs:List V) (r:V) (K:V->(Nat->Option O)->Prop):Prop:=K r (hpC h (freezes h (vs.flatMap (reach1 h))))
theorem denS_frz (a:List T) (l:List (List T)) (h:Nat->Option O) (vs:List V) (K:V->(Nat->Option O)->Prop) (w:WK K):denS (some (.t (.sl (a::l)))) false h vs K w=frzK h vs (.t (.sl (a::l))) K:=by
 simp [denS,frzK,V.scalar,V.scalar2,V.scalar1,T.scalar]
theorem frzK_intro {h:Nat->Option O} {vs:List V} {r:V} {K:V->(Nat->Option O)->Prop} {a:Nat} {nm:ByteArray} {fr:Int} {to as1:Expr} (hx : ∃ z,Ex7 z h a nm fr to as1)
 (hk : ∀ H,(∃ z,Ex7 z H a nm fr to as1)->K r H):frzK h vs r K:=hk _ (Ex7.frz hx _)
theorem putA_appE {h:Nat->Option O} {q sz bytes k0 n0:Nat} {a b:List (List V)} {K:V->List (Nat×O)->Prop} {w:WK K}
 (hh:h k0=some (.rows sz a false)) (hlen:a.length+b.length<=2^32) (hby:bytes<=2^12) (hb:(b.all fun r=>decide (r.length=sz))=true) (ha:(a.all fun r=>decide (r.length=sz))=true) (hne:b≠[])
 (hK:K (.ms q 0 (a.length+b.length)) [(k0, .dead),(q, .rows sz (a++b) false)]):putA false (appS h q sz bytes (.ms k0 0 n0) a b) K w:=by
 unfold appS
 rw [if_pos ⟨⟨hlen,hby⟩,hb,ha⟩]
 cases b with
 | nil=>exact absurd rfl hne
 | cons r rs =>
   simp only [List.isEmpty_cons,Bool.false_eq_true,if_false,hh,and_self,if_true,putA_some,appRows_self]
   exact hK
def X7 (H:Nat->Option O):Prop := ∃ z,Ex7 z H 4 (bs [120]) 0 (.mk 2 2 0 []) exE
theorem X7.upd {H:Nat->Option O} (hx:X7 H) {k:Nat} (hk:30<=k) (o:Option O):X7 (updC H k o):=Ex7.upd hx hk o
theorem X7.frz {H:Nat->Option O} {vs:List V} {r:V} {K:V->(Nat->Option O)->Prop} (hx:X7 H) (hk : ∀ H,X7 H->K r H):frzK H vs r K:=frzK_intro hx hk
section
variable {z:Nat->Bool} {h:Nat->Option O} {a:Nat} {nm:ByteArray} {fr:Int} {to as1:Expr}
end
end Rg
end
section
set_option maxRecDepth 100000
namespace Rg
open Go
theorem Prog.ok.cell {p:Prog} (h:p.ok) {c:Nat} {x:Cell} (hx:p.cells[c]? = some x) : -1<=x.thread/\x.thread<p.threads.length:=by
 have:=(cellErr_iff.1 ((ok_iff.1 h).cells c x hx)).1
 simp only [cellBad,Bool.or_eq_false_iff,decide_eq_false_iff_not] at this
 omega
theorem Prog.ok.thr {p:Prog} (h:p.ok) {t:Nat} {x:Thread} (hx:p.threads[t]? = some x):1<=x.points/\x.points<=48:=by
 have h1:=(threadErr_iff.1 ((ok_iff.1 h).threads t x hx)).2.2.1.1
 have h2:=((limits_iff.1 (ok_iff.1 h).lim).2 x (List.mem_of_getElem? hx)).1
 exact ⟨h1,h2⟩
theorem Prog.ok.step {p:Prog} (h:p.ok) {t s:Nat} {x:Thread} {y:Step} (hx:p.threads[t]? = some x) (hy:x.steps[s]? = some y):0<=y.fr/\y.fr<x.points-1:=by
 have h1:=(threadErr_iff.1 ((ok_iff.1 h).threads t x hx)).2.2.2.2.2.1 s y hy
 have h2:=(stepErr_iff.1 h1).1
 simp only [stepBad,Bool.or_eq_false_iff,decide_eq_false_iff_not,Bool.not_eq_false',inR,decide_eq_true_eq] at h2
 omega
end Rg
end
section
set_option maxRecDepth 100000
namespace Rg
open Go
end Rg
end
section
namespace Rg
open Go
structure Gr.Ok (g:Gr):Prop where
 cl_len:g.cls.length=g.all.length
 msk_len:g.msk.length=g.nt*g.sz
 ld_len:g.ld.length=g.nt
 qk_len:g.qk.length=g.nt
 ld_lt : ∀ t i,g.ldAt t i<2^64
 qk_lt : ∀ t i,g.qkAt t i<2^64
 ld_row : ∀ t,t<g.nt->(g.ld.getD t []).length=64
 qk_row : ∀ t,t<g.nt->(g.qk.getD t []).length=64
 th_lt : ∀ i,i<g.all.length->(g.ac i).th<g.nt
 st_lt : ∀ i,i<g.all.length->(g.ac i).st<64
 thr_cl : ∀ i,i<g.all.length->g.thr (g.cl i)=(g.ac i).th
 cl_lt : ∀ i,i<g.all.length->g.cl i<g.msk.length
 mk_bit : ∀ c j,(g.mks c).testBit j=true <-> ∃ i,i<g.all.length/\g.cl i=c/\(g.ac i).st=j
theorem mem_accsT {p:Prog} {t:Nat} {l:List Step} {i:Nat} {a:Acc}:a∈accsT p t l i <-> ∃ k s,k<i/\l[k]? = some s/\a∈accsS p t k s:=by
 simp only [accsT,List.mem_flatMap]
 constructor
 ·rintro ⟨⟨s,k⟩,h1,h2⟩
  rw [List.mem_zipIdx_iff_getElem?] at h1
  simp only at h1 h2
  rw [List.getElem?_take] at h1
  split at h1
  ·exact ⟨k,s,by assumption,h1,h2⟩
  ·cases h1
 ·rintro ⟨k,s,h1,h2,h3⟩
  refine ⟨(s,k), ?_,h3⟩
  rw [List.mem_zipIdx_iff_getElem?]
  simp only
  rw [List.getElem?_take,if_pos h1,h2]
theorem mem_accsN {p:Prog} {k:Nat} {a:Acc}:a∈accsN p k <-> ∃ t x i s,t<k/\p.threads[t]? = some x/\x.steps[i]? = some s/\a∈accsS p t i s:=by
 simp only [accsN,List.mem_flatMap]
 constructor
 ·rintro ⟨⟨x,t⟩,h1,h2⟩
  rw [List.mem_zipIdx_iff_getElem?] at h1
  simp only at h1 h2
  rw [List.getElem?_take] at h1
  split at h1
  ·obtain ⟨i,s,_,h4,h5⟩:=mem_accsT.1 h2
   exact ⟨t,x,i,s,by assumption,h1,h4,h5⟩
  ·cases h1
 ·rintro ⟨t,x,i,s,h1,h2,h3,h4⟩
  refine ⟨(x,t), ?_,mem_accsT.2 ⟨i,s,(List.getElem?_eq_some_iff.1 h3).1,h3,h4⟩⟩
  rw [List.mem_zipIdx_iff_getElem?]
  simp only
  rw [List.getElem?_take,if_pos h1,h2]
theorem mem_accsS {p:Prog} {t i:Nat} {s:Step} {a:Acc}:a∈accsS p t i s<->a.th=t/\a.st=i /\
 (((s.kind=6\/s.kind=7)/\a.wr=true/\a.ce=p.cells.length+s.target.toNat) \/
  (¬ (s.kind=6\/s.kind=7) /\ ∃ c,c∈ofM p (-1)/\a.ce=c.toNat/\c∈(if a.wr then writesM s else readsM s))):=by
 obtain ⟨th,st,ce,w⟩:=a
 unfold accsS
 split
 ·rename_i h
  simp only [List.mem_singleton,Acc.mk.injEq]
  constructor
  ·rintro ⟨rfl,rfl,rfl,rfl⟩; exact ⟨rfl,rfl, .inl ⟨h,rfl,rfl⟩⟩
  ·rintro ⟨rfl,rfl,h1⟩
   rcases h1 with ⟨_,rfl,rfl⟩ | ⟨hn,_⟩
   ·exact ⟨rfl,rfl,rfl,rfl⟩
   ·exact absurd h hn
 ·rename_i h
  simp only [accsC,List.mem_flatMap,List.mem_append]
  constructor
  ·rintro ⟨c,hc,h1 | h1⟩
   ·split at h1
    ·simp only [List.mem_singleton,Acc.mk.injEq] at h1
     obtain ⟨rfl,rfl,rfl,rfl⟩:=h1
     exact ⟨rfl,rfl, .inr ⟨h,c,hc,rfl,by simpa⟩⟩
    ·cases h1
   ·split at h1
    ·simp only [List.mem_singleton,Acc.mk.injEq] at h1
     obtain ⟨rfl,rfl,rfl,rfl⟩:=h1
     exact ⟨rfl,rfl, .inr ⟨h,c,hc,rfl,by simpa⟩⟩
    ·cases h1
  ·rintro ⟨rfl,rfl,h1⟩
   rcases h1 with ⟨h2,_⟩ | ⟨_,c,hc,rfl,h3⟩
   ·exact absurd h2 h
   ·cases w
    ·exact ⟨c,hc, .inl (by simp only [Bool.false_eq_true,if_false] at h3; rw [if_pos h3]; simp)⟩
    ·exact ⟨c,hc, .inr (by simp only [if_true] at h3; rw [if_pos h3]; simp)⟩
theorem stepAt_of {p:Prog} {t i:Nat} {x:Thread} {s:Step} (h1:p.threads[t]? = some x) (h2:x.steps[i]? = some s):p.stepAt t i=s:=by
 unfold Prog.stepAt
 rw [List.getD_eq_getElem?_getD,List.getD_eq_getElem?_getD,h1]; simp [h2]
theorem mem_accs {p:Prog} {a:Acc}:a∈accsM p <-> ∃ x s,p.threads[a.th]? = some x/\x.steps[a.st]? = some s/\a∈accsS p a.th a.st s:=by
 unfold accsM
 rw [mem_accsN]
 constructor
 ·rintro ⟨t,x,i,s,_,h1,h2,h3⟩
  obtain ⟨rfl,rfl,_⟩:=mem_accsS.1 h3
  exact ⟨x,s,h1,h2,h3⟩
 ·rintro ⟨x,s,h1,h2,h3⟩
  exact ⟨a.th,x,a.st,s,(List.getElem?_eq_some_iff.1 h1).1,h1,h2,h3⟩
theorem mem_ofM {p:Prog} {t c:Int}:c∈ofM p t<->ofThread p t c=true:=by
 rw [ofThread_iff]
 simp only [ofM,idxM,idxN,List.take_length,List.mem_map,List.mem_filter,decide_eq_true_eq]
 constructor
 ·rintro ⟨⟨x,i⟩,⟨h1,h2⟩,rfl⟩
  rw [List.mem_zipIdx_iff_getElem?] at h1
  exact ⟨by simp,x,by simpa using h1,h2⟩
 ·rintro ⟨h0,x,h1,h2⟩
  exact ⟨(x,c.toNat),⟨by rw [List.mem_zipIdx_iff_getElem?]; exact h1,h2⟩,by simp; omega⟩
theorem ok_acc {p:Prog} (h:p.ok) {a:Acc} (ha:a∈accsM p):a.th<p.threads.length/\a.st<64/\a.ce<p.cells.length+p.threads.length:=by
 obtain ⟨x,s,h1,h2,h3⟩:=mem_accs.1 ha
 have hp:=ok_iff.1 h
 have hi1:=(List.getElem?_eq_some_iff.1 h1).1
 have hi2:=(List.getElem?_eq_some_iff.1 h2).1
 have hl:=(limits_iff.1 hp.lim).2 x (List.mem_of_getElem? h1)
 refine ⟨hi1,by omega, ?_⟩
 obtain ⟨_,_,h4 | h4⟩:=mem_accsS.1 h3
 ·obtain ⟨hk,_,hc⟩:=h4
  have ht:=hp.threads _ x h1
  rw [threadErr_iff] at ht
  have hs:=ht.2.2.2.2.2.1 _ s h2
  obtain ⟨hb,_,hset,hko⟩:=stepErr_iff.1 hs
  have hj:joinOk p a.th s=true:=by
   unfold kindOk at hko
   rcases hk with hk | hk <;> rw [hk] at hko <;> simp at hko
   ·exact hko.1
   ·exact hko
  simp only [joinOk,inR,Bool.and_eq_true,decide_eq_true_eq] at hj
  rw [hc]; omega
 ·obtain ⟨_,c,hc,he,_⟩:=h4
  rw [mem_ofM,ofThread_iff] at hc
  obtain ⟨h0,y,hy,_⟩:=hc
  have:=(List.getElem?_eq_some_iff.1 hy).1
  omega
theorem clsM_bounds {p:Prog} (h:p.ok) {a:Acc} (ha:a∈accsM p):clsM p a / (2*(p.cells.length+p.threads.length))=a.th/\clsM p a<p.threads.length*(2*(p.cells.length+p.threads.length)):=by
 obtain ⟨h1,_,h2⟩:=ok_acc h ha
 unfold clsM
 generalize hb:(if (a.wr&&decide (a.ce<p.cells.length))||decide ((p.stepAt a.th a.st).kind=7) then 1 else 0)=b
 have hb1:b<=1:=by rw [<- hb]; split <;> omega
 generalize hS:p.cells.length+p.threads.length=S at h2 ⊢
 constructor
 ·rw [Nat.add_assoc,Nat.mul_comm,Nat.mul_add_div (by omega)]
  rw [Nat.div_eq_of_lt (by omega)]; rfl
 ·have:(a.th+1)*(2*S)<=p.threads.length*(2*S):=Nat.mul_le_mul_right _ h1
  rw [Nat.add_mul] at this
  omega
theorem rowM_lt {p:Prog} (h:p.ok) (inner:Step->Bool) (t i:Nat):((p.threads.map fun x=>reachM inner x.steps).getD t []).getD i 0<2^64:=by
 have hp:=(limits_iff.1 (ok_iff.1 h).lim).2
 rw [List.getD_eq_getElem?_getD,List.getD_eq_getElem?_getD,List.getElem?_map]
 cases hx:p.threads[t]? with
 | none=>simp
 | some x =>
   simp only [Option.map_some,Option.getD_some]
   cases hy:(reachM inner x.steps)[i]? with
   | none=>simp
   | some y=>exact reachM_lt inner (hp x (List.mem_of_getElem? hx)).2.1 y (List.mem_of_getElem? hy)
theorem rowM_len {p:Prog} (h:p.ok) (inner:Step->Bool) {t:Nat} (ht:t<p.threads.length):((p.threads.map fun x=>reachM inner x.steps).getD t []).length=64:=by
 have hp:=(limits_iff.1 (ok_iff.1 h).lim).2
 rw [List.getD_eq_getElem?_getD,List.getElem?_map,List.getElem?_eq_getElem ht]
 exact reachM_len inner (hp _ (List.getElem_mem ht)).2.1
theorem grM_ok {p:Prog} (h:p.ok) (model:Int):(grM p model).Ok:=by
 have hac : ∀ i,i<(accsM p).length->(grM p model).ac i∈accsM p:=fun i hi=>Gr.ac_mem (g:=grM p model) hi
 have hcl : ∀ i,i<(accsM p).length->(grM p model).cl i=clsM p ((grM p model).ac i):=by
  intro i hi
  simp only [Gr.cl,Gr.ac,grM,List.getD_eq_getElem?_getD,List.getElem?_map,List.getElem?_eq_getElem hi]
  rfl
 refine ⟨by simp [grM],by simp [grM,Gr.sz],by simp [grM],by simp [grM],rowM_lt h _,rowM_lt h _,fun t ht=>rowM_len h _ ht,fun t ht=>rowM_len h _ ht,fun i hi=>(ok_acc h (hac i hi)).1,fun i hi=>(ok_acc h (hac i hi)).2.1,fun i hi => ?_,fun i hi => ?_,fun c j => ?_⟩
 ·rw [hcl i hi]; exact (clsM_bounds h (hac i hi)).1
 ·rw [hcl i hi]; simpa [grM] using (clsM_bounds h (hac i hi)).2
 ·have e:(grM p model).mks c=if c<p.threads.length*(2*(p.cells.length+p.threads.length)) then (accsM p).foldl (fun m a=>if decide (clsM p a=c) then m ||| 1 <<< a.st else m) 0 else 0:=by
   simp only [Gr.mks,grM,List.getD_eq_getElem?_getD,List.getElem?_map]
   split
   ·rename_i h1
    rw [List.getElem?_range h1]; simp
   ·rename_i h1
    rw [List.getElem?_eq_none (by simpa using h1)]; rfl
  rw [e]
  constructor
  ·intro hj
   split at hj
   ·rw [fold_bits (fun a:Acc=>decide (clsM p a=c)) (fun a=>a.st)] at hj
    simp only [Nat.zero_testBit,Bool.false_or,List.any_eq_true,Bool.and_eq_true,decide_eq_true_eq] at hj
    obtain ⟨a,h1,h2,h3⟩:=hj
    obtain ⟨i,hi,rfl⟩:=List.mem_iff_getElem.1 h1
    have e2:(grM p model).ac i=(accsM p)[i]:=by
     simp [Gr.ac,grM,List.getD_eq_getElem?_getD,List.getElem?_eq_getElem hi]
    exact ⟨i,hi,by rw [hcl i hi,e2]; exact h2,by rw [e2]; exact h3⟩
   ·simp at hj
  ·rintro ⟨i,hi,h1,h2⟩
   rw [hcl i hi] at h1
   have hb:=(clsM_bounds h (hac i hi)).2
   rw [h1] at hb
   rw [if_pos hb,fold_bits (fun a:Acc=>decide (clsM p a=c)) (fun a=>a.st)]
   simp only [Nat.zero_testBit,Bool.false_or,List.any_eq_true,Bool.and_eq_true,decide_eq_true_eq]
   exact ⟨_,hac i hi,h1,h2⟩
theorem Gr.Ok.alone {g:Gr} (ho:g.Ok) {t:Nat} (h : ∀ i,i<g.all.length->(g.ac i).th=t):g.shortest=none:=by
 rw [Gr.shortest_none]
 intro r h1 _
 cases hr:g.atRest r
 ·rfl
 ·obtain ⟨c,d,_,_,k3,k4⟩:=Gr.atRest_iff.1 hr
  obtain ⟨i1,i2,i3,_⟩:=Gr.isPair_iff.1 k3
  have hthr : ∀ f c,g.maskF f c g.all.length≠0->g.thr c=t:=by
   intro f c hc
   obtain ⟨j,hj⟩:=ne_zero_bit.1 hc
   obtain ⟨⟨a,c'⟩,hq,_,rfl,_⟩:=(Gr.maskF_bit f c _ j).1 hj
   obtain ⟨n,hn,he⟩:=List.mem_iff_getElem.1 (List.mem_of_mem_take hq)
   have hn1:n<g.all.length:=by rw [List.length_zip] at hn; omega
   have hn2:n<g.cls.length:=by rw [ho.cl_len]; exact hn1
   have e:g.cl n=c' := by
    rw [List.getElem_zip] at he
    simp only [Gr.cl,List.getD_eq_getElem?_getD,List.getElem?_eq_getElem hn2,Option.getD_some]
    exact (Prod.mk.inj he).2
   rw [<- e,ho.thr_cl n hn1,h n hn1]
  obtain ⟨r,rfl⟩ : ∃ k,r=k+1:=⟨r-1,by omega⟩
  rw [Gr.ends_succ,List.any_eq_true] at k4
  obtain ⟨e,_,h5⟩:=k4
  simp only [Gr.ok,Bool.and_eq_true,decide_eq_true_eq,Bool.not_eq_true'] at h5
  obtain ⟨⟨h6,h7,_⟩,_⟩:=h5
  obtain ⟨j,hj⟩:=ne_zero_bit.1 h6
  obtain ⟨n,hn,h8,_⟩:=(ho.mk_bit e j).1 hj
  rw [hthr g.lat d i2,bit_one] at h7
  rw [<- h8,ho.thr_cl n hn,h n hn] at h7
  simp at h7
theorem Gr.Ok.mk_lt {g:Gr} (h:g.Ok) (c:Nat):g.mks c<2^64:=by
 refine Nat.lt_pow_two_of_testBit _ fun i hi => ?_
 cases hb:(g.mks c).testBit i
 ·rfl
 ·obtain ⟨n,h1,_,h2⟩:=(h.mk_bit c i).1 hb
  have:=h.st_lt n h1
  omega
def thrPre (p:Prog) (i:Nat) (x:Thread):Prop :=
 isLabel x.name=true/\(p.threads.take i).any (fun d=>d.name.toList==x.name.toList)=false/\(1<=x.points/\(x.asserts.length:Int)=x.points/\(x.modules.length:Int)=x.points) /\
  x.modules.all (fun m=>inR m p.modules.length)=true/\x.asserts.all (fun e=>truthOk p e false i)=true
def preOk (p:Prog):Prop:=(limitsM p).1=0/\cellsM p=0/\modulesM p=0/\locksM p=0
structure AtStep (p:Prog) (e:Int) (t s:Nat) (x:Thread) (y:Step):Prop where
 pre:preOk p
 before : ∀ (j:Nat) (z:Thread),j<t->p.threads[j]? = some z->(threadErr p j z).1=0
 hx:p.threads[t]? = some x
 tp:thrPre p t x
 hy:x.steps[s]? = some y
 steps : ∀ (k:Nat) (z:Step),k<s->x.steps[k]? = some z->stepErr p t x.points z=0
 err:stepErr p t x.points y=e
 ne:e≠0
end Rg
end
section
namespace Rg
open Go
section
variable {p:Prog} {i k:Nat} {x:Thread}
end
end Rg
end
section
namespace Rg
open Go
section
variable {p:Prog} {i:Nat} {x x' : Thread}
end
end Rg
end
section
namespace Rg
open Go
theorem grM_maskF {p:Prog} {model:Int} {f:Acc->Bool} {c j:Nat}:((grM p model).maskF f c (accsM p).length).testBit j=true <-> ∃ a∈accsM p,f a=true/\clsM p a=c/\a.st=j:=by
 rw [Gr.maskF_bit]
 have e:((grM p model).all.zip (grM p model).cls)=(accsM p).map fun a=>(a,clsM p a):=by
  show (accsM p).zip ((accsM p).map (clsM p))=_
  generalize accsM p=l
  induction l with
  | nil=>rfl
  | cons x l ih=>simp [ih]
 rw [e,List.take_of_length_le (by simp)]
 constructor
 ·rintro ⟨q,h1,h2,h3,h4⟩
  obtain ⟨a,ha,rfl⟩:=List.mem_map.1 h1
  exact ⟨a,ha,h2,h3,h4⟩
 ·rintro ⟨a,ha,h2,h3,h4⟩
  exact ⟨_,List.mem_map.2 ⟨a,ha,rfl⟩,h2,h3,h4⟩
theorem grM_mk {p:Prog} (h:p.ok) {model:Int} {c j:Nat}:((grM p model).mks c).testBit j=true <-> ∃ a∈accsM p,clsM p a=c/\a.st=j:=by
 rw [(grM_ok h model).mk_bit]
 have hcl : ∀ i,i<(accsM p).length->(grM p model).cl i=clsM p ((grM p model).ac i):=by
  intro i hi
  simp only [Gr.cl,Gr.ac,grM,List.getD_eq_getElem?_getD,List.getElem?_map,List.getElem?_eq_getElem hi]
  rfl
 constructor
 ·rintro ⟨i,hi,h1,h2⟩
  exact ⟨_,Gr.ac_mem (g:=grM p model) hi,by rw [<- hcl i hi]; exact h1,h2⟩
 ·rintro ⟨a,ha,h1,h2⟩
  obtain ⟨i,hi,rfl⟩:=List.mem_iff_getElem.1 ha
  have e2:(grM p model).ac i=(accsM p)[i]:=by
   simp [Gr.ac,grM,List.getD_eq_getElem?_getD,List.getElem?_eq_getElem hi]
  exact ⟨i,hi,by rw [hcl i hi,e2]; exact h1,by rw [e2]; exact h2⟩
structure Gr.Sub (a b:Gr):Prop where
 nc:a.nc=b.nc
 nt:a.nt=b.nt
 len:a.msk.length=b.msk.length
 mks : ∀ c,subB (a.mks c) (b.mks c)
 ld : ∀ c,a.mks c≠0->a.ld.getD (a.thr c) []=b.ld.getD (b.thr c) []
 ea : ∀ c,subB (a.eaM c) (b.eaM c)
 la : ∀ c,subB (a.laM c) (b.laM c)
 qk : ∀ c,a.eaM c≠0->a.qk.getD (a.thr c) []=b.qk.getD (b.thr c) []
namespace Gr.Sub
variable {a b:Gr} (h:a.Sub b)
include h
theorem sz:a.sz=b.sz:=by unfold Gr.sz; rw [h.nc,h.nt]
theorem thr (c:Nat):a.thr c=b.thr c:=by unfold Gr.thr; rw [h.sz]
theorem prec (c d:Nat):a.prec c d=b.prec c d:=by unfold Gr.prec; rw [h.nc,h.nt]
theorem ok {c d m:Nat} (hk:a.ok c d m=true):b.ok c d m=true:=by
 simp only [Gr.ok,Bool.and_eq_true,decide_eq_true_eq] at hk ⊢
 refine ⟨(h.mks d).ne hk.1, ?_, ?_⟩
 ·rw [<- h.thr]; exact hk.2.1
 ·rw [<- h.prec]; exact hk.2.2
theorem couple {c d:Nat} (hk:a.couple c d=true):b.couple c d=true:=by
 unfold Gr.couple at hk ⊢
 have h0:a.mks c≠0:=by
  intro h0; rw [h0] at hk
  obtain ⟨i,j,_,h1,_⟩:=meets_iff.1 hk
  simp at h1
 rw [h.ld c h0] at hk
 exact meets_mono (h.mks c) (h.mks d) (fun _ _ _ h=>h) hk
theorem ends : ∀ (r goal c m:Nat),a.ends r goal c m=true->b.ends r goal c m=true
 | 0,goal,c,m,hk=>by rw [Gr.ends] at hk ⊢; rw [<- h.prec]; exact hk
 | 1,goal,c,m,hk=>by
   rw [Gr.ends,List.any_eq_true] at hk ⊢
   obtain ⟨d,h1,h2⟩:=hk
   rw [Bool.and_eq_true] at h2
   refine ⟨d,by rw [<- h.len]; exact h1, ?_⟩
   rw [h.ok h2.1, <- h.thr,ends 0 _ _ _ h2.2]; rfl
 | r+2,goal,c,m,hk=>by
   rw [Gr.ends,List.any_eq_true] at hk ⊢
   obtain ⟨d,h1,h2⟩:=hk
   rw [Bool.and_eq_true,Bool.or_eq_true,List.any_eq_true] at h2
   refine ⟨d,by rw [<- h.len]; exact h1, ?_⟩
   rw [h.ok h2.1, <- h.thr,Bool.true_and,Bool.or_eq_true,List.any_eq_true]
   rcases h2.2 with h3 | ⟨e,h3,h4⟩
   ·exact .inl (ends (r+1) _ _ _ h3)
   ·simp only [Bool.and_eq_true,decide_eq_true_eq] at h4
    exact .inr ⟨e,by rw [<- h.len]; exact h3,by rw [<- h.thr,h.couple h4.2.1,ends r _ _ _ h4.2.2]; simp [h4.1]⟩
theorem isPair {c d:Nat} (hk:a.isPair c d=true):b.isPair c d=true:=by
 rw [Gr.isPair_iff] at hk ⊢
 obtain ⟨h1,h2,h3,h4,h5⟩:=hk
 refine ⟨(h.ea c).ne h1,(h.la d).ne h2,by rw [<- h.thr, <- h.thr]; exact h3,h4, ?_⟩
 rw [h.qk c h1] at h5
 exact meets_mono (h.ea c) (h.la d) (fun _ _ _ h=>h) h5
theorem shortest (hb:b.shortest=none):a.shortest=none:=by
 rw [Gr.shortest_none] at hb ⊢
 intro r h1 h2
 have:=hb r h1 (by rw [<- h.nt]; exact h2)
 cases hr:a.atRest r
 ·rfl
 ·obtain ⟨c,d,k1,k2,k3,k4⟩:=Gr.atRest_iff.1 hr
  rw [show b.atRest r=true from Gr.atRest_iff.2 ⟨c,d,by rw [<- h.len]; exact k1,by rw [<- h.len]; exact k2,h.isPair k3,by rw [<- h.thr]; exact h.ends _ _ _ _ k4⟩] at this
  exact this
end Gr.Sub
section
variable {p:Prog} {t:Nat} {x:Thread}
end
end Rg
end
section
set_option maxRecDepth 100000
namespace Rg
open Go
def tau (to:List Int) (n:Int):Int:=if 0<=n/\n<to.length then to.getD n.toNat 0 else n
namespace Expr
mutual
def mv (to:List Int):Expr->Expr
 | .mk op w n k => .mk op w (if op=2\/op=3 then tau to n else n) (mvs to k)
def mvs (to:List Int):List Expr->List Expr
 | []=>[]
 | e::r=>mv to e::mvs to r
end
end Expr
structure Ren (to:List Int) (cs cs' : List Cell):Prop where
 len:to.length=cs.length
 len' : cs'.length=cs.length
 rng : ∀ c:Int,0<=c->c<cs.length->0<=tau to c/\tau to c<cs.length
 inj : ∀ c d:Int,0<=c->c<cs.length->0<=d->d<cs.length->tau to c=tau to d->c=d
 surj : ∀ j:Nat,j<cs.length -> ∃ i:Nat,i<cs.length/\tau to i=j
 at_ : ∀ i:Nat,i<cs.length->cs'[(tau to i).toNat]? = cs[i]?
theorem Ren.atI {to:List Int} {cs cs' : List Cell} (R:Ren to cs cs') {c:Int} (h0:0<=c) (h1:c<cs.length):cs'[(tau to c).toNat]? = cs[c.toNat]? := by
 have:=R.at_ c.toNat (by omega)
 rwa [show ((c.toNat:Nat):Int)=c by omega] at this
section
variable {to:List Int} {cs cs' : List Cell} (R:Ren to cs cs') (h32:cs.length<=32)
include R h32
end
section
variable {to:List Int} {p q:Prog} (R:Ren to p.cells q.cells) (h32:p.cells.length<=32)
include R
include h32
end
end Rg
end
section
set_option maxRecDepth 100000
namespace Rg
open Go
def Assign.mv (to:List Int) (a:Assign):Assign:=⟨tau to a.cell,a.to.mv to⟩
def Step.mv (to:List Int) (s:Step):Step:=⟨s.kind,s.fr,s.to,s.guard.mv to,s.set.map (Assign.mv to),s.release,s.target,s.module⟩
def Loop.mv (to:List Int) (l:Loop):Loop:=⟨l.head,l.body,l.variant.mv to⟩
def Thread.mv (to:List Int) (x:Thread):Thread:=⟨x.name,x.points,x.asserts.map (Expr.mv to),x.modules,x.steps.map (Step.mv to),x.loops.map (Loop.mv to),x.asleep⟩
def frameM (n:Nat) (to fr:List Int):List Int:=((List.range n).filter fun k:Nat=>fr.any fun c=>decide (tau to c=(k:Int))).map fun k:Nat=>(k:Int)
def Contract.mv (n:Nat) (to:List Int) (m:Contract):Contract:=⟨m.name,m.owner,m.rely.mv to,m.guar.mv to,frameM n to m.frame⟩
def Lock.mv (to:List Int) (l:Lock):Lock:=⟨tau to l.cell,l.inv.mv to,l.module⟩
def cell0:Cell:=⟨bs [],0,0,0,false,0⟩
def renUp (cs:List Cell) (to:List Int):Nat->List Cell
 | 0=>List.replicate cs.length cell0
 | i+1=>(renUp cs to i).set (tau to i).toNat (cs.getD i cell0)
def Prog.mv (to:List Int) (p:Prog):Prog:=⟨renUp p.cells to p.cells.length,p.modules.map (Contract.mv p.cells.length to),p.locks.map (Lock.mv to),p.threads.map (Thread.mv to)⟩
def PermN (n:Nat) (to:List Int):Prop:=to.Perm ((List.range n).map fun i:Nat=>(i:Int))
theorem names_iff {α:Type} {f:α->List UInt8} {l:List α}:(∀ (i:Nat) (x:α),l[i]? = some x->(l.take i).any (fun d=>f d==f x)=false) <->
 ∀ (i j:Nat) (x y:α),l[i]? = some x->l[j]? = some y->f x=f y->i=j:=by
 constructor
 ·intro h i j x y hx hy he
  rcases Nat.lt_trichotomy i j with hlt | heq | hgt
  ·have:=List.any_eq_false.1 (h j y hy) x (by
    have:(l.take j)[i]? = some x:=by rw [List.getElem?_take,if_pos hlt]; exact hx
    exact List.mem_of_getElem? this)
   simp [he] at this
  ·exact heq
  ·have:=List.any_eq_false.1 (h i x hx) y (by
    have:(l.take i)[j]? = some y:=by rw [List.getElem?_take,if_pos hgt]; exact hy
    exact List.mem_of_getElem? this)
   simp [he] at this
 ·intro h i x hx
  rw [List.any_eq_false]
  intro d hd he
  obtain ⟨j,hj,hdj⟩:=List.mem_iff_getElem.1 hd
  have hji:j<i:=by simp at hj; omega
  have hd2:l[j]? = some d:=by
   rw [<- hdj]; simp only [List.getElem_take]
   exact List.getElem?_eq_getElem _
  have:=h j i d x hd2 hx (by simpa using he)
  omega
theorem any_map_take {α β:Type} (f:α->β) (P:β->Bool) (l:List α) (i:Nat):((l.map f).take i).any P=(l.take i).any fun x=>P (f x):=by
 rw [<- List.map_take,List.any_map]; rfl
section
variable {p:Prog} {to:List Int} (hp:PermN p.cells.length to) (h32:p.cells.length<=32)
include hp h32
end
end Rg
end
