/- Part of the proof of the laws of the package relyguardlaw36: an abstract machine for the program's functions, what they compute, and that the machine is the program's. No condition. (H11n H11w H11b H11c H11d H11e H11f H11g H11h H11i H11j H11k H11l H11m H11o H11p H11q H11r H11s H11t H12a H12b H12c H12d H13p H13a H13b H14b H15r H15a H60a H60b H61b H30a H30v H30b H30c H30d H30e H30f H30g H31a H31c H32e H61c H62a H15b H15c H15d H15e H15f H15g H20a) -/
import Derived.Test.YtaiokglcgiemnaaGreatDoorPartBB
import Derived.Test.YtaiokglcgiemnaaGreatDoorPartAW
import Derived.Test.YtaiokglcgiemnaaGreatDoorPartAX
import Derived.Lib.ItoaLen
import Derived.Test.YtaiokglcgiemnaaGreatDoorPartAY
set_option linter.unusedSimpArgs false
set_option linter.unusedVariables false
section
namespace Rg
open Go
def fewA (a:Assign):Bool:=decide ((a.to.size:Int)<=30)
def fewS (s:Step):Bool:=decide ((s.guard.size:Int)<=30)&&decide ((s.set.length:Int)<=8)&&s.set.all fewA
def fewL (l:Loop):Bool:=decide ((l.variant.size:Int)<=30)&&decide ((l.body.length:Int)<=48)
def few60 (e:Expr):Bool:=decide ((e.size:Int)<=60)
def fewT (x:Thread):Bool:=x.steps.all fewS&&x.asserts.all few60&&x.loops.all fewL
theorem few_den (x:Thread) (h1:x.steps.length<2^40) (h2:x.asserts.length<2^40) (h3:x.loops.length<2^40):Den Γ G 36 [(.agg [.t (.str (x).name),.t (ti (x).points),.t (.sl ((x).asserts.map Expr.enc)),.t (ints (x).modules),.t (.sl ((x).steps.map Step.enc)),.t (.sl ((x).loops.map Loop.enc)),.t (tb (x).asleep)])]=some (vb (fewT x)):=by
 (refine den_ofY Γ36 rfl ?_;dsimp only[f36])
 simp -dsimp -implicitDefEqProofs only[go_sem,seval]
 refine loopY 36028797018963868 x.steps.length (fun i f=>(f 3).v=vi i/\x.steps.all fewS=(x.steps.drop i).all fewS) rfl rfl ⟨by simp -dsimp -implicitDefEqProofs only[go_sem,seval],rfl⟩ ?_
 rintro i f u kk bb hi ⟨h3',hall⟩
 have hw:=wrapS i (by omega)
 simp -dsimp -implicitDefEqProofs only[go_sem,seval,h3']
 refine csplit (fun h=> ?_) (fun h=> ?_)<;>(try rw[h])<;>(try simp only[bools]at h)<;>(try simp -dsimp -implicitDefEqProofs only[go_sem,seval,h3'])
 ·obtain⟨s,hs,hsm⟩:=get_of ‹i<x.steps.length›
  have hg:=small_den s.guard 30 (by omega)
  have hno:fewS s=false->false=fewT x:=fun h0=>by rw[fewT,hall,all_stop hs h0];rfl
  simp -dsimp -implicitDefEqProofs only[go_sem,seval,h3',hs,hg]
  refine csplit (fun h=> ?_) (fun h=> ?_)<;>(try rw[h])<;>(try simp only[bools]at h)<;>(try simp -dsimp -implicitDefEqProofs only[go_sem,seval,h3',hs])
  ·exact hno (by simp[fewS];omega)
  ·have e1:(s.guard.size:Int)<=30:=by assumption
   refine csplit (fun h=> ?_) (fun h=> ?_)<;>(try rw[h])<;>(try simp only[bools]at h)<;>(try simp -dsimp -implicitDefEqProofs only[go_sem,seval,h3'])
   ·exact hno (by simp[fewS];omega)
   ·have e2:(s.set.length:Int)<=8:=by omega
    refine loopY 36028792723996692 s.set.length (fun k f'=>(f' 4).v=vi k/\s.set.all fewA=(s.set.drop k).all fewA) rfl rfl ⟨by simp -dsimp -implicitDefEqProofs only[go_sem,seval],rfl⟩ ?_
    rintro k f' u' kk' bb' hk ⟨h4,hall2⟩
    have hw':=wrapS k (by omega)
    simp -dsimp -implicitDefEqProofs only[go_sem,seval,h3',h4,hs]
    refine csplit (fun h=> ?_) (fun h=> ?_)<;>(try rw[h])<;>(try simp only[bools]at h)<;>(try simp -dsimp -implicitDefEqProofs only[go_sem,seval,h3',h4])
    ·obtain⟨a,ha,ham⟩:=get_of ‹k<s.set.length›
     have hga:=small_den a.to 30 (by omega)
     simp -dsimp -implicitDefEqProofs only[go_sem,seval,h3',h4,hs,ha,hga]
     refine csplit (fun h=> ?_) (fun h=> ?_)<;>(try rw[h])<;>(try simp only[bools]at h)<;>(try simp -dsimp -implicitDefEqProofs only[go_sem,seval,h3',h4])
     ·exact hno (by rw[fewS,hall2,all_stop ha (by simp[fewA];omega)];simp)
     ·refine⟨by omega,by simp -dsimp -implicitDefEqProofs only[go_sem,seval,hw'],?_⟩
      rw[hall2,all_step ha (by simp[fewA];omega)]
    ·have:k=s.set.length:=by omega
     subst this
     rw[all_end]at hall2
     refine⟨by omega,by simp -dsimp -implicitDefEqProofs only[go_sem,seval,hw],?_⟩
     rw[hall,all_step hs (by rw[fewS,hall2];simp;omega)]
 ·have:i=x.steps.length:=by omega
  subst this
  rw[all_end]at hall
  clear h3' hw
  refine loopY 590259781561686687780 x.asserts.length (fun i f=>(f 5).v=vi i/\x.asserts.all few60=(x.asserts.drop i).all few60) rfl rfl ⟨by simp -dsimp -implicitDefEqProofs only[go_sem,seval],rfl⟩ ?_
  rintro i f u kk bb hi ⟨h5,hall2⟩
  have hw:=wrapS i (by omega)
  simp -dsimp -implicitDefEqProofs only[go_sem,seval,h5]
  refine csplit (fun h=> ?_) (fun h=> ?_)<;>(try rw[h])<;>(try simp only[bools]at h)<;>(try simp -dsimp -implicitDefEqProofs only[go_sem,seval,h5])
  ·obtain⟨e,he,_⟩:=get_of ‹i<x.asserts.length›
   have hg:=small_den e 60 (by omega)
   simp -dsimp -implicitDefEqProofs only[go_sem,seval,h5,he,hg]
   refine csplit (fun h=> ?_) (fun h=> ?_)<;>(try rw[h])<;>(try simp only[bools]at h)<;>(try simp -dsimp -implicitDefEqProofs only[go_sem,seval,h5])
   ·rw[fewT,hall,hall2,all_stop he (by simp[few60];omega)];rfl
   ·refine⟨by omega,by simp -dsimp -implicitDefEqProofs only[go_sem,seval,hw],?_⟩
    rw[hall2,all_step he (by simp[few60];omega)]
  ·have:i=x.asserts.length:=by omega
   subst this
   rw[all_end]at hall2
   clear h5 hw
   refine loopY 19807040038270274039680335940 x.loops.length (fun i f=>(f 6).v=vi i/\x.loops.all fewL=(x.loops.drop i).all fewL) rfl rfl ⟨by simp -dsimp -implicitDefEqProofs only[go_sem,seval],rfl⟩ ?_
   rintro i f u kk bb hi ⟨h6,hall3⟩
   have hw:=wrapS i (by omega)
   simp -dsimp -implicitDefEqProofs only[go_sem,seval,h6]
   refine csplit (fun h=> ?_) (fun h=> ?_)<;>(try rw[h])<;>(try simp only[bools]at h)<;>(try simp -dsimp -implicitDefEqProofs only[go_sem,seval,h6])
   ·obtain⟨l,hl,_⟩:=get_of ‹i<x.loops.length›
    have hg:=small_den l.variant 30 (by omega)
    have hno:fewL l=false->false=fewT x:=fun h0=>by rw[fewT,hall,hall2,hall3,all_stop hl h0];rfl
    simp -dsimp -implicitDefEqProofs only[go_sem,seval,h6,hl,hg]
    refine csplit (fun h=> ?_) (fun h=> ?_)<;>(try rw[h])<;>(try simp only[bools]at h)<;>(try simp -dsimp -implicitDefEqProofs only[go_sem,seval,h6,hl])
    ·exact hno (by simp[fewL];omega)
    ·have e1:(l.variant.size:Int)<=30:=by assumption
     refine csplit (fun h=> ?_) (fun h=> ?_)<;>(try rw[h])<;>(try simp only[bools]at h)<;>(try simp -dsimp -implicitDefEqProofs only[go_sem,seval,h6])
     ·exact hno (by simp[fewL];omega)
     ·refine⟨by omega,by simp -dsimp -implicitDefEqProofs only[go_sem,seval,hw],?_⟩
      rw[hall3,all_step hl (by simp[fewL];omega)]
   ·have:i=x.loops.length:=by omega
    subst this
    rw[all_end]at hall3
    rw[fewT,hall,hall2,hall3];rfl
def fewGo:Int->List Thread->Bool
 | _,[]=>true
 | n,x::r=>if n+x.steps.length>24\/(x.asserts.length:Int)>48\/(x.modules.length:Int)>48\/(x.loops.length:Int)>8\/fewT x=false then false else fewGo (n+x.steps.length) r
def fewC (m:Contract):Bool:=few60 m.rely&&few60 m.guar&&decide ((m.frame.length:Int)<=32)
def fewM (p:Prog):Bool:=
 decide ((p.cells.length:Int)<=32)&&decide ((p.threads.length:Int)<=4)&&decide ((p.modules.length:Int)<=6)&&decide ((p.locks.length:Int)<=4)&&
  fewGo 0 p.threads&&p.modules.all fewC&&p.locks.all fun l=>few60 l.inv
theorem fewM_den (p:Prog) (hb: ∀x∈p.threads,x.steps.length<2^50):Den Γ G 9 [(.agg [.t (.sl ((p).cells.map (Cell.enc))),.t (.sl ((p).modules.map (Contract.enc))),.t (.sl ((p).locks.map (Lock.enc))),.t (.sl ((p).threads.map (Thread.enc)))])]=some (vb (fewM p)):=by
 (refine den_ofY Γ9 rfl ?_;dsimp only[f9])
 simp -dsimp -implicitDefEqProofs only[go_sem,seval]
 by_cases hl:(p.cells.length:Int)<=32/\(p.threads.length:Int)<=4/\(p.modules.length:Int)<=6/\(p.locks.length:Int)<=4
 ·obtain⟨l1,l2,l3,l4⟩:=hl
  have g1: ¬(p.cells.length:Int)>32:=by omega
  have g2: ¬(p.threads.length:Int)>4:=by omega
  have g3: ¬(p.modules.length:Int)>6:=by omega
  have g4: ¬(p.locks.length:Int)>4:=by omega
  have hF:fewM p=(fewGo 0 p.threads&&p.modules.all fewC&&p.locks.all fun l=>few60 l.inv):=by simp[fewM,l1,l2,l3,l4]
  simp -dsimp -implicitDefEqProofs only[go_sem,seval,g1,g2,g3,g4]
  refine loopY 4722366482868571471932 p.threads.length (fun i f=>(f 4).v=vi i/\ ∃n:Int,0<=n/\n<=24/\(f 3).v=vi n/\fewGo 0 p.threads=fewGo n (p.threads.drop i)) rfl rfl ⟨by simp -dsimp -implicitDefEqProofs only[go_sem,seval],0,by omega,by omega,by simp -dsimp -implicitDefEqProofs only[go_sem,seval],rfl⟩ ?_
  rintro i f u kk bb hi ⟨h4,n,n0,n1,h3,hgo⟩
  have hw:=wrapS i (by omega)
  simp -dsimp -implicitDefEqProofs only[go_sem,seval,h4]
  refine csplit (fun h=> ?_) (fun h=> ?_)<;>(try rw[h])<;>(try simp only[bools]at h)<;>(try simp -dsimp -implicitDefEqProofs only[go_sem,seval,h4])
  ·obtain⟨x,hx,hxm⟩:=get_of ‹i<p.threads.length›
   have hsl:=hb x hxm
   have hwn:IntKind.i64.wrap (n+(x.steps.length:Int))=n+x.steps.length:=wrap64 (by omega)
   rw[drop_of hx,fewGo]at hgo
   simp -dsimp -implicitDefEqProofs only[go_sem,seval,h4,h3,hx,hwn]
   by_cases hbad:n+x.steps.length>24\/(x.asserts.length:Int)>48\/(x.modules.length:Int)>48\/(x.loops.length:Int)>8
   ·rw[if_pos (by rcases hbad with h | h | h | h<;>simp[h])]at hgo
    rw[hF,hgo,Bool.false_and,Bool.false_and]
    repeat'(refine csplit (fun h=> ?_) (fun h=> ?_)<;>(try rw[h])<;>(try simp only[bools]at h)<;>(try simp -dsimp -implicitDefEqProofs only[go_sem,seval,h4]))
    all_goals(exfalso;omega)
   ·have k1: ¬n+(x.steps.length:Int)>24:=by omega
    have k2: ¬(x.asserts.length:Int)>48:=by omega
    have k3: ¬(x.modules.length:Int)>48:=by omega
    have k4: ¬(x.loops.length:Int)>8:=by omega
    have hfw:=few_den x (by omega) (by omega) (by omega)
    simp -dsimp -implicitDefEqProofs only[go_sem,seval,k1,k2,k3,k4,hfw]
    refine csplit (fun h=> ?_) (fun h=> ?_)<;>(try rw[h])<;>(try simp only[bools]at h)<;>(try simp -dsimp -implicitDefEqProofs only[go_sem,seval,h4])
    ·rw[if_pos (by simp[h])]at hgo
     rw[hF,hgo,Bool.false_and,Bool.false_and]
    ·rw[if_neg (by simp[h];omega)]at hgo
     exact⟨by omega,by simp -dsimp -implicitDefEqProofs only[go_sem,seval,hw],n+x.steps.length,by omega,by omega,by simp -dsimp -implicitDefEqProofs only[go_sem,seval],hgo⟩
  ·have:i=p.threads.length:=by omega
   subst this
   rw[List.drop_length,fewGo]at hgo
   rw[hgo,Bool.true_and]at hF
   clear h4 hw h3 hgo
   refine loopY 162259276824490996908708365074500 p.modules.length (fun i f=>(f 6).v=vi i/\p.modules.all fewC=(p.modules.drop i).all fewC) rfl rfl ⟨by simp -dsimp -implicitDefEqProofs only[go_sem,seval],rfl⟩ ?_
   rintro i f u kk bb hi ⟨h6,hall⟩
   have hw:=wrapS i (by omega)
   simp -dsimp -implicitDefEqProofs only[go_sem,seval,h6]
   refine csplit (fun h=> ?_) (fun h=> ?_)<;>(try rw[h])<;>(try simp only[bools]at h)<;>(try simp -dsimp -implicitDefEqProofs only[go_sem,seval,h6])
   ·obtain⟨m,hm,_⟩:=get_of ‹i<p.modules.length›
    have hg1:=small_den m.rely 60 (by omega)
    have hg2:=small_den m.guar 60 (by omega)
    have hno:fewC m=false->false=fewM p:=fun h0=>by rw[hF,hall,all_stop hm h0];rfl
    simp -dsimp -implicitDefEqProofs only[go_sem,seval,h6,hm,hg1]
    refine csplit (fun h=> ?_) (fun h=> ?_)<;>(try rw[h])<;>(try simp only[bools]at h)<;>(try simp -dsimp -implicitDefEqProofs only[go_sem,seval,h6,hm,hg2])
    ·exact hno (by simp[fewC,few60];omega)
    ·have e1:(m.rely.size:Int)<=60:=by assumption
     refine csplit (fun h=> ?_) (fun h=> ?_)<;>(try rw[h])<;>(try simp only[bools]at h)<;>(try simp -dsimp -implicitDefEqProofs only[go_sem,seval,h6,hm])
     ·exact hno (by simp[fewC,few60];omega)
     ·have e2:(m.guar.size:Int)<=60:=by assumption
      refine csplit (fun h=> ?_) (fun h=> ?_)<;>(try rw[h])<;>(try simp only[bools]at h)<;>(try simp -dsimp -implicitDefEqProofs only[go_sem,seval,h6])
      ·exact hno (by simp[fewC,few60];omega)
      ·refine⟨by omega,by simp -dsimp -implicitDefEqProofs only[go_sem,seval,hw],?_⟩
       rw[hall,all_step hm (by simp[fewC,few60];omega)]
   ·have:i=p.modules.length:=by omega
    subst this
    rw[all_end]at hall
    rw[hall,Bool.true_and]at hF
    clear h6 hw hall
    refine loopY 5316749723862834278251836663111090308 p.locks.length (fun i f=>(f 7).v=vi i/\fewM p=(p.locks.drop i).all fun l=>few60 l.inv) rfl rfl ⟨by simp -dsimp -implicitDefEqProofs only[go_sem,seval],hF⟩ ?_
    rintro i f u kk bb hi ⟨h7,hall⟩
    have hw:=wrapS i (by omega)
    simp -dsimp -implicitDefEqProofs only[go_sem,seval,h7]
    refine csplit (fun h=> ?_) (fun h=> ?_)<;>(try rw[h])<;>(try simp only[bools]at h)<;>(try simp -dsimp -implicitDefEqProofs only[go_sem,seval,h7])
    ·obtain⟨l,hl,_⟩:=get_of ‹i<p.locks.length›
     have hg1:=small_den l.inv 60 (by omega)
     simp -dsimp -implicitDefEqProofs only[go_sem,seval,h7,hl,hg1]
     refine csplit (fun h=> ?_) (fun h=> ?_)<;>(try rw[h])<;>(try simp only[bools]at h)<;>(try simp -dsimp -implicitDefEqProofs only[go_sem,seval,h7])
     ·rw[hall,all_stop hl (by simp[few60];omega)]
     ·refine⟨by omega,by simp -dsimp -implicitDefEqProofs only[go_sem,seval,hw],?_⟩
      rw[hall,all_step hl (by simp[few60];omega)]
    ·have:i=p.locks.length:=by omega
     subst this
     rw[hall,all_end]
 ·have hF:fewM p=false:=by
   cases h:fewM p
   ·rfl
   ·exfalso
    simp only[fewM,Bool.and_eq_true,decide_eq_true_eq]at h
    omega
  rw[hF]
  repeat'(refine csplit (fun h=> ?_) (fun h=> ?_)<;>(try rw[h])<;>(try simp only[bools]at h)<;>(try simp -dsimp -implicitDefEqProofs only[go_sem,seval]))
  all_goals(exfalso;omega)
end Rg
end
section
-- FULL
namespace Rg
open Go
structure Prog.lite (p:Prog):Prop where
 steps: ∀x∈p.threads,x.steps.length<2^50
 cname: ∀c∈p.cells,c.name.size<2^50
 mname: ∀m∈p.modules,m.name.size<2^50/\m.owner.size<2^50
 tname: ∀t∈p.threads,t.name.size<2^50
theorem fewGo_mem {l:List Thread}: ∀{n:Int},fewGo n l=true->0<=n-> ∀x∈l,x.steps.length<=24/\x.asserts.length<=48/\x.modules.length<=48/\x.loops.length<=8/\fewT x=true:=by
 induction l with
 | nil=>intro n _ _ x hx;simp at hx
 | cons y r ih=>
   intro n h hn x hx
   rw[fewGo]at h
   split at h
   ·simp at h
   ·rename_i h0
    simp only[not_or,Bool.not_eq_false]at h0
    rcases List.mem_cons.1 hx with rfl | hx
    ·refine⟨by omega,by omega,by omega,by omega,h0.2.2.2.2⟩
    ·exact ih h (by omega) x hx
theorem few_sane {p:Prog} (hl:p.lite) (h:fewM p=true):p.sane:=by
 simp only[fewM,Bool.and_eq_true,decide_eq_true_eq,List.all_eq_true]at h
 obtain⟨⟨⟨⟨⟨⟨h1,h2⟩,h3⟩,h4⟩,h5⟩,h6⟩,h7⟩:=h
 have ht:=fewGo_mem h5 (by omega)
 refine⟨by omega,by omega,by omega,by omega,hl.cname,?_,?_,?_,?_⟩
 ·intro m hm
  have:=h6 m hm
  simp only[fewC,Bool.and_eq_true,decide_eq_true_eq]at this
  exact⟨(hl.mname m hm).1,(hl.mname m hm).2,by omega⟩
 ·intro t hm
  obtain⟨a,b,c,d,_⟩:=ht t hm
  exact⟨hl.tname t hm,by omega,by omega,by omega,by omega⟩
 ·intro t hm s hs
  obtain⟨_,_,_,_,e⟩:=ht t hm
  simp only[fewT,Bool.and_eq_true,List.all_eq_true,fewS,decide_eq_true_eq]at e
  have:=e.1.1 s hs
  omega
 ·intro t hm l hll
  obtain⟨_,_,_,_,e⟩:=ht t hm
  simp only[fewT,Bool.and_eq_true,List.all_eq_true,fewL,decide_eq_true_eq]at e
  have:=e.2 l hll
  omega
end Rg
end
section
namespace Rg
open Go
structure Config.sane (c:Config):Prop where
 mem:c.mem.length<2^48
 at_:c.at_.length<2^48
 buf:c.buf.length<2^48
end Rg
end
section
namespace Rg
open Go
theorem OwnB.cells {h:Nat->Option O} {x:Nat} {v:V} {sz:Nat} {rows:List (List V)} (o:OwnB h x v sz rows):v.cells=some [v]:=by
 rcases o with⟨rfl,_⟩ | ⟨k,rfl,_,_⟩<;>rfl
def startM (p:Prog):Config:=
 if formedM p then⟨p.cells.map Cell.init,p.threads.map fun x=>if x.asleep then -1 else 0,p.threads.map fun _=>[]⟩else⟨[],[],[]⟩
end Rg
end
section
-- FULL
namespace Rg
open Go
end Rg
end
section
-- FULL
namespace Rg
open Go
end Rg
end
section
namespace Rg
open Go
end Rg
end
section
namespace Rg
open Go
end Rg
end
section
namespace Rg
open Go
end Rg
end
section
-- FULL
namespace Rg
open Go
end Rg
end
section
-- FULL
namespace Rg
open Go
end Rg
end
section
namespace Rg
open Go
end Rg
end
section
namespace Rg
open Go
namespace Expr
mutual
def mapL (f:Expr->Expr):Expr->Expr
 | .mk o w n []=>f (.mk o w n [])
 | .mk o w n (k::ks)=> .mk o w n (mapL f k::mapLs f ks)
def mapLs (f:Expr->Expr):List Expr->List Expr
 | []=>[]
 | e::r=>mapL f e::mapLs f r
end
theorem mapLs_eq (f:Expr->Expr): ∀l:List Expr,mapLs f l=l.map (mapL f)
 | []=>rfl
 | e::r=>by rw[mapLs,mapLs_eq f r];rfl
theorem mapL_leaf {f:Expr->Expr} {e:Expr} (h:e.kids=[]):e.mapL f=f e:=by
 obtain⟨o,w,n,ks⟩:=e
 cases ks with
 | nil=>rfl
 | cons k ks=>simp[Expr.kids]at h
theorem mapL_node {f:Expr->Expr} {e:Expr} (h:e.kids≠[]):e.mapL f= .mk e.op e.w e.n (e.kids.map (mapL f)):=by
 obtain⟨o,w,n,ks⟩:=e
 cases ks with
 | nil=>simp[Expr.kids]at h
 | cons k ks=>rw[mapL,mapLs_eq];rfl
end Expr
theorem mapL_same (e:Expr):e.mapL (fun x=>x)=e:=by
 induction e using Expr.ind with
 | _ e ih=>
 by_cases hk:e.kids=[]
 ·exact Expr.mapL_leaf hk
 ·rw[Expr.mapL_node hk]
  have:e.kids.map (Expr.mapL fun x=>x)=e.kids:=by
   have:=List.map_congr_left (f:=Expr.mapL fun x=>x) (g:=id) (l:=e.kids) fun k hk=>ih k hk
   simpa using this
  rw[this]
  obtain⟨o,w,n,ks⟩:=e
  rfl
def asg (set:List Assign) (c:Int):Option Expr:=(set.find? fun a=>decide (a.cell=c)).map Assign.to
end Rg
end
section
namespace Rg
open Go
theorem node_inner {e:Expr} (h:nodeOk e=true) (hk:e.kids≠[]):e.op≠1/\e.op≠2/\e.op≠3:=by
 have ha:=node_arity h
 refine⟨fun ho=> ?_,fun ho=> ?_,fun ho=> ?_⟩<;>rw[ho]at ha<;>simp[arity]at ha<;>exact hk (List.eq_nil_of_length_eq_zero (by omega))
theorem lv_mem {e x:Expr} (h:x∈e.lv):x.kids=[]:=by
 induction e using Expr.ind with
 | _ e ih=>
   rw[Expr.lv_eq]at h
   split at h
   ·rename_i hk;rw[List.mem_singleton.1 h];exact hk
   ·obtain⟨k,hk,hx⟩:=List.mem_flatMap.1 h
    exact ih k hk hx
theorem lv_kid {e k:Expr} (hk:k∈e.kids) {x:Expr} (hx:x∈k.lv):x∈e.lv:=by
 rw[Expr.lv_eq,if_neg (by intro h;rw[h]at hk;simp at hk)]
 exact List.mem_flatMap.2 ⟨k,hk,hx⟩
theorem lv_self {e:Expr} (hk:e.kids=[]):e∈e.lv:=by rw[Expr.lv_eq,if_pos hk];simp
theorem lv_deep {x:Expr}: ∀{d:Nat} {e:Expr},e.deep d=true->x∈e.lv->nodeOk x=true:=by
 intro d
 induction d with
 | zero=>intro e h;simp[Expr.deep]at h
 | succ d ih=>
   intro e h hx
   rw[Expr.lv_eq]at hx
   split at hx
   ·rw[List.mem_singleton.1 hx];exact deep_node h
   ·obtain⟨k,hk,hx⟩:=List.mem_flatMap.1 hx
    exact ih (deep_kid h hk) hx
theorem lv_allE {f:Expr->Bool} {x:Expr}: ∀{e:Expr},e.allE f=true->x∈e.lv->f x=true:=by
 intro e
 induction e using Expr.ind with
 | _ e ih=>
   intro h hx
   rw[Expr.lv_eq]at hx
   split at hx
   ·rw[List.mem_singleton.1 hx];exact Expr.allE_self h
   ·obtain⟨k,hk,hx⟩:=List.mem_flatMap.1 hx
    exact ih k hk (Expr.allE_kid h hk) hx
theorem mapL_ev {f:Expr->Expr} {o1 m1 o2 m2:List Int}: ∀{d:Nat} {e:Expr},e.deep d=true->(∀x∈e.lv,(f x).ev o1 m1=x.ev o2 m2)->(e.mapL f).ev o1 m1=e.ev o2 m2:=by
 intro d
 induction d with
 | zero=>intro e h;simp[Expr.deep]at h
 | succ d ih=>
   intro e h hl
   by_cases hk:e.kids=[]
   ·rw[Expr.mapL_leaf hk];exact hl e (lv_self hk)
   ·obtain⟨n1,n2,n3⟩:=node_inner (deep_node h) hk
    rw[Expr.mapL_node hk,Expr.ev_eq,Expr.ev_eq o2 m2 e]
    have:(e.kids.map (Expr.mapL f)).map (Expr.ev o1 m1)=e.kids.map (Expr.ev o2 m2):=by
     rw[List.map_map]
     exact List.map_congr_left fun k hk=>ih (deep_kid h hk) fun x hx=>hl x (lv_kid hk hx)
    simp only[go_sem,n1,n2,n3,if_false,this]
theorem valid_lv {cells:List Cell} {e x:Expr} (h:e.valid cells false=true) (hx:x∈e.lv):x.kids=[]/\nodeOk x=true/\(x.op=1\/x.op=2/\0<=x.n/\x.n<32/\ ∃c,cells[x.n.toNat]? =some c/\c.w=x.w):=by
 simp only[Expr.valid,Bool.and_eq_true]at h
 have hk:=lv_mem hx
 have hn:=lv_deep (formed_deep h.1) hx
 have hl:=lv_allE h.2 hx
 have hc:=lv_allE (deep_lcS 40 e (formed_deep h.1)) hx
 simp only[lcS,Bool.and_eq_true,decide_eq_true_eq]at hc
 refine⟨hk,hn,?_⟩
 have h3:x.op≠3:=fun h3=>by simp[leafOk,h3]at hl
 rcases hc.1.2 hk with h1 | ⟨h2 | h2,hlt⟩
 ·exact .inl h1
 ·refine .inr ⟨h2,hc.1.1,hlt,?_⟩
  simp only[leafOk,h2]at hl
  cases hcc:cells[x.n.toNat]? with
  | none=>simp[hcc]at hl
  | some c=>exact⟨c,rfl,by simpa[hcc]using hl⟩
 ·exact absurd h2 h3
end Rg
end
section
namespace Rg
open Go
theorem marked_mem (l:List Bool) (m:Nat) (n:Nat):(n:Int)∈marked l m<->n<m/\l.getD n false=true:=by
 unfold marked
 simp only[List.mem_map,List.mem_filter,List.mem_range]
 constructor
 ·rintro⟨j,⟨hj,hg⟩,he⟩
  have:j=n:=by omega
  subst this
  exact⟨hj,hg⟩
 ·rintro⟨hj,hg⟩
  exact⟨n,⟨hj,hg⟩,rfl⟩
theorem fold_mark_keep (op:Int) (n:Nat): ∀(l:List Expr) (s:List Bool),s.getD n false=true->(l.foldl (markS op) s).getD n false=true
 | [],s,h=>h
 | x::l,s,h=>by
   rw[List.foldl_cons]
   refine fold_mark_keep op n l _ ?_
   unfold markS
   split
   ·rw[List.getD_eq_getElem?_getD,List.getElem?_set]
    split
    ·split
     ·rfl
     ·rename_i he hlt
      subst he
      rw[List.getD_eq_getElem?_getD,List.getElem?_eq_none (by omega)]at h
      simp at h
    ·rw[<- List.getD_eq_getElem?_getD];exact h
   ·exact h
theorem fold_mark (op:Int) {n:Nat}: ∀(l:List Expr) (s:List Bool),n<s.length->(∃x∈l,x.op=op/\x.n.toNat=n)->(l.foldl (markS op) s).getD n false=true
 | [],s,_,h=>by obtain⟨x,hx,_⟩:=h;simp at hx
 | y::l,s,hn,h=>by
   rw[List.foldl_cons]
   by_cases hy:y.op=op/\y.n.toNat=n
   ·refine fold_mark_keep op n l _ ?_
    rw[markS,if_pos hy.1,List.getD_eq_getElem?_getD,List.getElem?_set,if_pos hy.2,if_pos (by omega)];rfl
   ·refine fold_mark op l _ (by rw[markS_len];exact hn) ?_
    obtain⟨x,hx,h1⟩:=h
    rcases List.mem_cons.1 hx with rfl | hx
    ·exact absurd h1 hy
    ·exact⟨x,hx,h1⟩
theorem sup_lv {e x:Expr} (hf:e.formed=true) (hx:x∈e.lv) (ho:x.op=2) (h0:0<=x.n) (h1:x.n<32):x.n∈e.sup 2:=by
 rw[Expr.sup,if_pos hf]
 have:=(marked_mem (e.occ 2) 32 x.n.toNat).2 ⟨by omega,fold_mark 2 e.lv _ (by simp;omega) ⟨x,hx,ho,rfl⟩⟩
 rwa[show((x.n.toNat:Nat):Int)=x.n by omega]at this
end Rg
end
section
namespace Rg
open Go
def wOf (p:Prog) (c:Int):Nat:=match p.cells[c.toNat]? with
 | some x=>x.w.toNat
 | none=>0
def stM (p:Prog):List Int->Int->List Int->List Int
 | [],_,s=>s
 | c::r,n,s=>stM p r (n/ 2^wOf p c) (s.set c.toNat (n % 2^wOf p c))
def bitsM (p:Prog) (l:List Int):Nat:=(l.map (wOf p)).sum
def numM (p:Prog) (mem:List Int):List Int->Int
 | []=>0
 | c::r=>atI mem c % 2^wOf p c+2^wOf p c*numM p mem r
theorem stM_len {p:Prog}: ∀(l:List Int) (n:Int) (s:List Int),(stM p l n s).length=s.length
 | [],_,_=>rfl
 | c::r,n,s=>by rw[stM,stM_len r];simp
theorem stM_other {p:Prog} {j:Nat}: ∀{l:List Int} {n:Int} {s:List Int},(∀c∈l,c.toNat≠j)->(stM p l n s).getD j 0=s.getD j 0
 | [],_,_,_=>rfl
 | c::r,n,s,h=>by
   rw[stM,stM_other fun x hx=>h x (by simp[hx])]
   have:=h c (by simp)
   simp[List.getD_eq_getElem?_getD,List.getElem?_set,this]
theorem numM_bound {p:Prog} {mem:List Int}: ∀(l:List Int),0<=numM p mem l/\numM p mem l<2^bitsM p l
 | []=>by simp[numM,bitsM]
 | c::r=>by
   obtain⟨h1,h2⟩:=numM_bound (p:=p) (mem:=mem) r
   have hp:(0:Int)<2^wOf p c:=pow2_pos _
   have h3:=Int.emod_nonneg (atI mem c) (b:=2^wOf p c) (by omega)
   have h4:=Int.emod_lt_of_pos (atI mem c) hp
   have hb:(2:Int)^bitsM p (c::r)=2^wOf p c*2^bitsM p r:=by
    rw[bitsM,List.map_cons,List.sum_cons,Int.pow_add];rfl
   rw[numM,hb]
   constructor
   ·exact Int.add_nonneg h3 (Int.mul_nonneg (by omega) h1)
   ·have h5:(2:Int)^wOf p c*(numM p mem r+1)<=2^wOf p c*2^bitsM p r:=Int.mul_le_mul_of_nonneg_left (by omega) (by omega)
    rw[Int.mul_add]at h5
    omega
theorem stM_num {p:Prog} {mem:List Int}: ∀{l:List Int} {s:List Int},l.Pairwise (fun a b=>a.toNat≠b.toNat)->(∀c∈l,c.toNat<s.length)->
 ∀c∈l,atI (stM p l (numM p mem l) s) c=atI mem c % 2^wOf p c
 | [],_,_,_,c,hc=>by simp at hc
 | x::r,s,hp,hl,c,hc=>by
   obtain⟨p1,p2⟩:=List.pairwise_cons.1 hp
   have hpos:(0:Int)<2^wOf p x:=pow2_pos _
   have h3:=Int.emod_nonneg (atI mem x) (b:=2^wOf p x) (by omega)
   have h4:=Int.emod_lt_of_pos (atI mem x) hpos
   have hd:numM p mem (x::r)/ 2^wOf p x=numM p mem r:=by
    rw[numM,Int.add_mul_ediv_left _ _ (by omega),Int.ediv_eq_zero_of_lt h3 h4,Int.zero_add]
   have hm:numM p mem (x::r) % 2^wOf p x=atI mem x % 2^wOf p x:=by
    rw[numM,Int.add_mul_emod_self_left,Int.emod_emod_of_dvd _ (Int.dvd_refl _)]
   rw[stM,hd,hm]
   rcases List.mem_cons.1 hc with rfl | hc
   ·rw[atI,stM_other fun y hy=>fun e=>p1 y hy e.symm]
    have:=hl c (by simp)
    simp[List.getD_eq_getElem?_getD,List.getElem?_set,this]
   ·exact stM_num p2 (fun y hy=>by simpa using hl y (by simp[hy])) c hc
theorem eval_mod {p:Prog} {e:Expr} (he:e.valid p.cells false=true) {m m' o o':List Int} (h: ∀c∈e.sup 2,atI m c % 2^wOf p c=atI m' c % 2^wOf p c):e.eval o m=e.eval o' m':=by
 have hv:=he
 simp only[Expr.valid,Bool.and_eq_true]at hv
 rw[Expr.eval,Expr.eval,if_pos hv.1,if_pos hv.1]
 have:=mapL_ev (f:=fun x=>x) (o1:=o) (o2:=o') (m1:=m) (m2:=m') (formed_deep hv.1) (fun x hx=>by
  obtain⟨hk,hn,ho⟩:=valid_lv he hx
  rcases ho with ho | ⟨ho,h0,hlt,c,hc,hcw⟩
  ·simp[Expr.ev_eq,ho]
  ·have hm:=sup_lv hv.1 hx ho h0 hlt
   have hg:=h x.n hm
   have hw:wOf p x.n=x.w.toNat:=by rw[wOf,hc];simp[hcw]
   rw[hw]at hg
   simp[Expr.ev_eq,ho,hg])
 rwa[mapL_same]at this
def stepB (p:Prog) (l:List Int) (A V:Expr) (x:List Int×Int) (n:Nat):List Int×Int:=
 (stM p l n x.1,if A.eval (stM p l n x.1) (stM p l n x.1)=1 then(if V.eval (stM p l n x.1) (stM p l n x.1)>x.2 then V.eval (stM p l n x.1) (stM p l n x.1)else x.2)else x.2)
def foldB (p:Prog) (l:List Int) (A V:Expr) (k:Nat):List Int×Int:=(List.range k).foldl (stepB p l A V) (List.replicate p.cells.length 0,0)
def bestM (p:Prog) (l:List Int) (A V:Expr):Int:=(foldB p l A V (2^bitsM p l)).2
theorem foldB_succ (p:Prog) (l:List Int) (A V:Expr) (k:Nat):foldB p l A V (k+1)=stepB p l A V (foldB p l A V k) k:=by
 rw[foldB,List.range_succ,List.foldl_append];rfl
theorem foldB_len (p:Prog) (l:List Int) (A V:Expr): ∀k,(foldB p l A V k).1.length=p.cells.length
 | 0=>by simp[foldB]
 | k+1=>by rw[foldB_succ,stepB];simp only[stM_len];exact foldB_len p l A V k
theorem eval_range (e:Expr) (o m:List Int):0<=e.eval o m/\(e.formed=true->e.eval o m<2^e.w.toNat):=by
 unfold Expr.eval
 split
 ·rename_i h
  have:=ev_bound o m 40 e (formed_deep h)
  exact⟨this.1,fun _=>this.2⟩
 ·rename_i h;exact⟨Int.le_refl 0,fun h'=>absurd h' h⟩
theorem foldB_range (p:Prog) (l:List Int) (A V:Expr) (hV:V.formed=true): ∀k,0<=(foldB p l A V k).2/\(foldB p l A V k).2<2^V.w.toNat
 | 0=>by simp[foldB];exact pow2_pos _
 | k+1=>by
   have ih:=foldB_range p l A V hV k
   have:=eval_range V (stM p l k (foldB p l A V k).1) (stM p l k (foldB p l A V k).1)
   rw[foldB_succ,stepB]
   simp only
   split
   ·split
    ·exact⟨this.1,this.2 hV⟩
    ·exact ih
   ·exact ih
theorem foldB_step (p:Prog) (l:List Int) (A V:Expr) (k:Nat):(foldB p l A V k).2<=(foldB p l A V (k+1)).2:=by
 rw[foldB_succ,stepB]
 simp only
 split
 ·split<;>omega
 ·exact Int.le_refl _
theorem foldB_mono (p:Prog) (l:List Int) (A V:Expr) {i:Nat}: ∀{k:Nat},i<=k->(foldB p l A V i).2<=(foldB p l A V k).2
 | 0,h=>by have:i=0:=by omega
           subst this;exact Int.le_refl _
 | k+1,h=>by
   rcases Nat.lt_or_ge k i with hi | hi
   ·have:i=k+1:=by omega
    subst this;exact Int.le_refl _
   ·exact Int.le_trans (foldB_mono p l A V hi) (foldB_step p l A V k)
theorem best_ge {p:Prog} {l:List Int} {A V:Expr} (hA:A.valid p.cells false=true) (hV:V.valid p.cells false=true) (hsA: ∀c∈A.sup 2,c∈l) (hsV: ∀c∈V.sup 2,c∈l)
 (hp:l.Pairwise (fun a b=>a.toNat≠b.toNat)) (hl: ∀c∈l,c.toNat<p.cells.length) (mem:List Int) (h1:A.eval mem mem=1):V.eval mem mem<=bestM p l A V:=by
 obtain⟨n0,n1⟩:=numM_bound (p:=p) (mem:=mem) l
 obtain⟨n,hn⟩: ∃n:Nat,(n:Int)=numM p mem l:=⟨(numM p mem l).toNat,by omega⟩
 have hlt:n<2^bitsM p l:=by
  have:((2^bitsM p l:Nat):Int)=2^bitsM p l:=by simp
  omega
 have hst:=stM_num (p:=p) (mem:=mem) hp (s:=(foldB p l A V n).1) (by rw[foldB_len];exact hl)
 rw[<- hn]at hst
 have hag: ∀c∈l,atI mem c % 2^wOf p c=atI (stM p l n (foldB p l A V n).1) c % 2^wOf p c:=fun c hc=>by rw[hst c hc,Int.emod_emod_of_dvd _ (Int.dvd_refl _)]
 have eA:=eval_mod hA (o:=mem) (o':=stM p l n (foldB p l A V n).1) fun c hc=>hag c (hsA c hc)
 have eV:=eval_mod hV (o:=mem) (o':=stM p l n (foldB p l A V n).1) fun c hc=>hag c (hsV c hc)
 have h2:V.eval mem mem<=(foldB p l A V (n+1)).2:=by
  rw[foldB_succ,stepB]
  simp only
  rw[<- eA,h1,<- eV,if_pos rfl]
  split<;>omega
 exact Int.le_trans h2 (foldB_mono p l A V (by omega))
def insideM (l:Loop) (a:Int):Bool:=decide (a=l.head)||l.body.contains a
def hasLoop (p:Prog) (t j:Int):Bool:=formedM p&&(decide (0<=t)&&(decide (0<=j)&&match p.threads[t.toNat]? with
 | some x=>decide (j<x.loops.length)
 | none=>false))
theorem hasLoop_of {p:Prog} {t j:Int} (h:hasLoop p t j=true):formedM p=true/\ ∃(tn jn:Nat) (x:Thread) (l:Loop),t=tn/\j=jn/\p.threads[tn]? =some x/\x.loops[jn]? =some l:=by
 simp only[hasLoop,Bool.and_eq_true,decide_eq_true_eq]at h
 obtain⟨h1,h2,h3,h4⟩:=h
 refine⟨h1,t.toNat,j.toNat,?_⟩
 cases hx:p.threads[t.toNat]? with
 | none=>rw[hx]at h4;cases h4
 | some x=>
   rw[hx]at h4
   have hj:j.toNat<x.loops.length:=by simp only[decide_eq_true_eq]at h4;omega
   exact⟨x,x.loops[j.toNat],by omega,by omega,rfl,List.getElem?_eq_getElem hj⟩
theorem hasR_den (p:Prog) (hs:p.sane) (t j:Int):Den Γ G 348 [(.agg [.t (.sl ((p).cells.map (Cell.enc))),.t (.sl ((p).modules.map (Contract.enc))),.t (.sl ((p).locks.map (Lock.enc))),.t (.sl ((p).threads.map (Thread.enc)))]),vi t,vi j]=some (vb (hasLoop p t j)):=by
 have h1:=formedR_den p hs
 (refine den_ofY Γ348 rfl ?_;dsimp only[f348])
 cases hf:formedM p
 ·rw[hf]at h1
  have:hasLoop p t j=false:=by simp[hasLoop,hf]
  rw[this]
  simp -dsimp -implicitDefEqProofs only[go_sem,seval,h1]
 ·rw[hf]at h1
  by_cases ht:0<=t
  ·obtain⟨n,rfl⟩: ∃n:Nat,t=n:=⟨t.toNat,by omega⟩
   have e0:((n:Int)>=0):=by omega
   by_cases hn:n<p.threads.length
   ·have hn':((n:Int)<(p.threads.length:Int)):=by omega
    have hx:=List.getElem?_eq_getElem hn
    generalize p.threads[n]=x at hx
    have:hasLoop p n j=(decide (0<=j)&&decide (j<x.loops.length)):=by simp[hasLoop,hf,hx]
    rw[this]
    by_cases hj:j>=0
    ·have hj':0<=j:=hj
     simp -dsimp -implicitDefEqProofs only[go_sem,seval,h1,e0,hn',hj,hj',hx]
    ·have hj': ¬0<=j:=hj
     simp -dsimp -implicitDefEqProofs only[go_sem,seval,h1,e0,hn',hj,hj',Bool.false_and]
   ·have hn': ¬((n:Int)<(p.threads.length:Int)):=by omega
    have hx:p.threads[n]? =none:=List.getElem?_eq_none (by omega)
    have:hasLoop p n j=false:=by simp[hasLoop,hf,hx]
    rw[this]
    simp -dsimp -implicitDefEqProofs only[go_sem,seval,h1,e0,hn']
  ·have e0: ¬(t>=0):=ht
   have:hasLoop p t j=false:=by simp[hasLoop,ht]
   rw[this]
   simp -dsimp -implicitDefEqProofs only[go_sem,seval,h1,e0]
theorem good36_den (p:Prog) (hl:p.lite) (t j:Int):Den Γ G 335 [(.agg [.t (.sl ((p).cells.map (Cell.enc))),.t (.sl ((p).modules.map (Contract.enc))),.t (.sl ((p).locks.map (Lock.enc))),.t (.sl ((p).threads.map (Thread.enc)))]),vi t,vi j]=some (vb (fewM p&&hasLoop p t j)):=by
 have h1:=fewM_den p hl.steps
 (refine den_ofY Γ335 rfl ?_;dsimp only[f335])
 cases hf:fewM p
 ·rw[hf]at h1
  simp -dsimp -implicitDefEqProofs only[go_sem,seval,h1,Bool.false_and]
 ·rw[hf]at h1
  have h2:=hasR_den p (few_sane hl hf) t j
  simp -dsimp -implicitDefEqProofs only[go_sem,seval,h1,h2,Bool.true_and]
theorem valid36_den (p:Prog) (hs:p.sane) (hf:formedM p=true) {t j:Nat} {x:Thread} {l:Loop} (hx:p.threads[t]? =some x) (hl:x.loops[j]? =some l):Den Γ G 349 [(.agg [.t (.sl ((p).cells.map (Cell.enc))),.t (.sl ((p).modules.map (Contract.enc))),.t (.sl ((p).locks.map (Lock.enc))),.t (.sl ((p).threads.map (Thread.enc)))]),vi t,vi j]=some (vb true):=by
 have h1:=validP7_den p hs
 have h0:(validM p).1=0:=by simpa[formedM]using hf
 have e1:((t:Int)>=0):=by omega
 have e2:((j:Int)>=0):=by omega
 have e3:((t:Int)<(p.threads.length:Int)):=by have:=(List.getElem?_eq_some_iff.1 hx).1;omega
 have e4:((j:Int)<(x.loops.length:Int)):=by have:=(List.getElem?_eq_some_iff.1 hl).1;omega
 (refine den_ofY Γ349 rfl ?_;dsimp only[f349])
 simp -dsimp -implicitDefEqProofs only[go_sem,seval,h1,h0,e1,e2,e3,e4,hx]
abbrev num (z:Int):List UInt8:=Go.Lib.itoa z
def opName (op:Int):List UInt8:=
 if op=4 then [110,111,116]else if op=5 then [97,110,100]else if op=6 then [111,114]else if op=7 then [120,111,114]else if op=8 then [97,100,100]
 else if op=9 then [115,117,98]else if op=10 then [109,117,108]else if op=11 then [101,113]else if op=12 then [108,116]else if op=13 then [108,101]else [105,116,101]
def letter (op:Int):List UInt8:=if op=2 then [99]else if op=3 then [111]else []
def commas:List (List UInt8)->List UInt8
 | []=>[]
 | [x]=>x
 | x::r=>x++44::commas r
namespace Expr
mutual
def txt:Expr->List UInt8
 | .mk op w n ks=>if op=1\/op=2\/op=3 then letter op++num n++[58]++num w else opName op++[40]++commas (txts ks)++[41]
def txts:List Expr->List (List UInt8)
 | []=>[]
 | e::r=>txt e::txts r
end
end Expr
theorem fe_all {α:Type} {f:Nat->α->Int}: ∀{l:List α} {i:Nat},(feGo f i l).1=0<-> ∀(j:Nat) (x:α),l[j]? =some x->f (i+j) x=0
 | [],i=>by simp[feGo]
 | y::r,i=>by
   rw[feGo]
   constructor
   ·intro h j x hj
    split at h
    ·rename_i h0
     cases j with
     | zero=>simp at hj;subst hj;exact h0
     | succ j=>
       have:=(fe_all (l:=r) (i:=i+1)).1 h j x (by simpa using hj)
       rwa[show i+1+j=i+(j+1)by omega]at this
    ·rename_i h0;exact absurd h h0
   ·intro h
    have h0:f i y=0:=h 0 y rfl
    rw[if_pos h0]
    refine(fe_all (l:=r) (i:=i+1)).2 fun j x hj=> ?_
    have:=h (j+1) x (by simpa using hj)
    rwa[show i+(j+1)=i+1+j by omega]at this
theorem thr_all {p:Prog}: ∀{l:List Thread} {i:Nat},(thrGo p i l).1=0<-> ∀(j:Nat) (x:Thread),l[j]? =some x->(threadErr p (i+j) x).1=0
 | [],i=>by simp[thrGo]
 | y::r,i=>by
   rw[thrGo]
   constructor
   ·intro h j x hj
    split at h
    ·rename_i h0
     cases j with
     | zero=>simp at hj;subst hj;exact h0
     | succ j=>
       have:=(thr_all (l:=r) (i:=i+1)).1 h j x (by simpa using hj)
       rwa[show i+1+j=i+(j+1)by omega]at this
    ·rename_i h0;exact absurd h h0
   ·intro h
    have h0:(threadErr p i y).1=0:=h 0 y rfl
    rw[if_pos h0]
    refine(thr_all (l:=r) (i:=i+1)).2 fun j x hj=> ?_
    have:=h (j+1) x (by simpa using hj)
    rwa[show i+(j+1)=i+1+j by omega]at this
abbrev Prog.ok (p:Prog):Prop:=(validM p).1=0
structure Rules (p:Prog):Prop where
 lim:(limitsM p).1=0
 cells: ∀(i:Nat) (c:Cell),p.cells[i]? =some c->cellErr p i c=0
 modules: ∀(i:Nat) (m:Contract),p.modules[i]? =some m->modErr p i m=0
 locks: ∀(i:Nat) (l:Lock),p.locks[i]? =some l->lockErr p i l=0
 threads: ∀(i:Nat) (x:Thread),p.threads[i]? =some x->(threadErr p i x).1=0
theorem ok_iff {p:Prog}:p.ok<->Rules p:=by
 unfold Prog.ok validM
 constructor
 ·intro h
  split at h
  ·rename_i h0;exact absurd h h0
  ·rename_i h0
   split at h
   ·rename_i h1;exact absurd h h1
   ·rename_i h1
    split at h
    ·rename_i h2;exact absurd h h2
    ·rename_i h2
     split at h
     ·rename_i h3;exact absurd h h3
     ·rename_i h3
      simp only[Decidable.not_not]at h0 h1 h2 h3
      exact⟨h0,by simpa[cellsM,fe_all]using h1,by simpa[modulesM,fe_all]using h2,by simpa[locksM,fe_all]using h3,by simpa[thr_all]using h⟩
 ·rintro⟨h0,h1,h2,h3,h4⟩
  have g1:cellsM p=0:=by unfold cellsM;rw[fe_all];simpa using h1
  have g2:modulesM p=0:=by unfold modulesM;rw[fe_all];simpa using h2
  have g3:locksM p=0:=by unfold locksM;rw[fe_all];simpa using h3
  rw[if_neg (by simpa using h0),if_neg (by simpa using g1),if_neg (by simpa using g2),if_neg (by simpa using g3),thr_all]
  simpa using h4
theorem cellErr_iff {p:Prog} {i:Nat} {c:Cell}:cellErr p i c=0<->cellBad p c=false/\(p.cells.take i).any (fun d=>d.name.toList==c.name.toList)=false:=by
 unfold cellErr
 cases cellBad p c<;>cases(p.cells.take i).any (fun d=>d.name.toList==c.name.toList)<;>simp
theorem loopErr_iff {p:Prog} {t n:Int} {l:Loop}:loopErr p t n l=0<->(inR l.head n=true/\rising l.body=true/\l.body.all (fun k=>inR k n&&decide (k≠l.head))=true)/\l.variant.valid p.cells false=true/\overOk p l.variant true t=true:=by
 unfold loopErr
 cases inR l.head n<;>cases rising l.body<;>cases l.body.all (fun k=>inR k n&&decide (k≠l.head))<;>cases l.variant.valid p.cells false<;>cases overOk p l.variant true t<;>simp
theorem threadErr_iff {p:Prog} {i:Nat} {x:Thread}:(threadErr p i x).1=0<->isLabel x.name=true/\(p.threads.take i).any (fun d=>d.name.toList==x.name.toList)=false/\(1<=x.points/\(x.asserts.length:Int)=x.points/\(x.modules.length:Int)=x.points)/\
 x.modules.all (fun m=>inR m p.modules.length)=true/\x.asserts.all (fun e=>truthOk p e false i)=true/\(∀(j:Nat) (s:Step),x.steps[j]? =some s->stepErr p i x.points s=0)/\(∀(j:Nat) (l:Loop),x.loops[j]? =some l->loopErr p i x.points l=0):=by
 unfold threadErr
 have hs:(feGo (fun _ s=>stepErr p i x.points s) 0 x.steps).1=0<-> ∀(j:Nat) (s:Step),x.steps[j]? =some s->stepErr p i x.points s=0:=by rw[fe_all]
 have hl:(feGo (fun _ l=>loopErr p i x.points l) 0 x.loops).1=0<-> ∀(j:Nat) (l:Loop),x.loops[j]? =some l->loopErr p i x.points l=0:=by rw[fe_all]
 rw[<- hs,<- hl]
 cases isLabel x.name
 ·simp
 ·cases(p.threads.take i).any (fun d=>d.name.toList==x.name.toList)
  ·by_cases h1:x.points<1\/ ¬(x.asserts.length:Int)=x.points\/ ¬(x.modules.length:Int)=x.points
   ·simp only[Bool.not_true,Bool.false_eq_true,if_false,if_pos h1]
    constructor
    ·intro h;cases h
    ·rintro⟨_,_,h,_⟩;omega
   ·have h1':1<=x.points/\(x.asserts.length:Int)=x.points/\(x.modules.length:Int)=x.points:=by omega
    simp only[Bool.not_true,Bool.false_eq_true,if_false,if_neg h1]
    cases x.modules.all (fun m=>inR m p.modules.length)
    ·simp
    ·cases x.asserts.all (fun e=>truthOk p e false i)
     ·simp
     ·by_cases h0:(feGo (fun _ s=>stepErr p i x.points s) 0 x.steps).1=0
      ·simp[h0,h1']
      ·simp[h0,h1']
  ·simp
theorem limits_iff {p:Prog}:(limitsM p).1=0<->(p.cells.length<=32/\p.modules.length<=6/\p.locks.length<=4/\p.threads.length<=4)/\ ∀x∈p.threads,x.points<=48/\x.steps.length<=64/\x.loops.length<=8:=by
 unfold limitsM
 split
 ·rename_i h
  constructor
  ·intro h;cases h
  ·rintro⟨h',_⟩;omega
 ·rename_i h
  rw[fe_all]
  constructor
  ·intro h2
   refine⟨by omega,fun x hx=> ?_⟩
   obtain⟨j,hj,rfl⟩:=List.mem_iff_getElem.1 hx
   have:=h2 j _ (List.getElem?_eq_getElem hj)
   cases hb:threadBad p.threads[j]
   ·simp only[threadBad,Bool.or_eq_false_iff,decide_eq_false_iff_not]at hb
    omega
   ·simp[hb]at this
  ·rintro⟨_,h2⟩ j x hx
   have:=h2 x (List.mem_of_getElem? hx)
   have hb:threadBad x=false:=by
    simp only[threadBad,Bool.or_eq_false_iff,decide_eq_false_iff_not];omega
   simp[hb]
end Rg
end
section
set_option maxRecDepth 100000
namespace Rg
open Go
def Expr.text (e:Expr):List UInt8:=if e.formed then e.txt else []
end Rg
end
section
set_option maxRecDepth 100000
namespace Rg
open Go
end Rg
end
section
set_option maxRecDepth 100000
namespace Rg
open Go
def lineT (ws:List (List UInt8)):List UInt8:=Go.Lib.join ws [32]++[10]
end Rg
end
section
set_option maxRecDepth 100000
namespace Rg
open Go
def loopW (l:Loop):List (List UInt8):=[[108,111,111,112],num l.head,l.variant.text]
def loopX (l:Loop):List UInt8:=lineT (loopW l++l.body.map num)
end Rg
end
section
set_option maxRecDepth 100000
namespace Rg
open Go
end Rg
end
section
set_option maxRecDepth 100000
namespace Rg
open Go
end Rg
end
section
namespace Rg
open Go
end Rg
end
section
set_option maxRecDepth 100000
namespace Rg
open Go
end Rg
end
section
namespace Rg
open Go
theorem compactUp_sorted (zs:List Int) (hs:zs.Pairwise (· <= ·)) (m:Nat) (hm:m<=zs.length):(Go.Lib.compactUpTo zs.toArray m).Pairwise (· < ·):=by
 have hget: ∀i j:Nat,i<=j->j<zs.length->zs.toArray[i]! <=zs.toArray[j]! :=by
  intro i j hij hj
  rw[getElem!_pos zs.toArray i (by simp;omega),getElem!_pos zs.toArray j (by simp;omega)]
  simp only[List.getElem_toArray]
  rcases Nat.lt_or_eq_of_le hij with h | h
  ·exact List.pairwise_iff_getElem.1 hs i j (by omega) hj h
  ·subst h;exact Int.le_refl _
 unfold Go.Lib.compactUpTo
 rw[List.pairwise_map]
 have h0:=(List.pairwise_lt_range (n:=m)).filter (Go.Lib.keeps zs.toArray)
 refine h0.imp_of_mem ?_
 intro a b ha hb hab
 have hb1:=List.mem_range.1 (List.mem_filter.1 hb).1
 have hk:=(List.mem_filter.1 hb).2
 have h1:=hget a (b-1) (by omega) (by omega)
 have h2:=hget (b-1) b (by omega) (by omega)
 simp only[Go.Lib.keeps,Bool.or_eq_true,decide_eq_true_eq,bne_iff_ne,ne_eq]at hk
 rcases hk with hk | hk
 ·omega
 ·omega
theorem sortedM_sorted (l:List Int):(sortedM l).Pairwise (· < ·):=by
 unfold sortedM Go.Lib.compact
 refine compactUp_sorted _ ?_ _ (Nat.le_refl _)
 have:=List.pairwise_mergeSort (le:=fun x y:Int=>decide (x<=y)) (by intro a b c h1 h2;simp at *;omega) (by intro a b;simp;omega) l
 exact this.imp (by intro a b h;simpa using h)
structure LoopF (p:Prog) (x:Thread) (l:Loop) (A:Expr):Prop where
 h0:0<=l.head
 hA:x.asserts[l.head.toNat]? =some A
 vA:A.valid p.cells false=true
 wA:A.w=1
 vV:l.variant.valid p.cells false=true
 nb:insideM l (-1)=false
theorem loopF_of {p:Prog} (hf:formedM p=true) {t j:Nat} {x:Thread} {l:Loop} (hx:p.threads[t]? =some x) (hl:x.loops[j]? =some l): ∃A,LoopF p x l A:=by
 have hr:=ok_iff.1 (show p.ok by simpa[formedM]using hf)
 obtain⟨_,_,⟨h1,h2,_⟩,_,h3,_,h4⟩:=threadErr_iff.1 (hr.threads t x hx)
 obtain⟨⟨g1,g2,g3⟩,g4,_⟩:=loopErr_iff.1 (h4 j l hl)
 have hb:=(limits_iff.1 hr.lim).2 x (List.mem_of_getElem? hx)
 simp only[inR,decide_eq_true_eq]at g1
 have hlt:l.head.toNat<x.asserts.length:=by omega
 have hA:=List.getElem?_eq_getElem hlt
 have ht:=List.all_eq_true.1 h3 _ (List.mem_of_getElem? hA)
 simp only[truthOk,Bool.and_eq_true,decide_eq_true_eq]at ht
 have hbody: ∀k∈l.body,0<=k/\k<x.points:=fun k hk=>by
  have:=List.all_eq_true.1 g3 k hk
  simp only[inR,Bool.and_eq_true,decide_eq_true_eq]at this
  exact this.1
 refine⟨_,g1.1,hA,ht.1.1,ht.1.2,g4,?_⟩
 ·simp only[insideM,Bool.or_eq_false_iff,decide_eq_false_iff_not]
  refine⟨by omega,?_⟩
  cases hc:l.body.contains (-1)
  ·rfl
  ·have:=hbody (-1) (by simpa using hc)
   omega
theorem pow_shl {w:Int} (h:1<=w/\w<=12):IntKind.i64.wrap (1*2^min w.toNat IntKind.i64.bits)=2^w.toNat:=by
 have:(2:Int)^w.toNat<=2^12:=pow2_le (i:=w.toNat) (k:=12) (by omega)
 have:=pow2_pos w.toNat
 rw[show min w.toNat IntKind.i64.bits=w.toNat from Nat.min_eq_left (by show w.toNat<=64;omega),Int.one_mul]
 exact wrap64 (by omega)
theorem pow_sub {w:Int} (h:1<=w/\w<=12):IntKind.i64.wrap (2^w.toNat-1)=2^w.toNat-1:=by
 have:(2:Int)^w.toNat<=2^12:=pow2_le (i:=w.toNat) (k:=12) (by omega)
 have:=pow2_pos w.toNat
 exact wrap64 (by omega)
theorem shr_div {a:Int} {w:Int} (h:1<=w/\w<=12):a.fdiv (2^min w.toNat IntKind.i64.bits)=a/ 2^w.toNat:=by
 have:=pow2_pos w.toNat
 rw[show min w.toNat IntKind.i64.bits=w.toNat from Nat.min_eq_left (by show w.toNat<=64;omega),Int.fdiv_eq_ediv_of_nonneg _ (by omega)]
theorem bitsM_snoc (p:Prog) (l:List Int) (c:Int):bitsM p (l++[c])=bitsM p l+wOf p c:=by simp[bitsM]
theorem stM_snoc (p:Prog) (c:Int): ∀(l:List Int) (n:Int) (s:List Int),stM p (l++[c]) n s=(stM p l n s).set c.toNat (n/ 2^bitsM p l % 2^wOf p c)
 | [],n,s=>by simp[stM,bitsM]
 | x::l,n,s=>by
   rw[List.cons_append,stM,stM_snoc p c l,stM]
   have:bitsM p (x::l)=wOf p x+bitsM p l:=by simp[bitsM]
   rw[this,Int.pow_add,<- Int.ediv_ediv_of_nonneg (Int.le_of_lt (pow2_pos _))]
end Rg
end
section
namespace Rg
open Go
end Rg
end
section
namespace Rg
open Go
end Rg
end
section
set_option maxRecDepth 10000
namespace Rg
open Go
end Rg
end
section
namespace Rg
open Go
end Rg
end
section
set_option maxRecDepth 10000
namespace Rg
open Go
end Rg
end
section
namespace Rg
open Go
theorem nodup_len: ∀(n:Nat) (l:List Int),l.Nodup->(∀x∈l,0<=x/\x<n)->l.length<=n
 | 0,[],_,_=>Nat.le_refl _
 | 0,x::l,_,hl=>by have:=hl x List.mem_cons_self;omega
 | n+1,l,hnd,hl=>by
   have h:=nodup_len n (l.erase (n:Int)) (hnd.erase _) fun x hx=>by
    have h1:=hnd.mem_erase_iff.1 hx
    have h2:=hl x h1.2
    have h3:=h1.1
    omega
   rw[List.length_erase]at h
   split at h<;>omega
end Rg
end
