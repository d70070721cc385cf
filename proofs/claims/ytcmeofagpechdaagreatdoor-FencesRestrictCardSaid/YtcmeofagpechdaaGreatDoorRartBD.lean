/- Part of the proof of laws of relyguardlaw31. No condition. -/
import Derived.Test.YtcmeofagpechdaaGreatDoorRartAZ
import Derived.Test.YtcmeofagpechdaaGreatDoorRartBC
set_option linter.unusedSimpArgs false
set_option linter.unusedVariables false
section
namespace Rg
open Go
def formedM (p:Prog):Bool:=decide ((validM p).1=0)
theorem zxD (p:Prog) (hs:p.sane):Den Γ G 38 [(.agg [.t (.sl ((p).cells.map (Cell.enc))),.t (.sl ((p).modules.map (Contract.enc))),.t (.sl ((p).locks.map (Lock.enc))),.t (.sl ((p).threads.map (Thread.enc)))])]=some (vb (formedM p)):=by
 (refine den_ofY Γ38 rfl ?_;dsimp only[f38])
 have h1:=zep p hs;simp -dsimp only[go_sem,seval,h1];rfl
theorem zh2 (p:Prog) (hs:p.sane):Den Γ G 39 [(.agg [.t (.sl ((p).cells.map (Cell.enc))),.t (.sl ((p).modules.map (Contract.enc))),.t (.sl ((p).locks.map (Lock.enc))),.t (.sl ((p).threads.map (Thread.enc)))])]=some (vb (formedM p)):=by
 (refine den_ofY Γ39 rfl ?_;dsimp only[f39])
 have h1:=zjf p hs;simp -dsimp only[go_sem,seval,h1];rfl
theorem zip_get {α β:Type} {l:List α} {m:List β} {i:Nat} {a:α} {b:β} (h1:l[i]? =some a) (h2:m[i]? =some b):(l.zip m)[i]? =some (a,b):=by
 rw[List.getElem?_zip_eq_some];exact⟨h1,h2⟩
def zxw (q:Int×Cell):Bool:=decide (0<=q.1)&&decide (q.1<2^q.2.w.toNat)
def zyb (q:Int×Thread):Bool:=decide (-1<=q.1)&&decide (q.1<q.2.points)&& !(decide (q.1= -1)&& !q.2.asleep)
def zCs (p:Prog) (mem at_:List Int):Bool:=
 decide (mem.length=p.cells.length)&&decide (at_.length=p.threads.length)&&(mem.zip p.cells).all zxw&&(at_.zip p.threads).all zyb
def isM (p:Prog) (c:Config):Bool:=zCs p c.mem c.at_&&decide (c.buf.length=p.threads.length)&&c.buf.all List.isEmpty
theorem formed_limits {p:Prog} (h:formedM p=true):(limitsM p).1=0/\cellsM p=0/\modulesM p=0/\locksM p=0/\thrGo p 0 p.threads=(0,-1,-1):=by
 rw[formedM,decide_eq_true_eq,validM]at h
 have key: ∀(l:List Thread) (i:Nat),(thrGo p i l).1=0->thrGo p i l=(0,-1,-1):=by
  intro l
  induction l with
  | nil=>intro i _;rfl
  | cons x r ih=>
    intro i h;rw[thrGo]at h⊢;split at h
    ·rename_i h0;rw[if_pos h0];exact ih _ h
    ·rename_i h0;exact absurd h h0
 split at h
 ·rename_i h0;exact absurd h h0
 ·rename_i h0;split at h
  ·rename_i h1;exact absurd h h1
  ·rename_i h1;split at h
   ·rename_i h2;exact absurd h h2
   ·rename_i h2;split at h
    ·rename_i h3;exact absurd h h3
    ·rename_i h3;exact⟨by simpa using h0,by simpa using h1,by simpa using h2,by simpa using h3,key _ _ h⟩
theorem formed_cell {p:Prog} (h:formedM p=true) {x:Cell} (hx:x∈p.cells):1<=x.w/\x.w<=8/\0<=x.init/\x.init<2^x.w.toNat:=by
 have:=cellBad_parts (cellsM_thread (formed_limits h).2.1 x hx);exact⟨this.2.1,this.2.2.1,this.2.2.2.1,this.2.2.2.2.1⟩
end Rg
end
section
namespace Rg
open Go
def zoU (a:Assign):Bool:=decide ((a.to.size:Int)<=30)
def zlz (s:Step):Bool:=decide ((s.guard.size:Int)<=30)&&decide ((s.set.length:Int)<=8)&&s.set.all zoU
def zme (l:Loop):Bool:=decide ((l.variant.size:Int)<=30)&&decide ((l.body.length:Int)<=48)
def zb5 (e:Expr):Bool:=decide ((e.size:Int)<=60)
def fewT (x:Thread):Bool:=x.steps.all zlz&&x.asserts.all zb5&&x.loops.all zme
theorem zoT (x:Thread) (h1:x.steps.length<2^40) (h2:x.asserts.length<2^40) (h3:x.loops.length<2^40):Den Γ G 36 [(.agg [.t (.str (x).name),.t (ti (x).points),.t (.sl ((x).asserts.map Expr.enc)),.t (ints (x).modules),.t (.sl ((x).steps.map Step.enc)),.t (.sl ((x).loops.map Loop.enc)),.t (tb (x).asleep)])]=some (vb (fewT x)):=by
 (refine den_ofY Γ36 rfl ?_;dsimp only[f36])
 simp -dsimp only[go_sem,seval];refine zaz 36028797018963868 x.steps.length (fun i f=>(f 3).v=vi i/\x.steps.all zlz=(x.steps.drop i).all zlz) rfl rfl ⟨by simp -dsimp only[go_sem,seval],rfl⟩ ?_;rintro i f u kk bb hi ⟨h3',hall⟩;have hw:=zah i (by omega);simp -dsimp only[go_sem,seval,h3'];refine csplit (fun h=> ?_) (fun h=> ?_)<;>(try rw[h])<;>(try simp only[zab]at h)<;>(try simp -dsimp only[go_sem,seval,h3'])
 ·obtain⟨s,hs,hsm⟩:=zaf ‹i<x.steps.length›;have hg:=zbF s.guard 30 (by omega);have hno:zlz s=false->false=fewT x:=fun h0=>by rw[fewT,hall,zaM hs h0];rfl
  simp -dsimp only[go_sem,seval,h3',hs,hg];refine csplit (fun h=> ?_) (fun h=> ?_)<;>(try rw[h])<;>(try simp only[zab]at h)<;>(try simp -dsimp only[go_sem,seval,h3',hs])
  ·exact hno (by simp[zlz];omega)
  ·have e1:(s.guard.size:Int)<=30:=by assumption
   refine csplit (fun h=> ?_) (fun h=> ?_)<;>(try rw[h])<;>(try simp only[zab]at h)<;>(try simp -dsimp only[go_sem,seval,h3'])
   ·exact hno (by simp[zlz];omega)
   ·have e2:(s.set.length:Int)<=8:=by omega
    refine zaz 36028792723996692 s.set.length (fun k f'=>(f' 4).v=vi k/\s.set.all zoU=(s.set.drop k).all zoU) rfl rfl ⟨by simp -dsimp only[go_sem,seval],rfl⟩ ?_;rintro k f' u' kk' bb' hk ⟨h4,hall2⟩;have hw':=zah k (by omega);simp -dsimp only[go_sem,seval,h3',h4,hs];refine csplit (fun h=> ?_) (fun h=> ?_)<;>(try rw[h])<;>(try simp only[zab]at h)<;>(try simp -dsimp only[go_sem,seval,h3',h4])
    ·obtain⟨a,ha,ham⟩:=zaf ‹k<s.set.length›;have hga:=zbF a.to 30 (by omega);simp -dsimp only[go_sem,seval,h3',h4,hs,ha,hga];refine csplit (fun h=> ?_) (fun h=> ?_)<;>(try rw[h])<;>(try simp only[zab]at h)<;>(try simp -dsimp only[go_sem,seval,h3',h4])
     ·exact hno (by rw[zlz,hall2,zaM ha (by simp[zoU];omega)];simp)
     ·refine⟨by omega,by simp -dsimp only[go_sem,seval,hw'],?_⟩;rw[hall2,zaN ha (by simp[zoU];omega)]
    ·have:k=s.set.length:=by omega
     subst this;rw[za0]at hall2;refine⟨by omega,by simp -dsimp only[go_sem,seval,hw],?_⟩;rw[hall,zaN hs (by rw[zlz,hall2];simp;omega)]
 ·have:i=x.steps.length:=by omega
  subst this;rw[za0]at hall;clear h3' hw;refine zaz 590259781561686687780 x.asserts.length (fun i f=>(f 5).v=vi i/\x.asserts.all zb5=(x.asserts.drop i).all zb5) rfl rfl ⟨by simp -dsimp only[go_sem,seval],rfl⟩ ?_;rintro i f u kk bb hi ⟨h5,hall2⟩;have hw:=zah i (by omega);simp -dsimp only[go_sem,seval,h5];refine csplit (fun h=> ?_) (fun h=> ?_)<;>(try rw[h])<;>(try simp only[zab]at h)<;>(try simp -dsimp only[go_sem,seval,h5])
  ·obtain⟨e,he,_⟩:=zaf ‹i<x.asserts.length›;have hg:=zbF e 60 (by omega);simp -dsimp only[go_sem,seval,h5,he,hg];refine csplit (fun h=> ?_) (fun h=> ?_)<;>(try rw[h])<;>(try simp only[zab]at h)<;>(try simp -dsimp only[go_sem,seval,h5])
   ·rw[fewT,hall,hall2,zaM he (by simp[zb5];omega)];rfl
   ·refine⟨by omega,by simp -dsimp only[go_sem,seval,hw],?_⟩;rw[hall2,zaN he (by simp[zb5];omega)]
  ·have:i=x.asserts.length:=by omega
   subst this;rw[za0]at hall2;clear h5 hw;refine zaz 19807040038270274039680335940 x.loops.length (fun i f=>(f 6).v=vi i/\x.loops.all zme=(x.loops.drop i).all zme) rfl rfl ⟨by simp -dsimp only[go_sem,seval],rfl⟩ ?_;rintro i f u kk bb hi ⟨h6,hall3⟩;have hw:=zah i (by omega);simp -dsimp only[go_sem,seval,h6];refine csplit (fun h=> ?_) (fun h=> ?_)<;>(try rw[h])<;>(try simp only[zab]at h)<;>(try simp -dsimp only[go_sem,seval,h6])
   ·obtain⟨l,hl,_⟩:=zaf ‹i<x.loops.length›;have hg:=zbF l.variant 30 (by omega);have hno:zme l=false->false=fewT x:=fun h0=>by rw[fewT,hall,hall2,hall3,zaM hl h0];rfl
    simp -dsimp only[go_sem,seval,h6,hl,hg];refine csplit (fun h=> ?_) (fun h=> ?_)<;>(try rw[h])<;>(try simp only[zab]at h)<;>(try simp -dsimp only[go_sem,seval,h6,hl])
    ·exact hno (by simp[zme];omega)
    ·have e1:(l.variant.size:Int)<=30:=by assumption
     refine csplit (fun h=> ?_) (fun h=> ?_)<;>(try rw[h])<;>(try simp only[zab]at h)<;>(try simp -dsimp only[go_sem,seval,h6])
     ·exact hno (by simp[zme];omega)
     ·refine⟨by omega,by simp -dsimp only[go_sem,seval,hw],?_⟩;rw[hall3,zaN hl (by simp[zme];omega)]
   ·have:i=x.loops.length:=by omega
    subst this;rw[za0]at hall3;rw[fewT,hall,hall2,hall3];rfl
def fewGo:Int->List Thread->Bool
 | _,[]=>true
 | n,x::r=>if n+x.steps.length>24\/(x.asserts.length:Int)>48\/(x.modules.length:Int)>48\/(x.loops.length:Int)>8\/fewT x=false then false else fewGo (n+x.steps.length) r
def zlA (m:Contract):Bool:=zb5 m.rely&&zb5 m.guar&&decide ((m.frame.length:Int)<=32)
def fewM (p:Prog):Bool:=
 decide ((p.cells.length:Int)<=32)&&decide ((p.threads.length:Int)<=4)&&decide ((p.modules.length:Int)<=6)&&decide ((p.locks.length:Int)<=4)&&
  fewGo 0 p.threads&&p.modules.all zlA&&p.locks.all fun l=>zb5 l.inv
theorem zni (p:Prog) (hb: ∀x∈p.threads,x.steps.length<2^50):Den Γ G 9 [(.agg [.t (.sl ((p).cells.map (Cell.enc))),.t (.sl ((p).modules.map (Contract.enc))),.t (.sl ((p).locks.map (Lock.enc))),.t (.sl ((p).threads.map (Thread.enc)))])]=some (vb (fewM p)):=by
 (refine den_ofY Γ9 rfl ?_;dsimp only[f9])
 simp -dsimp only[go_sem,seval]
 by_cases hl:(p.cells.length:Int)<=32/\(p.threads.length:Int)<=4/\(p.modules.length:Int)<=6/\(p.locks.length:Int)<=4
 ·obtain⟨l1,l2,l3,l4⟩:=hl;have g1: ¬(p.cells.length:Int)>32:=by omega
  have g2: ¬(p.threads.length:Int)>4:=by omega
  have g3: ¬(p.modules.length:Int)>6:=by omega
  have g4: ¬(p.locks.length:Int)>4:=by omega
  have hF:fewM p=(fewGo 0 p.threads&&p.modules.all zlA&&p.locks.all fun l=>zb5 l.inv):=by simp[fewM,l1,l2,l3,l4]
  simp -dsimp only[go_sem,seval,g1,g2,g3,g4];refine zaz 4722366482868571471932 p.threads.length (fun i f=>(f 4).v=vi i/\ ∃n:Int,0<=n/\n<=24/\(f 3).v=vi n/\fewGo 0 p.threads=fewGo n (p.threads.drop i)) rfl rfl ⟨by simp -dsimp only[go_sem,seval],0,by omega,by omega,by simp -dsimp only[go_sem,seval],rfl⟩ ?_;rintro i f u kk bb hi ⟨h4,n,n0,n1,h3,hgo⟩;have hw:=zah i (by omega);simp -dsimp only[go_sem,seval,h4];refine csplit (fun h=> ?_) (fun h=> ?_)<;>(try rw[h])<;>(try simp only[zab]at h)<;>(try simp -dsimp only[go_sem,seval,h4])
  ·obtain⟨x,hx,hxm⟩:=zaf ‹i<p.threads.length›;have hsl:=hb x hxm;have hwn:IntKind.i64.wrap (n+(x.steps.length:Int))=n+x.steps.length:=zan (by omega);rw[zba hx,fewGo]at hgo;simp -dsimp only[go_sem,seval,h4,h3,hx,hwn]
   by_cases hbad:n+x.steps.length>24\/(x.asserts.length:Int)>48\/(x.modules.length:Int)>48\/(x.loops.length:Int)>8
   ·rw[if_pos (by rcases hbad with h | h | h | h<;>simp[h])]at hgo;rw[hF,hgo,Bool.false_and,Bool.false_and]
    repeat'(refine csplit (fun h=> ?_) (fun h=> ?_)<;>(try rw[h])<;>(try simp only[zab]at h)<;>(try simp -dsimp only[go_sem,seval,h4]))
    all_goals(exfalso;omega)
   ·have k1: ¬n+(x.steps.length:Int)>24:=by omega
    have k2: ¬(x.asserts.length:Int)>48:=by omega
    have k3: ¬(x.modules.length:Int)>48:=by omega
    have k4: ¬(x.loops.length:Int)>8:=by omega
    have hfw:=zoT x (by omega) (by omega) (by omega);simp -dsimp only[go_sem,seval,k1,k2,k3,k4,hfw];refine csplit (fun h=> ?_) (fun h=> ?_)<;>(try rw[h])<;>(try simp only[zab]at h)<;>(try simp -dsimp only[go_sem,seval,h4])
    ·rw[if_pos (by simp[h])]at hgo;rw[hF,hgo,Bool.false_and,Bool.false_and]
    ·rw[if_neg (by simp[h];omega)]at hgo;exact⟨by omega,by simp -dsimp only[go_sem,seval,hw],n+x.steps.length,by omega,by omega,by simp -dsimp only[go_sem,seval],hgo⟩
  ·have:i=p.threads.length:=by omega
   subst this;rw[List.drop_length,fewGo]at hgo;rw[hgo,Bool.true_and]at hF;clear h4 hw h3 hgo;refine zaz 162259276824490996908708365074500 p.modules.length (fun i f=>(f 6).v=vi i/\p.modules.all zlA=(p.modules.drop i).all zlA) rfl rfl ⟨by simp -dsimp only[go_sem,seval],rfl⟩ ?_;rintro i f u kk bb hi ⟨h6,hall⟩;have hw:=zah i (by omega);simp -dsimp only[go_sem,seval,h6];refine csplit (fun h=> ?_) (fun h=> ?_)<;>(try rw[h])<;>(try simp only[zab]at h)<;>(try simp -dsimp only[go_sem,seval,h6])
   ·obtain⟨m,hm,_⟩:=zaf ‹i<p.modules.length›;have hg1:=zbF m.rely 60 (by omega);have hg2:=zbF m.guar 60 (by omega);have hno:zlA m=false->false=fewM p:=fun h0=>by rw[hF,hall,zaM hm h0];rfl
    simp -dsimp only[go_sem,seval,h6,hm,hg1];refine csplit (fun h=> ?_) (fun h=> ?_)<;>(try rw[h])<;>(try simp only[zab]at h)<;>(try simp -dsimp only[go_sem,seval,h6,hm,hg2])
    ·exact hno (by simp[zlA,zb5];omega)
    ·have e1:(m.rely.size:Int)<=60:=by assumption
     refine csplit (fun h=> ?_) (fun h=> ?_)<;>(try rw[h])<;>(try simp only[zab]at h)<;>(try simp -dsimp only[go_sem,seval,h6,hm])
     ·exact hno (by simp[zlA,zb5];omega)
     ·have e2:(m.guar.size:Int)<=60:=by assumption
      refine csplit (fun h=> ?_) (fun h=> ?_)<;>(try rw[h])<;>(try simp only[zab]at h)<;>(try simp -dsimp only[go_sem,seval,h6])
      ·exact hno (by simp[zlA,zb5];omega)
      ·refine⟨by omega,by simp -dsimp only[go_sem,seval,hw],?_⟩;rw[hall,zaN hm (by simp[zlA,zb5];omega)]
   ·have:i=p.modules.length:=by omega
    subst this;rw[za0]at hall;rw[hall,Bool.true_and]at hF;clear h6 hw hall;refine zaz 5316749723862834278251836663111090308 p.locks.length (fun i f=>(f 7).v=vi i/\fewM p=(p.locks.drop i).all fun l=>zb5 l.inv) rfl rfl ⟨by simp -dsimp only[go_sem,seval],hF⟩ ?_;rintro i f u kk bb hi ⟨h7,hall⟩;have hw:=zah i (by omega);simp -dsimp only[go_sem,seval,h7];refine csplit (fun h=> ?_) (fun h=> ?_)<;>(try rw[h])<;>(try simp only[zab]at h)<;>(try simp -dsimp only[go_sem,seval,h7])
    ·obtain⟨l,hl,_⟩:=zaf ‹i<p.locks.length›;have hg1:=zbF l.inv 60 (by omega);simp -dsimp only[go_sem,seval,h7,hl,hg1];refine csplit (fun h=> ?_) (fun h=> ?_)<;>(try rw[h])<;>(try simp only[zab]at h)<;>(try simp -dsimp only[go_sem,seval,h7])
     ·rw[hall,zaM hl (by simp[zb5];omega)]
     ·refine⟨by omega,by simp -dsimp only[go_sem,seval,hw],?_⟩;rw[hall,zaN hl (by simp[zb5];omega)]
    ·have:i=p.locks.length:=by omega
     subst this;rw[hall,za0]
 ·have hF:fewM p=false:=by
   cases h:fewM p
   ·rfl
   ·exfalso;simp only[fewM,zF,decide_eq_true_eq]at h;omega
  rw[hF]
  repeat'(refine csplit (fun h=> ?_) (fun h=> ?_)<;>(try rw[h])<;>(try simp only[zab]at h)<;>(try simp -dsimp only[go_sem,seval]))
  all_goals(exfalso;omega)
end Rg
end
section
-- FULL
namespace Rg
open Go
abbrev bytesT (l:List Int):T:=.sl (l.map fun n=>[.int .u8 n])
structure Prog.lite (p:Prog):Prop where
 steps: ∀x∈p.threads,x.steps.length<2^50
 cname: ∀c∈p.cells,c.name.size<2^50
 mname: ∀m∈p.modules,m.name.size<2^50/\m.owner.size<2^50
 tname: ∀t∈p.threads,t.name.size<2^50
theorem zeU {l:List Thread}: ∀{n:Int},fewGo n l=true->0<=n-> ∀x∈l,x.steps.length<=24/\x.asserts.length<=48/\x.modules.length<=48/\x.loops.length<=8/\fewT x=true:=by
 induction l with
 | nil=>intro n _ _ x hx;simp at hx
 | cons y r ih=>
   intro n h hn x hx;rw[fewGo]at h;split at h
   ·simp at h
   ·rename_i h0;simp only[not_or,Bool.not_eq_false]at h0;rcases List.mem_cons.1 hx with rfl | hx
    ·refine⟨by omega,by omega,by omega,by omega,h0.2.2.2.2⟩
    ·exact ih h (by omega) x hx
theorem few_sane {p:Prog} (hl:p.lite) (h:fewM p=true):p.sane:=by
 simp only[fewM,zF,decide_eq_true_eq,List.all_eq_true]at h;obtain⟨⟨⟨⟨⟨⟨h1,h2⟩,h3⟩,h4⟩,h5⟩,h6⟩,h7⟩:=h;have ht:=zeU h5 (by omega);refine⟨by omega,by omega,by omega,by omega,hl.cname,?_,?_,?_,?_⟩
 ·intro m hm;have:=h6 m hm;simp only[zlA,zF,decide_eq_true_eq]at this;exact⟨(hl.mname m hm).1,(hl.mname m hm).2,by omega⟩
 ·intro t hm;obtain⟨a,b,c,d,_⟩:=ht t hm;exact⟨hl.tname t hm,by omega,by omega,by omega,by omega⟩
 ·intro t hm s hs;obtain⟨_,_,_,_,e⟩:=ht t hm;simp only[fewT,zF,List.all_eq_true,zlz,decide_eq_true_eq]at e;have:=e.1.1 s hs;omega
 ·intro t hm l hll;obtain⟨_,_,_,_,e⟩:=ht t hm;simp only[fewT,zF,List.all_eq_true,zme,decide_eq_true_eq]at e;have:=e.2 l hll;omega
end Rg
end
section
set_option maxRecDepth 100000
namespace Rg
open Go
set_option maxHeartbeats 2000000
theorem zdX (p:Prog) (hp:p.ok) (hs:p.sane) (he:p.smE) (l:List Pl) (hl:l.length<2^20) (hpl: ∀x∈l,znZ p x):Den Γ G 404 [(.agg [.t (.sl ((p).cells.map (Cell.enc))),.t (.sl ((p).modules.map (Contract.enc))),.t (.sl ((p).locks.map (Lock.enc))),.t (.sl ((p).threads.map (Thread.enc)))]),.t (.sl (l.map Pl.enc))]=some (.tup [(.agg [.t (.sl (((insM p l).1).cells.map (Cell.enc))),.t (.sl (((insM p l).1).modules.map (Contract.enc))),.t (.sl (((insM p l).1).locks.map (Lock.enc))),.t (.sl (((insM p l).1).threads.map (Thread.enc)))]),vi (insM p l).2]):=by
 have hv:=zeq p hs;have hvb:validB p=true:=by simpa[validB]using hp
 rw[hvb]at hv;have hins:=zfH p hp he l hl hpl
 (refine den_ofY Γ404 rfl ?_;dsimp only[zrq])
 simp -dsimp only[go_sem,seval,hv];refine zaz 562949953405104 l.length (fun i f=>(f 14).v=vi i/\(f 4).v= .lb/\ ∃b,(f 4).box=some b/\b.length=4) rfl rfl ⟨by simp -dsimp only[go_sem,seval],by simp -dsimp only[go_sem,seval],[zn,zn,zn,zn],by simp -dsimp only[go_sem,seval],rfl⟩ ?_;rintro i f u x bs hi ⟨h14,h4,b,h4b,hb⟩;have hw:=zah i (by omega);simp -dsimp only[go_sem,seval,h14]
 by_cases hlt:i<l.length
 ·have hlt1:=eq_true hlt;obtain⟨z,hz,hzm⟩:=zaf hlt;obtain⟨y,hy,hyl⟩:=hpl z hzm;have htl:=(zH.1 hy).1;have k1: ¬((z.1:Int)<0):=by omega
  have k2: ¬((z.2:Int)<0):=by omega
  have k3: ¬((z.1:Int)>=(p.threads.length:Int)):=by omega
  have k4: ¬((z.2:Int)>=(y.steps.length:Int)):=by omega
  simp -dsimp only[go_sem,seval,h14,hlt1,hz,hy,k1,k2,k3,k4];exact⟨hlt,by simp -dsimp only[go_sem,seval,hw],by simp -dsimp only[go_sem,seval];exact h4,b,by simp -dsimp only[go_sem,seval];exact h4b,hb⟩
 ·have hlt1:=eq_false hlt
  obtain⟨a1,a2,a3,a4,rfl⟩: ∃a1 a2 a3 a4,b=[a1,a2,a3,a4]:=by
   match b,hb with
   | [a1,a2,a3,a4],_=>exact⟨_,_,_,_,rfl⟩
  simp -dsimp only[go_sem,seval,h14,hlt1,hins,h4,h4b]
theorem zjz (p:Prog) (hl:p.lite):Den Γ G 409 [(.agg [.t (.sl ((p).cells.map (Cell.enc))),.t (.sl ((p).modules.map (Contract.enc))),.t (.sl ((p).locks.map (Lock.enc))),.t (.sl ((p).threads.map (Thread.enc)))])]=some (vb (fewM p&&formedM p)):=by
 have h1:=zni p hl.steps
 (refine den_ofY Γ409 rfl ?_;dsimp only[zro])
 simp -dsimp only[go_sem,seval,h1];cases h:fewM p
 ·simp -dsimp only[go_sem,seval];rfl
 ·have h2:=zh2 p (few_sane hl h);simp -dsimp only[go_sem,seval,h2]
end Rg
end
section
namespace Rg
open Go
def rowsBo (b:Nat->Bool) (n:Nat):List (List V):=(boolL b n).map fun x=>[V.t (tb x)]
theorem zwl (b:Nat->Bool) (n:Nat):(rowsBo b n).length=n:=by simp[rowsBo,boolL]
theorem zwz (b:Nat->Bool) {n k:Nat} (h:k<n):(rowsBo b n)[k]? =some [V.t (tb (b k))]:=by unfold rowsBo;rw[zJ,zwa h];rfl
theorem zwx (b:Nat->Bool) (n k:Nat):(rowsBo b n).set k [V.t (tb true)]=rowsBo (fun m=>b m||decide (k=m)) n:=by
 refine List.ext_getElem? fun i=> ?_
 unfold rowsBo boolL;rw[List.getElem?_set,List.map_map,List.map_map,zJ,zJ,List.length_map,List.length_range]
 by_cases hi:i<n
 ·rw[List.getElem?_range hi]
  by_cases h:k=i
  ·subst h;simp[hi]
  ·simp[h]
 ·rw[List.getElem?_eq_none (by simpa using hi)]
  by_cases h:k=i
  ·subst h;simp[hi]
  ·simp[h]
theorem zwy (n:Nat):List.replicate n [V.t (tb false)]=rowsBo (fun _=>false) n:=by
 refine List.ext_getElem? fun i=> ?_
 unfold rowsBo boolL;rw[List.map_map,zJ,List.getElem?_replicate]
 by_cases hi:i<n
 ·rw[List.getElem?_range hi,if_pos hi];rfl
 ·rw[List.getElem?_eq_none (by simpa using hi),if_neg hi];rfl
theorem zwK {p:Prog} {l:List Pl} {i:Nat} {x:Pl} (h:l[i]? =some x) (t n:Nat):ptB p (l.take (i+1)) t n=(ptB p (l.take i) t n||(decide (x.1=t)&&decide ((p.stepAt x.1 x.2).fr=n))):=by
 unfold ptB;rw[zae h,List.any_append];simp
theorem zwk (p:Prog) (hp:p.ok) (l:List Pl) (hl:l.length<2^20) (hpl: ∀x∈l,znZ p x) {t:Nat} {y:Thread} (hy:p.threads[t]? =some y):Den Γ G 420 [(.agg [.t (.sl ((p).cells.map (Cell.enc))),.t (.sl ((p).modules.map (Contract.enc))),.t (.sl ((p).locks.map (Lock.enc))),.t (.sl ((p).threads.map (Thread.enc)))]),.t (.sl (l.map Pl.enc)),vi t]=some (.t (boolT (ptB p l t) y.points.toNat)):=by
 obtain⟨_,_,hpt,hsl,_⟩:=ziN hp hy;obtain⟨N,hN⟩: ∃N:Nat,y.points.toNat=N:=⟨_,rfl⟩
 have hPN:y.points=(N:Int):=by omega
 rw[hN]
 (refine den_ofY Γ420 rfl ?_;dsimp only[zw1])
 have c1:((N:Int)<=(N:Int))=True:=eq_true (Int.le_refl _);have c2:((N:Int)<=4294967296)=True:=eq_true (by omega);have hrep:=zwy N;simp -dsimp only[go_sem,seval,hy,hPN,c1,c2];refine zaj 35184372023552 l.length (fun i f h z=>(f 8).v=vi i/\h 8=some (.rows 1 (rowsBo (ptB p (l.take i) t) N) false)/\9<=z) rfl ⟨by simp -dsimp only[go_sem,seval],by simp -dsimp only[go_sem,seval];exact congrArg (fun r=>O.rows 1 r false) hrep,by simp -dsimp only[go_sem,seval]⟩ ?_;rintro i f u H q bq hi ⟨h8,hB,hq⟩;have hw:=zah i (by omega);simp -dsimp only[go_sem,seval,h8]
 by_cases hlt:i<l.length
 ·have hlt1:=eq_true hlt;obtain⟨x,hx,hxm⟩:=zaf hlt;have hsu:=zwK (p:=p) hx t
  by_cases hxt:x.1=t
  ·have hxt1:((x.1:Int)=(t:Int))=True:=eq_true (by omega);obtain⟨y',hy',hlt2⟩:=hpl x hxm;rw[hxt,hy]at hy';cases hy';have hs:y.steps[x.2]? =some y.steps[x.2]:=zI hlt2
   generalize y.steps[x.2]=s at hs
   have hsa:=zdo hy hs;obtain⟨kf,hkf⟩:=Int.eq_ofNat_of_zero_le (ok_stp hp hy hs).1.1;have hkl:kf<N:=by have:=(ok_stp hp hy hs).1.2;omega
   have hkl1:(kf<N)=True:=eq_true hkl;have hget:=zwz (ptB p (l.take i) t) hkl;have hlb:=zwl (ptB p (l.take i) t) N;have hset:=zwx (ptB p (l.take i) t) N kf;simp -dsimp only[go_sem,seval,h8,hlt1,hx,hxt1,hy,hs,hkf,hB,hkl1,hget,hlb];refine⟨hlt,by simp -dsimp only[go_sem,seval,hw],?_,by simp -dsimp only[go_sem,seval]<;>omega⟩;simp -dsimp only[go_sem,seval];refine congrArg (fun r=>O.rows 1 r false) ((hset.trans ?_))
   rw[show(fun m=>ptB p (l.take i) t m||decide (kf=m))=ptB p (l.take (i+1)) t by
    funext m;rw[hsu,decide_eq_true hxt,hxt,hsa,hkf]
    simp only[Bool.true_and]
    congr 1
    exact decide_eq_decide.2 (by omega)]
  ·have hxt1:((x.1:Int)=(t:Int))=False:=eq_false (by omega);simp -dsimp only[go_sem,seval,h8,hlt1,hx,hxt1];refine⟨hlt,by simp -dsimp only[go_sem,seval,hw],?_,by simp -dsimp only[go_sem,seval]<;>omega⟩;simp -dsimp only[go_sem,seval];rw[show ptB p (l.take (i+1)) t=ptB p (l.take i) t by funext n;rw[hsu,decide_eq_false hxt];simp];exact hB
 ·have hil:i=l.length:=by omega
  subst hil;have hlt1:=eq_false hlt;rw[List.take_length]at hB;have hlb:=zwl (ptB p l t) N;have tk:(rowsBo (ptB p l t) N).take N=rowsBo (ptB p l t) N:=List.take_of_length_le (by rw[hlb];exact Nat.le_refl _)
  have nm: ∀d,(rowsBo (ptB p l t) N).mapM (fun row=>row.mapM (toT H d))=some ((boolL (ptB p l t) N).map fun x=>[tb x]):=fun d=>by
   have:=zkl H d ((boolL (ptB p l t) N).map fun x=>[tb x]);have e1:((boolL (ptB p l t) N).map fun x=>[tb x]).map (·.map V.t)=rowsBo (ptB p l t) N:=by simp[rowsBo,List.map_map,Function.comp_def]
   have e2:((boolL (ptB p l t) N).map fun x=>[tb x]).map (·.map T.norm)=(boolL (ptB p l t) N).map fun x=>[tb x]:=by simp[List.map_map,Function.comp_def,T.norm]
   rw[e1,e2]at this;exact this
  have le1:(N<=N)=True:=eq_true (Nat.le_refl _);simp -dsimp only[go_sem,seval,h8,hlt1,hB,hlb,tk,nm,le1]
theorem zAP (p:Prog) {x:Pl} (hx:znZ p x):Den Γ G 421 [(.agg [.t (.sl ((p).cells.map (Cell.enc))),.t (.sl ((p).modules.map (Contract.enc))),.t (.sl ((p).locks.map (Lock.enc))),.t (.sl ((p).threads.map (Thread.enc)))]),.agg [.t (ti x.1),.t (ti x.2)]]=some (vb true):=by
 obtain⟨y,hy,hlt⟩:=hx;have htl:=(zH.1 hy).1;have k1:((x.1:Int)>=0)=True:=eq_true (by omega);have k2:((x.2:Int)>=0)=True:=eq_true (by omega);have k3:(x.1<p.threads.length)=True:=eq_true htl;have k4:(x.2<y.steps.length)=True:=eq_true hlt
 (refine den_ofY Γ421 rfl ?_;dsimp only[zw0])
 simp -dsimp only[go_sem,seval,k1,k2,k3,k4,hy]
def insT (p:Prog) (l:List Pl) (k:Nat):List Thread:=(p.threads.take k).mapIdx fun t x=>x.ins (ptB p l t)
theorem zwN (p:Prog) (l:List Pl) {k:Nat} (h:k<=p.threads.length):(insT p l k).length=k:=by simp[insT];omega
theorem zwI {p:Prog} (l:List Pl) {k:Nat} {x:Thread} (h:p.threads[k]? =some x):insT p l (k+1)=insT p l k++[x.ins (ptB p l k)]:=zhT _ h
theorem zwM {p:Prog} {B:Nat->Nat->Bool} {k:Nat} {x:Thread} (h:p.threads[k]? =some x) (ho:zgW (B k) x=true):zhW B p=true:=by
 unfold zhW;rw[List.any_eq_true];exact⟨(x,k),List.mem_zipIdx_iff_getElem?.2 h,ho⟩
set_option maxHeartbeats 2000000
theorem zwt (p:Prog) (hp:p.ok) (hs:p.sane) (he:p.smE) (l:List Pl) (hl:l.length<2^20) (hpl: ∀x∈l,znZ p x):Den Γ G 408 [(.agg [.t (.sl ((p).cells.map (Cell.enc))),.t (.sl ((p).modules.map (Contract.enc))),.t (.sl ((p).locks.map (Lock.enc))),.t (.sl ((p).threads.map (Thread.enc)))]),.t (.sl (l.map Pl.enc))]=some (.tup [(.agg [.t (.sl (((insM p l).1).cells.map (Cell.enc))),.t (.sl (((insM p l).1).modules.map (Contract.enc))),.t (.sl (((insM p l).1).locks.map (Lock.enc))),.t (.sl (((insM p l).1).threads.map (Thread.enc)))]),vi (insM p l).2]):=by
 obtain⟨⟨b1,b2,b3,b4⟩,b5⟩:=limits_iff.1 (ok_iff.1 hp).lim;have hf:=zh2 p hs;rw[show formedM p=true from decide_eq_true hp]at hf
 (refine den_ofY Γ408 rfl ?_;dsimp only[zw2])
 simp -dsimp only[go_sem,seval,hf];refine zaj 268419184 l.length (fun i f h z=>(f 6).v=vi i/\(f 4).v= .lb/\(f 4).box=some [zn,zn,zn,zn]) rfl ⟨by simp -dsimp only[go_sem,seval],by simp -dsimp only[go_sem,seval],by simp -dsimp only[go_sem,seval]⟩ ?_;rintro i f u H q bq hi ⟨h6,h4,h4b⟩;have hw:=zah i (by omega);simp -dsimp only[go_sem,seval,h6]
 by_cases hlt:i<l.length
 ·have hlt1:=eq_true hlt;obtain⟨x,hx,hxm⟩:=zaf hlt;have his:=zAP p (hpl x hxm);simp -dsimp only[go_sem,seval,h6,hlt1,hx,his];exact⟨hlt,by simp -dsimp only[go_sem,seval,hw],by simp -dsimp only[go_sem,seval];exact h4,by simp -dsimp only[go_sem,seval];exact h4b⟩
 have hlt1:=eq_false hlt;simp -dsimp only[go_sem,seval,h6,hlt1]
 refine zaj 295147905144993088432 p.threads.length (fun t f h z=>(f 8).v=vi t/\(f 4).v= .lb/\(f 4).box=some [zn,zn,zn,zn]/\(f 7).v= .lb/\(∀k y,k<t->p.threads[k]? =some y->zgW (ptB p l k) y=false)/\
  ∃vt,(f 7).box=some [.t (.sl (p.cells.map Cell.enc)),.t (.sl (p.modules.map Contract.enc)),.t (.sl (p.locks.map Lock.enc)),vt]/\zdJ h 0 z vt 7 (rwG Thread.enc (insT p l t))) rfl
  ⟨by simp -dsimp only[go_sem,seval],by simp -dsimp only[go_sem,seval,h4],by simp -dsimp only[go_sem,seval,h4b],by simp -dsimp only[go_sem,seval],fun k y hk=>by omega,zn,by simp -dsimp only[go_sem,seval],zcV⟩ ?_
 clear h6 h4 h4b hw hlt hlt1;rintro t f u H q bq ht ⟨h8,h4,h4b,h7,hov,vt,h7b,hT⟩;have hw:=zah t (by omega);simp -dsimp only[go_sem,seval,h8]
 by_cases hlt:t<p.threads.length
 ·have hlt1:=eq_true hlt;obtain⟨x,hx,hxm⟩:=zaf hlt;have hsp:=zwk p hp l hl hpl hx;have hth:=zwp x (ptB p l t) (spl_ok hp he hpl hx);have hpl1:(Thread.ins (ptB p l t) x).points=x.points+cntB (ptB p l t) x.points.toNat:=rfl;have hsl1:(Thread.ins (ptB p l t) x).steps.length=x.steps.length+cntB (ptB p l t) x.points.toNat:=by simp[Thread.ins,zh7]
  simp -dsimp only[go_sem,seval,h8,hlt1,hx,hsp,hth]
  by_cases hov1:zgW (ptB p l t) x=true
  ·rw[show insM p l=(zeroP,2)by rw[insM,zwM hx hov1];rfl];simp only[zgW,Bool.or_eq_true,decide_eq_true_eq]at hov1
   by_cases o1:x.points+cntB (ptB p l t) x.points.toNat>48
   ·have o2:=eq_true o1;simp -dsimp only[go_sem,seval,hpl1,o2,h4,h4b];exact⟨rfl,rfl,rfl,rfl⟩
   ·have o2:=eq_false o1;have o3:(((x.steps.length+cntB (ptB p l t) x.points.toNat:Nat):Int)>64)=True:=eq_true (by omega);simp -dsimp only[go_sem,seval,hpl1,hsl1,o2,o3,h4,h4b];exact⟨rfl,rfl,rfl,rfl⟩
  ·have hov2:zgW (ptB p l t) x=false:=by simpa using hov1
   simp only[zgW,Bool.or_eq_true,decide_eq_true_eq,not_or]at hov1;have o2:(x.points+cntB (ptB p l t) x.points.toNat>48)=False:=eq_false hov1.1;have o3:(((x.steps.length+cntB (ptB p l t) x.points.toNat:Nat):Int)>64)=False:=eq_false (by omega);replace hT:=hT.le (y:=q+5+12+9) (by omega);have v1:=hT.1.valOf;have v2:=hT.1.r1;have hil:=zwN p l (k:=t) (by omega);simp -dsimp only[go_sem,seval,hpl1,hsl1,o2,o3,h7,h7b,v1,v2];refine zbt (hT.upd (by omega) _) (by omega) (by omega) (by rw[zbm,hil];omega) (by decide) rfl (rwG_all _ thread_elen _) ?_;intro v hp' H4 e1 hT2 hlow3;rw[za9,e1];clear e1
   replace hT2:=hT2.eq (show _=rwG Thread.enc (insT p l (t+1))by
    rw[zwI l hx,zcf];rfl)
   have w1:=hT2.1.valOf;have w2:=zaW hT2.1;simp only[V.cells]at w2;simp -dsimp only[go_sem,seval,h8,h7,h7b,w1,w2];refine⟨hlt,by simp -dsimp only[go_sem,seval,hw],by simp -dsimp only[go_sem,seval,h4],by simp -dsimp only[go_sem,seval,h4b],by simp -dsimp only[go_sem,seval,h7],fun k y hk hy=> ?_,v,by simp -dsimp only[go_sem,seval],?_⟩
   ·by_cases hkt:k<t
    ·exact hov k y hkt hy
    ·obtain rfl:k=t:=by omega
     rw[hx]at hy;cases hy;exact hov2
   ·simp -dsimp only[go_sem,seval];exact hT2.le (by omega)
 ·have htl:t=p.threads.length:=by omega
  subst htl;have hlt1:=eq_false hlt
  have hlim:zhW (ptB p l) p=false:=by
   unfold zhW;rw[List.any_eq_false];intro z hz;rw[List.mem_zipIdx_iff_getElem?]at hz;rw[hov z.2 z.1 (zH.1 hz).1 hz];simp
  rw[show insM p l=(p.ins (ptB p l),0)by rw[insM,hlim];rfl];have tT:=zbu hT.1 (rwG_norm _ thread_norm _);rw[insT,List.take_length]at tT;simp -dsimp only[go_sem,seval,h8,hlt1,h7,h7b,h4,h4b,tT];exact⟨rfl,rfl,rfl,rfl⟩
end Rg
end
section
namespace Rg
open Go
structure Config.sane (c:Config):Prop where
 mem:c.mem.length<2^48
 at_:c.at_.length<2^48
 buf:c.buf.length<2^48
theorem zzh (p:Prog) (hf:formedM p=true) (c:Config) (hc:c.sane):Den Γ G 43 [(.agg [.t (.sl ((p).cells.map (Cell.enc))),.t (.sl ((p).modules.map (Contract.enc))),.t (.sl ((p).locks.map (Lock.enc))),.t (.sl ((p).threads.map (Thread.enc)))]),(.agg [.t (ints (c).mem),.t (ints (c).at_),.t (.sl ((c).buf.map (fun b=>[.sl (b.map Entry.enc)])))])]=some (vb (isM p c)):=by
 (refine den_ofY Γ43 rfl ?_;dsimp only[f43])
 obtain⟨hc1,hc2,hc3⟩:=hc;simp -dsimp only[go_sem,seval]
 by_cases hl:(c.mem.length:Int)=p.cells.length/\(c.at_.length:Int)=p.threads.length/\(c.buf.length:Int)=p.threads.length
 ·obtain⟨l1,l2,l3⟩:=hl;have l1':decide (¬(c.mem.length:Int)=p.cells.length)=false:=by simp[l1]
  have l2':decide (¬(c.at_.length:Int)=p.threads.length)=false:=by simp[l2]
  have l3':decide (¬(c.buf.length:Int)=p.threads.length)=false:=by simp[l3]
  have hF:isM p c=((c.mem.zip p.cells).all zxw&&((c.at_.zip p.threads).all zyb&&c.buf.all List.isEmpty)):=by
   have e1:c.mem.length=p.cells.length:=by omega
   have e2:c.at_.length=p.threads.length:=by omega
   have e3:c.buf.length=p.threads.length:=by omega
   simp[isM,zCs,e1,e2,e3,Bool.and_assoc]
  have z1:(c.mem.zip p.cells).length=c.mem.length:=by rw[List.length_zip];omega
  have z2:(c.at_.zip p.threads).length=c.at_.length:=by rw[List.length_zip];omega
  simp -dsimp only[go_sem,seval,l1',l2',l3'];refine zaz 144114913197949040 c.mem.length (fun i f=>(f 38).v=vi i/\(c.mem.zip p.cells).all zxw=((c.mem.zip p.cells).drop i).all zxw) rfl rfl ⟨by simp -dsimp only[go_sem,seval],rfl⟩ ?_;rintro i f u kk bb hi ⟨h38,hall⟩;have hw:=zah i (by omega);simp -dsimp only[go_sem,seval,h38];refine csplit (fun h=> ?_) (fun h=> ?_)<;>(try rw[h])<;>(try simp only[zab]at h)<;>(try simp -dsimp only[go_sem,seval,h38])
  ·obtain⟨v,hv,_⟩:=zaf ‹i<c.mem.length›;obtain⟨x,hx,hxm⟩:=zaf (show i<p.cells.length by omega);obtain⟨w1,w2,_⟩:=formed_cell hf hxm;have hsh:=zke (w:=x.w) (by omega);have hs0: ¬x.w<0:=by omega
   have hz:=zip_get hv hx;simp -dsimp only[go_sem,seval,h38,hv,hx]
   repeat'(refine csplit (fun h=> ?_) (fun h=> ?_)<;>(try rw[h])<;>(try simp only[zab]at h)<;>(try simp -dsimp only[go_sem,seval,h38,hv,hx,hsh,hs0]))
   all_goals first
    | (rw[hF,hall,zaM hz (by simp only[zxw,Bool.and_eq_false_iff,decide_eq_false_iff_not];omega)];simp;done)
    | (refine⟨by omega,by simp -dsimp only[go_sem,seval,hw],?_⟩
       rw[hall,zaN hz (by simp only[zxw,zF,decide_eq_true_eq];omega)])
  ·have:i=c.mem.length:=by omega
   subst this;have hz:=za0 zxw (c.mem.zip p.cells);rw[z1]at hz;rw[hz]at hall;rw[hall,Bool.true_and]at hF;clear hall h38 hw;refine zaz 158456325027375753682481054608 c.at_.length (fun i f=>(f 60).v=vi i/\((c.at_.zip p.threads).all zyb&&c.buf.all List.isEmpty)=(((c.at_.zip p.threads).drop i).all zyb&&(c.buf.drop i).all List.isEmpty)) rfl rfl ⟨by simp -dsimp only[go_sem,seval],rfl⟩ ?_;rintro i f u kk bb hi ⟨h60,hall⟩;have hw:=zah i (by omega);simp -dsimp only[go_sem,seval,h60];refine csplit (fun h=> ?_) (fun h=> ?_)<;>(try rw[h])<;>(try simp only[zab]at h)<;>(try simp -dsimp only[go_sem,seval,h60])
   ·obtain⟨v,hv,_⟩:=zaf ‹i<c.at_.length›;obtain⟨x,hx,hxm⟩:=zaf (show i<p.threads.length by omega);obtain⟨b,hbx,_⟩:=zaf (show i<c.buf.length by omega);have hz:=zip_get hv hx;cases hat:zyb (v,x)
    ·rw[hF,hall,zaM hz hat,Bool.false_and];simp -dsimp only[go_sem,seval,h60,hv,hx]
     repeat'(refine csplit (fun h=> ?_) (fun h=> ?_)<;>(try rw[h])<;>(try simp only[zab]at h)<;>(try simp -dsimp only[go_sem,seval,h60,hv,hx,hbx]))
     all_goals(exfalso;simp only[zyb,Bool.and_eq_false_iff,decide_eq_false_iff_not,Bool.not_eq_false',zF,decide_eq_true_eq,Bool.not_eq_true']at hat;simp_all;try omega)
    ·have hat':=hat;simp only[zyb,zF,decide_eq_true_eq,Bool.not_eq_true',Bool.and_eq_false_iff,decide_eq_false_iff_not,Bool.not_eq_false']at hat';obtain⟨⟨a1,a2⟩,a3⟩:=hat';have b1: ¬v< -1:=by omega
     have b2: ¬v>=x.points:=by omega
     cases b with
     | nil=>
       simp -dsimp only[go_sem,seval,h60,hv,hx,b1,b2,hbx]
       repeat'(refine csplit (fun h=> ?_) (fun h=> ?_)<;>(try rw[h])<;>(try simp only[zab]at h)<;>(try simp -dsimp only[go_sem,seval,h60,hv,hx,hbx]))
       all_goals first
        | (exfalso;simp_all;done)
        | (refine⟨by omega,by simp -dsimp only[go_sem,seval,hw],?_⟩
           rw[hall,zaN hz hat,zaN hbx rfl])
     | cons e r=>
       have hbl:(((e::r).length:Nat):Int)>0:=by show((r.length+1:Nat):Int)>0;omega
       rw[hF,hall,zaM hbx rfl,Bool.and_false];simp -dsimp only[go_sem,seval,h60,hv,hx,b1,b2,hbx,hbl]
       repeat'(refine csplit (fun h=> ?_) (fun h=> ?_)<;>(try rw[h])<;>(try simp only[zab]at h)<;>(try simp -dsimp only[go_sem,seval,h60,hv,hx,hbx,hbl]))
       all_goals(exfalso;simp_all;try omega)
   ·have:i=c.at_.length:=by omega
    subst this;have hz:=za0 zyb (c.at_.zip p.threads);rw[z2]at hz;have hz2:=za0 List.isEmpty c.buf;rw[show c.buf.length=c.at_.length by omega]at hz2;rw[hF,hall,hz,hz2];rfl
 ·have hF:isM p c=false:=by
   by_cases e1:c.mem.length=p.cells.length
   ·by_cases e2:c.at_.length=p.threads.length
    ·have e3: ¬c.buf.length=p.threads.length:=by omega
     simp[isM,e3]
    ·simp[isM,zCs,e2]
   ·simp[isM,zCs,e1]
  rw[hF]
  repeat'(refine csplit (fun h=> ?_) (fun h=> ?_)<;>(try rw[h])<;>(try simp only[zab]at h)<;>(try simp -dsimp only[go_sem,seval]))
  all_goals(exfalso;omega)
end Rg
end
section
namespace Rg
open Go
theorem zxp.cells {h:Nat->Option O} {x:Nat} {v:V} {sz:Nat} {rows:List (List V)} (o:zxp h x v sz rows):v.cells=some [v]:=by
 rcases o with⟨rfl,_⟩ | ⟨k,rfl,_,_⟩<;>rfl
def startM (p:Prog):Config:=
 if formedM p then⟨p.cells.map Cell.init,p.threads.map fun x=>if x.asleep then -1 else 0,p.threads.map fun _=>[]⟩else⟨[],[],[]⟩
theorem zyd (h:Nat->Option O): ∀n:Nat,(List.replicate n [V.t .nils]).mapM (fun row=>row.mapM (toT h 999))=some (List.replicate n [T.sl []])
 | 0=>rfl
 | n+1=>by rw[List.replicate_succ,List.replicate_succ,List.mapM_cons,zyd h n];rfl
theorem zxu {α β:Type} (l:List α) (b:β):List.replicate l.length b=l.map fun _=>b:=by
 induction l with
 | nil=>rfl
 | cons x r ih=>simp[List.replicate_succ,ih]
def filled (l:List Int) (i:Nat):List Int:=l.take i++List.replicate (l.length-i) 0
theorem zzO (l:List Int):filled l 0=List.replicate l.length 0:=by simp[filled]
theorem zyU (l:List Int):filled l l.length=l:=by simp[filled]
theorem zyT (l:List Int) {i:Nat} (h:i<=l.length):(filled l i).length=l.length:=by simp[filled];omega
theorem zyS {l:List Int} {i:Nat} {x:Int} (h:l[i]? =some x):(filled l i).set i x=filled l (i+1):=by
 have hi:i<l.length:=(zH.1 h).1;apply List.ext_getElem?;intro j;simp only[filled];rw[List.getElem?_set];have hlt:(l.take i).length=i:=by simp;omega
 have hlt1:(l.take (i+1)).length=i+1:=by simp;omega
 by_cases hj:i=j
 ·subst hj;have hlen:i<(l.take i++List.replicate (l.length-i) 0).length:=by simp;omega
  rw[if_pos rfl,if_pos hlen,List.getElem?_append_left (by omega),List.getElem?_take,if_pos (by omega),h]
 ·rw[if_neg hj]
  by_cases hj2:j<i
  ·rw[List.getElem?_append_left (by omega),List.getElem?_append_left (by omega),List.getElem?_take,List.getElem?_take,if_pos hj2,if_pos (by omega)]
  ·rw[List.getElem?_append_right (by omega),List.getElem?_append_right (by omega),hlt,hlt1,List.getElem?_replicate,List.getElem?_replicate]
   by_cases hj3:j<l.length
   ·rw[if_pos (by omega),if_pos (by omega)]
   ·rw[if_neg (by omega),if_neg (by omega)]
theorem zzw {l:List Int} {i:Nat} (h:l[i]? =some 0):filled l i=filled l (i+1):=by
 have hi:i<l.length:=(zH.1 h).1;simp only[filled,zae h];rw[List.append_assoc,show l.length-i=(l.length-(i+1))+1 by omega,List.replicate_succ];rfl
theorem zxn (l:List Int) (i:Nat) (x:Int):(rowsI l).set i [vi x]=rowsI (l.set i x):=by simp[rowsI,List.map_set]
theorem zza (n:Nat):rowsI (List.replicate n 0)=List.replicate n [vi 0]:=by simp[rowsI]
theorem zxo {l:List Int} {i:Nat} (h:i<l.length):(rowsI l)[i]? =some [vi l[i]]:=by simp[rowsI,h]
theorem zxr (h:Nat->Option O) (d:Nat) (l:List Int):(rowsI l).mapM (fun row=>row.mapM (toT h d))=some (l.map fun n=>[ti n]):=zef h d (l.map fun n=>[ti n]) (ints_norm _)
theorem zx0 (p:Prog) (hs:p.sane):Den Γ G 12 [(.agg [.t (.sl ((p).cells.map (Cell.enc))),.t (.sl ((p).modules.map (Contract.enc))),.t (.sl ((p).locks.map (Lock.enc))),.t (.sl ((p).threads.map (Thread.enc)))])]=some (.agg [.t (ints (startM p).mem),.t (ints (startM p).at_),.t (.sl ((startM p).buf.map (fun b=>[.sl (b.map Entry.enc)])))]):=by
 (refine den_ofY Γ12 rfl ?_;dsimp only[f12])
 have h1:=zxD p hs;simp -dsimp only[go_sem,seval,h1];refine csplit (fun h=> ?_) (fun h=> ?_)<;>(try rw[h])<;>(try simp only[zab]at h)<;>(try simp -dsimp only[go_sem,seval])
 ·simp[startM,h]
 ·have hf:formedM p=true:=by assumption
  obtain⟨⟨l1,l2,l3,l4⟩,l5⟩:=limits_points (formed_limits hf).1;have hle:(p.threads.length:Int)<=4294967296:=by omega
  have hle2:(p.cells.length:Int)<=4294967296:=by omega
  generalize hme:p.cells.map Cell.init=mems
  have hmel:mems.length=p.cells.length:=by rw[<- hme];simp
  generalize hat:(p.threads.map fun x=>if x.asleep then(-1:Int)else 0)=ats
  have hatl:ats.length=p.threads.length:=by rw[<- hat];simp
  simp -dsimp only[go_sem,seval,hle,hle2,Int.le_refl];have r1:=zza p.cells.length;have r2:=zza p.threads.length
  refine zaj 1099444518928 p.cells.length (fun i f h x=>(f 26).v=vi i/\h 8=some (.rows 1 (rowsI (filled mems i)) false)/\h 12=some (.rows 1 (rowsI (List.replicate p.threads.length 0)) false)/\h 16=some (.rows 1 (List.replicate p.threads.length [.t .nils]) false))
   rfl ⟨by simp -dsimp only[go_sem,seval],by simp -dsimp only[go_sem,seval];rw[zzO,hmel,r1],by simp -dsimp only[go_sem,seval];rw[r2],by simp -dsimp only[go_sem,seval]⟩ ?_
  rintro i f u H x bs hi ⟨h26,g8,g12,g16⟩;have hw:=zah i (by omega);simp -dsimp only[go_sem,seval,h26];refine csplit (fun h=> ?_) (fun h=> ?_)<;>(try rw[h])<;>(try simp only[zab]at h)<;>(try simp -dsimp only[go_sem,seval,h26])
  ·obtain⟨c,hc,_⟩:=zaf ‹i<p.cells.length›;have hc':mems[i]? =some c.init:=by rw[<- hme];simp[hc]
   have hfl:=zyT mems (i:=i) (by omega);have hgt:=zxo (l:=filled mems i) (i:=i) (by omega);have hst:=zxn (filled mems i) i c.init;rw[zyS hc']at hst;have hil:i<p.cells.length:=by assumption
   simp -dsimp only[go_sem,seval,h26,hc,g8,hgt,hil];refine⟨by omega,by simp -dsimp only[go_sem,seval,hw],?_,?_,?_⟩
   ·simp -dsimp only[go_sem,seval,hst]
   ·simp -dsimp only[go_sem,seval,g12]
   ·simp -dsimp only[go_sem,seval,g16]
  ·have:i=p.cells.length:=by omega
   subst this;rw[<- hmel,zyU]at g8
   refine zaj 144106391982833696 p.threads.length (fun i f h x=>(f 43).v=vi i/\h 8=some (.rows 1 (rowsI mems) false)/\h 12=some (.rows 1 (rowsI (filled ats i)) false)/\h 16=some (.rows 1 (List.replicate p.threads.length [.t .nils]) false))
    rfl ⟨by simp -dsimp only[go_sem,seval],by simp -dsimp only[go_sem,seval,g8],by simp -dsimp only[go_sem,seval,g12,zzO,hatl],by simp -dsimp only[go_sem,seval,g16]⟩ ?_
   clear h26 g8 g12 g16 hw;rintro i f u H x bs hi ⟨h43,g8,g12,g16⟩;have hw:=zah i (by omega);simp -dsimp only[go_sem,seval,h43];refine csplit (fun h=> ?_) (fun h=> ?_)<;>(try rw[h])<;>(try simp only[zab]at h)<;>(try simp -dsimp only[go_sem,seval,h43])
   ·obtain⟨c,hc,_⟩:=zaf ‹i<p.threads.length›;have hc':ats[i]? =some (if c.asleep then(-1:Int)else 0):=by rw[<- hat];simp[hc]
    have hfl:=zyT ats (i:=i) (by omega);have hgt:=zxo (l:=filled ats i) (i:=i) (by omega);have hil:i<p.threads.length:=by assumption
    simp -dsimp only[go_sem,seval,h43,hc];cases hasl:c.asleep
    ·rw[hasl]at hc';have hz:=zzw (l:=ats) (i:=i) (by simpa using hc');simp -dsimp only[go_sem,seval,h43];refine⟨by omega,by simp -dsimp only[go_sem,seval,hw],by simp -dsimp only[go_sem,seval,g8],by simp -dsimp only[go_sem,seval,g12,hz],by simp -dsimp only[go_sem,seval,g16]⟩
    ·rw[hasl]at hc';have hst:=zxn (filled ats i) i (-1);rw[zyS (by simpa using hc')]at hst;simp -dsimp only[go_sem,seval,h43,g12,hgt,hil];refine⟨by omega,by simp -dsimp only[go_sem,seval,hw],by simp -dsimp only[go_sem,seval,g8],by simp -dsimp only[go_sem,seval,hst],by simp -dsimp only[go_sem,seval,g16]⟩
   ·have:i=p.threads.length:=by omega
    subst this;rw[<- hatl,zyU]at g12;have t2:List.take p.threads.length (List.replicate p.threads.length [V.t .nils])=List.replicate p.threads.length [V.t .nils]:=List.take_of_length_le (by simp);have t3:=zyd H p.threads.length;have t4:List.take p.cells.length (rowsI mems)=rowsI mems:=List.take_of_length_le (by rw[rowsI_len];omega);have t5:List.take p.threads.length (rowsI ats)=rowsI ats:=List.take_of_length_le (by rw[rowsI_len];omega);have t6:=zxr H 999 mems;have t7:=zxr H 999 ats;simp -dsimp only[go_sem,seval,t2,t3,t4,t5,t6,t7,g8,g12,g16,List.length_replicate,Nat.le_refl,rowsI_len,hmel,hatl];simp[startM,hf,hat,hme,zxu]
end Rg
end
