/- Part of the proof of laws of relyguardlaw31. No condition. -/
import Derived.Test.YtcmeofagpechdaaGreatDoorPartAZ
import Derived.Test.YtcmeofagpechdaaGreatDoorPartAT
import Derived.Test.YtcmeofagpechdaaGreatDoorPartAU
import Derived.Test.YtcmeofagpechdaaGreatDoorPartAV
set_option linter.unusedSimpArgs false
set_option linter.unusedVariables false
section
namespace Rg
open Go
def idxN {α:Type} (f:α->Bool) (l:List α) (i:Nat):List Int:=((l.take i).zipIdx.filter fun q=>f q.1).map fun q=>(q.2:Int)
def idxM {α:Type} (f:α->Bool) (l:List α):List Int:=idxN f l l.length
theorem zlr {α:Type} (f:α->Bool) {l:List α} {i:Nat} {x:α} (h:l[i]? =some x):idxN f l (i+1)=idxN f l i++if f x then [(i:Int)]else []:=by
 unfold idxN;have hi:i<l.length:=(zH.1 h).1;rw[zae h,List.zipIdx_append,List.filter_append,List.map_append];have e:0+(l.take i).length=i:=by simp;omega
 rw[e];cases hf:f x<;>simp[hf]
theorem idxN_len {α:Type} (f:α->Bool) (l:List α) (i:Nat):(idxN f l i).length<=i:=by
 unfold idxN;rw[List.length_map];refine Nat.le_trans (List.length_filter_le _ _) ?_;simp;omega
theorem zlq {α:Type} (f:α->Bool) (l:List α):idxN f l 0=[]:=by simp[idxN]
def stepsM (p:Prog) (t k:Int):List Int:=if inR t p.threads.length then(match p.threads[t.toNat]? with
 | some x=>idxM (fun s:Step=>decide (s.fr=k)) x.steps
 | none=>[])else []
theorem zzX (p:Prog) (t k:Int) (hl: ∀x∈p.threads,x.steps.length<2^31):Den Γ G 224 [(.agg [.t (.sl ((p).cells.map (Cell.enc))),.t (.sl ((p).modules.map (Contract.enc))),.t (.sl ((p).locks.map (Lock.enc))),.t (.sl ((p).threads.map (Thread.enc)))]),vi t,vi k]=some (.t (ints (stepsM p t k))):=by
 (refine den_ofY Γ224 rfl ?_;dsimp only[f224])
 have h1:=zaL t p.threads.length;simp -dsimp only[go_sem,seval,h1];cases hin:inR t p.threads.length
 ·simp -dsimp only[go_sem,seval];simp[stepsM,hin]
 ·have hin':=hin;simp only[inR,decide_eq_true_eq]at hin';have hlt:t.toNat<p.threads.length:=by omega
  obtain⟨x,hx,hxm⟩:=zaf hlt;have hsl:=hl x hxm;have ht0:(0<=t)=True:=by apply eq_true;omega
  have hsm:stepsM p t k=idxM (fun s:Step=>decide (s.fr=k)) x.steps:=by simp[stepsM,hin,hx]
  rw[hsm];simp -dsimp only[go_sem,seval,ht0,hx];refine zaj 137430565760 x.steps.length (fun i f h y=>(f 23).v=vi i/\zxp h y (f 7).v 1 (rowsI (idxN (fun s:Step=>decide (s.fr=k)) x.steps i))) rfl ⟨by simp -dsimp only[go_sem,seval],.inl ⟨by simp -dsimp only[go_sem,seval],by rw[zlq];rfl⟩⟩ ?_;rintro i f u H y bq hi ⟨h23,hown⟩;have hw:=zah i (by omega);simp -dsimp only[go_sem,seval,h23];refine csplit (fun h=> ?_) (fun h=> ?_)<;>(try rw[h])<;>(try simp only[zab]at h)<;>(try simp -dsimp only[go_sem,seval,h23])
  ·obtain⟨c,hc,_⟩:=zaf ‹i<x.steps.length›;have hsucc:=zlr (fun s:Step=>decide (s.fr=k)) hc;have hln:=idxN_len (fun s:Step=>decide (s.fr=k)) x.steps i;have v1:=hown.valOf;have v2:=hown.r2;have v3:=hown.r3;have v4:=hown.r4;simp -dsimp only[go_sem,seval,h23,hc];refine csplit (fun h=> ?_) (fun h=> ?_)<;>(try rw[h])<;>(try simp only[zab]at h)<;>(try simp -dsimp only[go_sem,seval,h23])
   ·rw[if_pos (by simpa using h)]at hsucc;simp -dsimp only[go_sem,seval,h23,v1,v2,v3,v4];refine zas (hown.upd (by omega) _) (by omega) (by rw[rowsI_len];simp;omega) (by decide) rfl (rowsI_all _) ?_;intro v hp hO hoffs hkeep;have w1:=hO.valOf;rw[<- za6,<- hsucc]at hO;simp -dsimp only[go_sem,seval,w1,h23];exact⟨by omega,by simp -dsimp only[go_sem,seval,hw],by simp -dsimp only[go_sem,seval];exact hO.le (by omega)⟩
   ·rw[if_neg (by simpa using h),List.append_nil]at hsucc;refine⟨by omega,by simp -dsimp only[go_sem,seval,hw],?_⟩;simp -dsimp only[go_sem,seval,hsucc];exact hown.le (by omega)
  ·have:i=x.steps.length:=by omega
   subst this;have v1:=hown.valOf;have hre:=hown.reify (ints_norm _);have v5:=hown.resVal;simp only[Rg.resVal]at v5;simp -dsimp only[go_sem,seval,v1,v5];exact hre
end Rg
end
section
namespace Rg
open Go
structure Acc where
 th:Nat
 st:Nat
 ce:Nat
 wr:Bool
 deriving DecidableEq,Inhabited
def Acc.enc (a:Acc):List T:=[ti a.th,ti a.st,ti a.ce,tb a.wr]
attribute [go_sem] Acc.enc
structure Gr where
 nc:Nat
 nt:Nat
 all:List Acc
 cls:List Nat
 msk:List Nat
 ld:List (List Nat)
 qk:List (List Nat)
 ear:Acc->Bool
 lat:Acc->Bool
namespace Gr
variable (g:Gr)
def sz:Nat:=2*(g.nc+g.nt)
def thr (c:Nat):Nat:=c/ g.sz
def prec (c d:Nat):Bool:=zBI g.nc g.nt c d
def mks (c:Nat):Nat:=g.msk.getD c 0
def ac (i:Nat):Acc:=g.all.getD i default
def cl (i:Nat):Nat:=g.cls.getD i 0
def ldAt (t i:Nat):Nat:=(g.ld.getD t []).getD i 0
def qkAt (t i:Nat):Nat:=(g.qk.getD t []).getD i 0
def partner (a b:Nat):Bool:=decide (a≠b)&&(decide ((g.ac a).th=(g.ac b).th)&&(decide ((g.ac a).st=(g.ac b).st)||(g.ldAt (g.ac a).th (g.ac a).st).testBit (g.ac b).st))
def rowC (same:Bool) (i m:Nat):Nat:=if same then(m ||| 1<<< i)&&& (2^64-1-1<<< i)else m ||| 1<<< i
def couple (c d:Nat):Bool:=zyH (g.mks c) (g.mks d) ((g.ld.getD (g.thr c) []).mapIdx fun i m=>rowC (decide (c=d)) i m)
def ok (c d m:Nat):Bool:=decide (g.mks d≠0)&&(!m.testBit (g.thr d)&&g.prec c d)
def ends:Nat->Nat->Nat->Nat->Bool
 | 0,goal,c,_=>g.prec c goal
 | 1,goal,c,m=>(List.range g.msk.length).any fun d=>g.ok c d m&&ends 0 goal d (m ||| 1<<< g.thr d)
 | r+2,goal,c,m=>(List.range g.msk.length).any fun d=>g.ok c d m&&(ends (r+1) goal d (m ||| 1<<< g.thr d) ||
    (List.range g.msk.length).any fun e=>decide (g.thr e=g.thr d)&&(g.couple d e&&ends r goal e (m ||| 1<<< g.thr d)))
def opens (r goal c m:Nat):Bool:=g.ends r goal c m||(decide (0<r)&&(List.range g.msk.length).any fun e=>decide (g.thr e=g.thr c)&&(g.couple c e&&g.ends (r-1) goal e m))
theorem ends_succ (r goal c m:Nat):g.ends (r+1) goal c m=(List.range g.msk.length).any fun d=>g.ok c d m&&g.opens r goal d (m ||| 1<<< g.thr d):=by
 cases r with
 | zero=>simp[ends,opens]
 | succ r=>simp[ends,opens]
def begins (r goal a m:Nat):Bool:=g.ends r goal (g.cl a) m||(decide (0<r)&&(List.range g.all.length).any fun b=>g.partner a b&&g.ends (r-1) goal (g.cl b) m)
def delay (a b:Nat):Bool:=decide ((g.ac a).th=(g.ac b).th)&&(decide ((g.ac a).ce≠(g.ac b).ce)&&((g.qkAt (g.ac a).th (g.ac a).st).testBit (g.ac b).st&&(g.ear (g.ac a)&&g.lat (g.ac b))))
def maskF (f:Acc->Bool) (c i:Nat):Nat:=((g.all.zip g.cls).take i).foldl (fun m q=>if f q.1&&decide (q.2=c)then m ||| 1<<< q.1.st else m) 0
def eaM (c:Nat):Nat:=g.maskF g.ear c g.all.length
def laM (c:Nat):Nat:=g.maskF g.lat c g.all.length
def isPair (c d:Nat):Bool:=decide (g.eaM c≠0)&&(decide (g.laM d≠0)&&(decide (g.thr c=g.thr d)&&(decide (c/ 2≠d/ 2)&&zyH (g.eaM c) (g.laM d) (g.qk.getD (g.thr c) []))))
def pairs:List (Nat×Nat):=(List.range g.msk.length).flatMap fun c=>((List.range g.msk.length).filter fun d=>g.isPair c d).map fun d=>(c,d)
def atRest (r:Nat):Bool:=g.pairs.any fun x=>g.ends r x.1 x.2 (1<<< g.thr x.2)
def shortest:Option Nat:=((List.range (2*(g.nt-1))).map (· +1)).find? g.atRest
def visit (last m:Nat) (op:Bool) (c:Nat):Bool×Bool:=(op&&g.partner last c,!m.testBit (g.ac c).th&&g.prec (g.cl last) (g.cl c))
def next(goal last m:Nat) (op:Bool) (r c:Nat):Bool:=
 if(g.visit last m op c).1 then g.ends r goal (g.cl c) m else(g.visit last m op c).2&&g.begins r goal c (m ||| 1<<< (g.ac c).th)
def follow (goal:Nat):Nat->Nat->Nat->Bool->Option (List Acc)
 | 0,_,_,_=>some []
 | r+1,last,m,op=>match(List.range g.all.length).find? (g.next goal last m op r)with
   | none=>none
   | some c=>if(g.visit last m op c).1 then(follow goal r c m false).map (g.ac c:: ·)else(follow goal r c (m ||| 1<<< (g.ac c).th) true).map (g.ac c:: ·)
def starts (r a b:Nat):Bool:=g.delay a b&&g.ends r (g.cl a) (g.cl b) (1<<< (g.ac b).th)
def first(r:Nat):Option (List Acc):=match((List.range g.all.length).flatMap fun a=>(List.range g.all.length).map fun b=>(a,b)).find? fun x=>g.starts r x.1 x.2 with
 | none=>none
 | some x=>(g.follow (g.cl x.1) r x.2 (1<<< (g.ac x.2).th) false).map fun l=>g.ac x.1::g.ac x.2::l
end Gr
def Prog.stepAt (p:Prog) (t i:Nat):Step:=((p.threads.getD t default).steps).getD i default
def clsM (p:Prog) (a:Acc):Nat:=a.th*(2*(p.cells.length+p.threads.length))+2*a.ce+if(a.wr&&decide (a.ce<p.cells.length))||decide ((p.stepAt a.th a.st).kind=7)then 1 else 0
def validB (p:Prog):Bool:=decide ((validM p).1=0)
end Rg
end
section
namespace Rg
open Go
theorem zl1 (k j:Nat):(1<<< k).testBit j=decide (k=j):=by rw[Nat.one_shiftLeft,Nat.testBit_two_pow]
theorem zcE {α:Type} (P:α->Bool) (k:α->Nat) (j:Nat): ∀(l:List α) (m:Nat),(l.foldl (fun m q=>if P q then m ||| 1<<< k q else m) m).testBit j=(m.testBit j||l.any fun q=>P q&&decide (k q=j))
 | [],m=>by simp
 | x::l,m=>by
   rw[List.foldl_cons,zcE P k j l,List.any_cons];cases h:P x
   ·simp
   ·rw[if_pos rfl,Nat.testBit_or,zl1];simp[Bool.or_assoc]
theorem za8 {m:Nat}:m≠0<-> ∃j,m.testBit j=true:=by
 constructor
 ·intro h;exact Nat.exists_testBit_of_ne_zero h
 ·rintro⟨j,hj⟩ rfl;simp at hj
theorem zeI {a b:Nat} {r:List Nat}:zyH a b r=true<-> ∃i j,i<64/\a.testBit i=true/\(r.getD i 0).testBit j=true/\b.testBit j=true:=by
 simp only[zyH,List.any_eq_true,List.mem_range,zF,bne_iff_ne];constructor
 ·rintro⟨i,hi,ha,hb⟩;obtain⟨j,hj⟩:=za8.1 hb;rw[Nat.testBit_and,zF]at hj;exact⟨i,j,hi,ha,hj.1,hj.2⟩
 ·rintro⟨i,j,hi,ha,h1,h2⟩;exact⟨i,hi,ha,za8.2 ⟨j,by rw[Nat.testBit_and,h1,h2];rfl⟩⟩
def zmc (a b:Nat):Prop:= ∀j,a.testBit j=true->b.testBit j=true
theorem zmc.ne {a b:Nat} (h:zmc a b) (ha:a≠0):b≠0:=by
 obtain⟨j,hj⟩:=za8.1 ha;exact za8.2 ⟨j,h j hj⟩
theorem zdR {a a' b b':Nat} {r r':List Nat} (ha:zmc a a') (hb:zmc b b') (hr: ∀i,a.testBit i=true->zmc (r.getD i 0) (r'.getD i 0)) (h:zyH a b r=true):zyH a' b' r'=true:=by
 obtain⟨i,j,hi,h1,h2,h3⟩:=zeI.1 h;exact zeI.2 ⟨i,j,hi,ha i h1,hr i h1 j h2,hb j h3⟩
namespace Gr
variable {g:Gr}
theorem maskF_bit (f:Acc->Bool) (c i j:Nat):(g.maskF f c i).testBit j=true<-> ∃q∈(g.all.zip g.cls).take i,f q.1=true/\q.2=c/\q.1.st=j:=by
 rw[maskF,zcE (fun q:Acc×Nat=>f q.1&&decide (q.2=c)) (fun q=>q.1.st)];simp only[Nat.zero_testBit,Bool.false_or,List.any_eq_true,zF,decide_eq_true_eq];constructor
 ·rintro⟨q,h1,⟨h2,h3⟩,h4⟩;exact⟨q,h1,h2,h3,h4⟩
 ·rintro⟨q,h1,h2,h3,h4⟩;exact⟨q,h1,⟨h2,h3⟩,h4⟩
theorem zze {c d:Nat}:(c,d)∈g.pairs<->c<g.msk.length/\d<g.msk.length/\g.isPair c d=true:=by
 simp only[pairs,List.mem_flatMap,List.mem_range,List.mem_map,List.mem_filter,Prod.mk.injEq];constructor
 ·rintro⟨c',h1,d',⟨h2,h3⟩,rfl,rfl⟩;exact⟨h1,h2,h3⟩
 ·rintro⟨h1,h2,h3⟩;exact⟨c,h1,d,⟨h2,h3⟩,rfl,rfl⟩
theorem isPair_iff {c d:Nat}:g.isPair c d=true<->g.eaM c≠0/\g.laM d≠0/\g.thr c=g.thr d/\c/ 2≠d/ 2/\zyH (g.eaM c) (g.laM d) (g.qk.getD (g.thr c) [])=true:=by
 simp only[isPair,zF,decide_eq_true_eq]
theorem shortest_none:g.shortest=none<-> ∀r,1<=r->r<=2*(g.nt-1)->g.atRest r=false:=by
 simp only[shortest,List.find?_eq_none,List.mem_map,List.mem_range];constructor
 ·intro h r h1 h2;have:=h r ⟨r-1,by omega,by omega⟩;simpa using this
 ·rintro h x ⟨a,ha,rfl⟩;rw[h _ (by omega) (by omega)];simp
theorem atRest_iff {r:Nat}:g.atRest r=true<-> ∃c d,c<g.msk.length/\d<g.msk.length/\g.isPair c d=true/\g.ends r c d (1<<< g.thr d)=true:=by
 simp only[atRest,List.any_eq_true];constructor
 ·rintro⟨⟨c,d⟩,h1,h2⟩;obtain⟨a,b,e⟩:=zze.1 h1;exact⟨c,d,a,b,e,h2⟩
 ·rintro⟨c,d,a,b,e,h2⟩;exact⟨(c,d),zze.2 ⟨a,b,e⟩,h2⟩
end Gr
end Rg
end
section
namespace Rg
open Go
def arr (l:List Nat):List V:=l.map fun x:Nat=> .t (.int .u64 x)
set_option maxHeartbeats 2000000
end Rg
end
section
set_option maxRecDepth 100000
namespace Rg
open Go
structure Prog.lite7 (p:Prog):Prop where
 cname: ∀c∈p.cells,c.name.size<2^50
 mname: ∀m∈p.modules,m.name.size<2^50/\m.owner.size<2^50
 tname: ∀t∈p.threads,t.name.size<2^50
structure Prog.SmallP (p:Prog) (L:Int):Prop where
 cells:p.cells.length<=40
 modules:p.modules.length<=10
 locks:p.locks.length<=10
 threads:p.threads.length<=8
 mods: ∀m∈p.modules,m.frame.length<=60/\(m.rely.size:Int)<=L/\(m.guar.size:Int)<=L
 lcks: ∀l∈p.locks,(l.inv.size:Int)<=L
 thr: ∀t∈p.threads,t.asserts.length<=60/\t.modules.length<=60/\t.steps.length<=80/\t.loops.length<=12/\(∀e∈t.asserts,(e.size:Int)<=L)
 steps: ∀t∈p.threads,∀s∈t.steps,s.set.length<=40/\(s.guard.size:Int)<=L/\ ∀a∈s.set,(a.to.size:Int)<=L
 loops: ∀t∈p.threads,∀l∈t.loops,l.body.length<=60/\(l.variant.size:Int)<=L
theorem Prog.SmallP.sane {L:Int} {p:Prog} (hl:p.lite7) (h:p.SmallP L):p.sane:=by
 have h1:=h.cells;have h2:=h.modules;have h3:=h.locks;have h4:=h.threads;refine⟨by omega,by omega,by omega,by omega,hl.cname,?_,?_,?_,?_⟩
 ·intro m hm;have:=h.mods m hm;exact⟨(hl.mname m hm).1,(hl.mname m hm).2,by omega⟩
 ·intro t ht;have:=h.thr t ht;exact⟨hl.tname t ht,by omega,by omega,by omega,by omega⟩
 ·intro t ht s hs;have:=(h.steps t ht s hs).1;omega
 ·intro t ht l hl;have:=(h.loops t ht l hl).1;omega
end Rg
end
section
namespace Rg
open Go
end Rg
end
section
namespace Rg
open Go
theorem zec (zs:List Int) (hs:zs.Pairwise (· <= ·)) (m:Nat) (hm:m<=zs.length):(Go.Lib.compactUpTo zs.toArray m).Pairwise (· < ·):=by
 have hget: ∀i j:Nat,i<=j->j<zs.length->zs.toArray[i]! <=zs.toArray[j]! :=by
  intro i j hij hj;rw[getElem!_pos zs.toArray i (by simp;omega),getElem!_pos zs.toArray j (by simp;omega)];simp only[List.getElem_toArray];rcases Nat.lt_or_eq_of_le hij with h | h
  ·exact List.pairwise_iff_getElem.1 hs i j (by omega) hj h
  ·subst h;exact Int.le_refl _
 unfold Go.Lib.compactUpTo;rw[List.pairwise_map];have h0:=(List.pairwise_lt_range (n:=m)).filter (Go.Lib.keeps zs.toArray);refine h0.imp_of_mem ?_;intro a b ha hb hab;have hb1:=List.mem_range.1 (List.mem_filter.1 hb).1;have hk:=(List.mem_filter.1 hb).2;have h1:=hget a (b-1) (by omega) (by omega);have h2:=hget (b-1) b (by omega) (by omega);simp only[Go.Lib.keeps,Bool.or_eq_true,decide_eq_true_eq,bne_iff_ne,ne_eq]at hk;rcases hk with hk | hk
 ·omega
 ·omega
theorem sortedM_sorted (l:List Int):(sortedM l).Pairwise (· < ·):=by
 unfold sortedM Go.Lib.compact;refine zec _ ?_ _ (Nat.le_refl _);have:=List.pairwise_mergeSort (le:=fun x y:Int=>decide (x<=y)) (by intro a b c h1 h2;simp at *;omega) (by intro a b;simp;omega) l;exact this.imp (by intro a b h;simpa using h)
end Rg
end
section
namespace Rg
open Go
structure Like (p q:Prog):Prop where
 cells:p.cells=q.cells
 mods:p.modules.length=q.modules.length
 thr:p.threads.length=q.threads.length
 asl: ∀t,zbS p t=zbS q t
variable {p q:Prog}
end Rg
end
section
namespace Rg
open Go
structure KindFacts (p:Prog) (t:Int) (s:Step):Prop where
 r: ∀c∈zyq s,sees p t c=true
 w: ∀c∈zxG s,sees p t c=true
 k1:s.kind=1->(∀c∈zyq s,ofThread p t c=true)/\ ∀c∈zxG s,ofThread p t c=true
 k2:s.kind=2->(∃n∈zyq s,ofThread p (-1) n=true/\ ∀c∈zyq s,ofThread p (-1) c=true->ofThread p t c=false->c=n)/\(∀c∈zxG s,ofThread p t c=true)/\zxG s≠[]
 k3:s.kind=3->(∀c∈zyq s,ofThread p t c=true)/\ ∃n∈zxG s,ofThread p (-1) n=true/\zaJ p n Cell.ghost=false/\ ∀c∈zxG s,zaJ p c Cell.ghost=false->c=n
 k5:4<s.kind->zyq s=[]/\zxG s=[]
end Rg
end
section
set_option maxRecDepth 100000
namespace Rg
open Go
def exE:Expr:=.mk 1 1 1 []
def exP (nm:ByteArray) (fr:Int) (to as1:Expr):Prog:=
 ⟨[⟨nm,2,0,-1,false,0⟩,⟨bs [114],2,0,0,false,0⟩],
  [⟨bs [77],bs [65,110,110],.mk 0 0 0 [],exE,[0]⟩],[],
  [⟨bs [116],2,[exE,as1],[0,0],[⟨2,fr,1,exE,[⟨1,to⟩],false,0,0⟩],[],false⟩]⟩
def zpO (e:Expr):List V:=[.t (ti e.op),.t (ti e.w),.t (ti e.n),.t (.sl (e.kids.map Expr.enc))]
structure Ex7 (z:Nat->Bool) (h:Nat->Option O) (a:Nat) (nm:ByteArray) (fr:Int) (to as1:Expr):Prop where
 k7:h (a+7)=some (.rows 5 [.t (ti 1)::zpO to] (z 0))
 k13:h (a+13)=some (.rows 6 [[.t (.str nm),.t (ti 2),.t (ti 0),.t (ti (-1)),.t (tb false),.t (ti 0)],[.t (.str (bs [114])),.t (ti 2),.t (ti 0),.t (ti 0),.t (tb false),.t (ti 0)]] (z 1))
 k15:h (a+15)=some (.rows 1 [[.t (ti 0)]] (z 2))
 k17:h (a+17)=some (.rows 11 [[.t (.str (bs [77])),.t (.str (bs [65,110,110])),.t (ti 0),.t (ti 0),.t (ti 0),.t .nils,.t (ti 1),.t (ti 1),.t (ti 1),.t (.sl []),.ms (a+15) 0 1]] (z 3))
 k20:h (a+20)=some (.rows 4 [zpO exE,zpO as1] (z 4))
 k21:h (a+21)=some (.rows 1 [[.t (ti 0)],[.t (ti 0)]] (z 5))
 k23:h (a+23)=some (.rows 11 [[.t (ti 2),.t (ti fr),.t (ti 1),.t (ti 1),.t (ti 1),.t (ti 1),.t (.sl []),.ms (a+7) 0 1,.t (tb false),.t (ti 0),.t (ti 0)]] (z 6))
 k25:h (a+25)=some (.rows 7 [[.t (.str (bs [116])),.t (ti 2),.ms (a+20) 0 2,.ms (a+21) 0 2,.ms (a+23) 0 1,.t .nils,.t (tb false)]] (z 7))
theorem zc4 {h:Nat->Option O} {k i len d sz:Nat} {rs r:List (List V)} {fz:Bool} {es:List (List T)} (hk:h k=some (.rows sz rs fz)) (hr:rd rs i len=some r) (he:r.mapM (fun row=>row.mapM (toT h d))=some es):
 toT h (d+1) (.ms k i len)=some (.sl es):=by
 simp[toT,hk,hr,he]
theorem zfX (h:Nat->Option O) (d:Nat) (x:T):toT h d (.t x)=some x.norm:=by cases d<;>rfl
section
variable {z:Nat->Bool} {h:Nat->Option O} {a:Nat} {nm:ByteArray} {fr:Int} {to as1:Expr}
theorem Ex7.stree (hx:Ex7 z h a nm fr to as1) (d:Nat):toT h (d+1) (.ms (a+7) 0 1)=some (.sl [Assign.enc ⟨1,to⟩]):=by
 refine zc4 hx.k7 (by rfl) ?_;simp[zfX,zpO,Assign.enc,Expr.enc_eq,T.norm]
theorem Ex7.tree (hx:Ex7 z h a nm fr to as1):
 toT1 h (V.agg [.ms (a+13) 0 2,.ms (a+17) 0 1,.t .nils,.ms (a+25) 0 1])=some (.agg [.t (.sl ((exP nm fr to as1).cells.map (Cell.enc))),.t (.sl ((exP nm fr to as1).modules.map (Contract.enc))),.t (.sl ((exP nm fr to as1).locks.map (Lock.enc))),.t (.sl ((exP nm fr to as1).threads.map (Thread.enc)))]):=by
 have e13:toT h 1000 (.ms (a+13) 0 2)=some (.sl ((exP nm fr to as1).cells.map Cell.enc)):=by
  refine zc4 hx.k13 (by rfl) ?_;simp[zfX,exP,Cell.enc,T.norm]
 have e15:toT h 999 (.ms (a+15) 0 1)=some (ints [0]):=by
  refine zc4 hx.k15 (by rfl) ?_;simp[zfX,T.norm]
 have e17:toT h 1000 (.ms (a+17) 0 1)=some (.sl ((exP nm fr to as1).modules.map Contract.enc)):=by
  refine zc4 hx.k17 (by rfl) ?_;simp[zfX,e15,exP,Contract.enc,Expr.enc_eq,T.norm,exE,Expr.op,Expr.w,Expr.n,Expr.kids]
 have e20:toT h 999 (.ms (a+20) 0 2)=some (.sl ([exE,as1].map Expr.enc)):=by
  refine zc4 hx.k20 (by rfl) ?_;simp[zfX,zpO,Expr.enc_eq,T.norm]
 have e21:toT h 999 (.ms (a+21) 0 2)=some (ints [0,0]):=by
  refine zc4 hx.k21 (by rfl) ?_;simp[zfX,T.norm]
 have e7:=hx.stree 997
 have e23:toT h 999 (.ms (a+23) 0 1)=some (.sl ([⟨2,fr,1,exE,[⟨1,to⟩],false,0,0⟩].map Step.enc)):=by
  refine zc4 hx.k23 (by rfl) ?_;simp[zfX,e7,Step.enc,exE,Expr.enc_eq,T.norm,Expr.op,Expr.w,Expr.n,Expr.kids]
 have e25:toT h 1000 (.ms (a+25) 0 1)=some (.sl ((exP nm fr to as1).threads.map Thread.enc)):=by
  refine zc4 hx.k25 (by rfl) ?_;simp[zfX,e20,e21,e23,exP,Thread.enc,T.norm]
 simp[toT1,e13,e17,e25,zfX,T.norm,exP]
theorem zbP {h:Nat->Option O} {k sz:Nat} {rs:List (List V)} {z:Bool} (hk:h k=some (.rows sz rs z)) (l:List Nat): ∃z',hpC h (freezes h l) k=some (.rows sz rs z'):=by
 suffices hs: ∀(l:List Nat) (g:Nat->Option O) (y:Bool),g k=some (.rows sz rs y)-> ∃z',hpC g (freezes h l) k=some (.rows sz rs z')from hs l h z hk
 intro l
 induction l with
 | nil=>intro g y hg;exact⟨y,by simp only[freezes,List.filterMap_nil,zaq];exact hg⟩
 | cons q r ih=>
   intro g y hg;unfold freezes at ih⊢;rw[List.filterMap_cons];split
   ·exact ih g y hg
   ·rename_i b hb;split at hb
    ·rename_i s1 r1 y1 hq;cases hb;rw[zau]
     by_cases hkq:k=q
     ·subst hkq;rw[hk]at hq;cases hq;exact ih _ true (by rw[zac,if_pos rfl])
     ·exact ih _ y (by rw[zac,if_neg hkq];exact hg)
    ·cases hb
theorem Ex7.frz (hx: ∃z,Ex7 z h a nm fr to as1) (l:List Nat): ∃z,Ex7 z (hpC h (freezes h l)) a nm fr to as1:=by
 obtain⟨z,hx⟩:=hx;obtain⟨z0,f0⟩:=zbP hx.k7 l;obtain⟨z1,f1⟩:=zbP hx.k13 l;obtain⟨z2,f2⟩:=zbP hx.k15 l;obtain⟨z3,f3⟩:=zbP hx.k17 l;obtain⟨z4,f4⟩:=zbP hx.k20 l;obtain⟨z5,f5⟩:=zbP hx.k21 l;obtain⟨z6,f6⟩:=zbP hx.k23 l;obtain⟨z7,f7⟩:=zbP hx.k25 l;exact⟨fun i=>[z0,z1,z2,z3,z4,z5,z6,z7].getD i false,f0,f1,f2,f3,f4,f5,f6,f7⟩
theorem Ex7.upd (hx: ∃z,Ex7 z h a nm fr to as1) {k:Nat} (hk:a+26<=k) (o:Option O): ∃z,Ex7 z (updC h k o) a nm fr to as1:=by
 obtain⟨z,hx⟩:=hx;exact⟨z,by constructor<;>(rw[zac,if_neg (by omega)])<;>first | exact hx.k7 | exact hx.k13 | exact hx.k15 | exact hx.k17 | exact hx.k20 | exact hx.k21 | exact hx.k23 | exact hx.k25⟩
end
def frzK (h:Nat->Option O) (vs:List V) (r:V) (K:V->(Nat->Option O)->Prop):Prop:=K r (hpC h (freezes h (vs.flatMap (reach1 h))))
theorem zjB {h:Nat->Option O} {vs:List V} {r:V} {K:V->(Nat->Option O)->Prop} {a:Nat} {nm:ByteArray} {fr:Int} {to as1:Expr} (hx: ∃z,Ex7 z h a nm fr to as1)
 (hk: ∀H,(∃z,Ex7 z H a nm fr to as1)->K r H):frzK h vs r K:=hk _ (Ex7.frz hx _)
def X7 (H:Nat->Option O):Prop:= ∃z,Ex7 z H 4 (bs [120]) 0 (.mk 2 2 0 []) exE
theorem X7.upd {H:Nat->Option O} (hx:X7 H) {k:Nat} (hk:30<=k) (o:Option O):X7 (updC H k o):=Ex7.upd hx hk o
theorem X7.frz {H:Nat->Option O} {vs:List V} {r:V} {K:V->(Nat->Option O)->Prop} (hx:X7 H) (hk: ∀H,X7 H->K r H):frzK H vs r K:=zjB hx hk
section
variable {z:Nat->Bool} {h:Nat->Option O} {a:Nat} {nm:ByteArray} {fr:Int} {to as1:Expr}
end
end Rg
end
section
set_option maxRecDepth 100000
namespace Rg
open Go
theorem Prog.ok.cell {p:Prog} (h:p.ok) {c:Nat} {x:Cell} (hx:p.cells[c]? =some x): -1<=x.thread/\x.thread<p.threads.length:=by
 have:=(cellErr_iff.1 ((ok_iff.1 h).cells c x hx)).1;simp only[zaY,Bool.or_eq_false_iff,decide_eq_false_iff_not]at this;omega
theorem Prog.ok.thr {p:Prog} (h:p.ok) {t:Nat} {x:Thread} (hx:p.threads[t]? =some x):1<=x.points/\x.points<=48:=by
 have h1:=(threadErr_iff.1 ((ok_iff.1 h).threads t x hx)).2.2.1.1;have h2:=((limits_iff.1 (ok_iff.1 h).lim).2 x (List.mem_of_getElem? hx)).1;exact⟨h1,h2⟩
theorem Prog.ok.step {p:Prog} (h:p.ok) {t s:Nat} {x:Thread} {y:Step} (hx:p.threads[t]? =some x) (hy:x.steps[s]? =some y):0<=y.fr/\y.fr<x.points-1:=by
 have h1:=(threadErr_iff.1 ((ok_iff.1 h).threads t x hx)).2.2.2.2.2.1 s y hy;have h2:=(stepErr_iff.1 h1).1;simp only[zbl,Bool.or_eq_false_iff,decide_eq_false_iff_not,Bool.not_eq_false',inR,decide_eq_true_eq]at h2;omega
end Rg
end
section
set_option maxRecDepth 100000
namespace Rg
open Go
end Rg
end
section
namespace Rg
open Go
structure Gr.Ok (g:Gr):Prop where
 cl_len:g.cls.length=g.all.length
 msk_len:g.msk.length=g.nt*g.sz
 ld_len:g.ld.length=g.nt
 qk_len:g.qk.length=g.nt
 ld_lt: ∀t i,g.ldAt t i<2^64
 qk_lt: ∀t i,g.qkAt t i<2^64
 ld_row: ∀t,t<g.nt->(g.ld.getD t []).length=64
 qk_row: ∀t,t<g.nt->(g.qk.getD t []).length=64
 th_lt: ∀i,i<g.all.length->(g.ac i).th<g.nt
 st_lt: ∀i,i<g.all.length->(g.ac i).st<64
 thr_cl: ∀i,i<g.all.length->g.thr (g.cl i)=(g.ac i).th
 cl_lt: ∀i,i<g.all.length->g.cl i<g.msk.length
 mk_bit: ∀c j,(g.mks c).testBit j=true<-> ∃i,i<g.all.length/\g.cl i=c/\(g.ac i).st=j
theorem Gr.Ok.alone {g:Gr} (ho:g.Ok) {t:Nat} (h: ∀i,i<g.all.length->(g.ac i).th=t):g.shortest=none:=by
 rw[Gr.shortest_none];intro r h1 _;cases hr:g.atRest r
 ·rfl
 ·obtain⟨c,d,_,_,k3,k4⟩:=Gr.atRest_iff.1 hr;obtain⟨i1,i2,i3,_⟩:=Gr.isPair_iff.1 k3
  have hthr: ∀f c,g.maskF f c g.all.length≠0->g.thr c=t:=by
   intro f c hc;obtain⟨j,hj⟩:=za8.1 hc;obtain⟨⟨a,c'⟩,hq,_,rfl,_⟩:=(Gr.maskF_bit f c _ j).1 hj;obtain⟨n,hn,he⟩:=List.mem_iff_getElem.1 (List.mem_of_mem_take hq);have hn1:n<g.all.length:=by rw[List.length_zip]at hn;omega
   have hn2:n<g.cls.length:=by rw[ho.cl_len];exact hn1
   have e:g.cl n=c':=by
    rw[List.getElem_zip]at he;simp only[Gr.cl,List.getD_eq_getElem?_getD,zI hn2,Option.getD_some];exact(Prod.mk.inj he).2
   rw[<- e,ho.thr_cl n hn1,h n hn1]
  obtain⟨r,rfl⟩: ∃k,r=k+1:=⟨r-1,by omega⟩
  rw[Gr.ends_succ,List.any_eq_true]at k4;obtain⟨e,_,h5⟩:=k4;simp only[Gr.ok,zF,decide_eq_true_eq,Bool.not_eq_true']at h5;obtain⟨⟨h6,h7,_⟩,_⟩:=h5;obtain⟨j,hj⟩:=za8.1 h6;obtain⟨n,hn,h8,_⟩:=(ho.mk_bit e j).1 hj;rw[hthr g.lat d i2,zl1]at h7;rw[<- h8,ho.thr_cl n hn,h n hn]at h7;simp at h7
def rowsT (f:Nat->Nat->Nat):List T:=(List.range 256).map fun j=> .int .u64 (f (j/ 64) (j % 64):Nat)
def zBk (g:Gr):List T:=rowsT g.ldAt++rowsT g.qkAt++[.opq]
abbrev zpz (l:List Nat):T:=.sl (l.map fun m:Nat=>[.int .u64 m])
abbrev grT (cs ms ls ts:List (List T)) (model:Int) (g:Gr):T:=.ip (.sl cs:: .sl ms:: .sl ls:: .sl ts:: .int .i64 model:: .sl (g.all.map Acc.enc)::ints (g.cls.map fun c:Nat=>(c:Int))::zpz g.msk::zBk g)
set_option maxHeartbeats 1000000
end Rg
end
section
namespace Rg
open Go
def rowsU (l:List Nat):List (List V):=l.map fun x:Nat=>[.t (.int .u64 x)]
namespace Gr
variable {g:Gr}
end Gr
theorem zxp.offR {h:Nat->Option O} {x k sz sz':Nat} {v:V} {rows rs:List (List V)} {f:Bool} (o:zxp h x v sz rows) (hk:h k=some (.rows sz' rs f)) (hne:sz≠sz'):zc1 v k:=by
 rcases o with⟨rfl,_⟩ | ⟨q,rfl,_,hq⟩
 ·intro i n he;cases he
 ·refine offK_ms ?_ _ _;rintro rfl;rw[hq]at hk;cases hk;exact hne rfl
structure AskT (cs ms ls ts:List (List T)) (model:Int) (g:Gr):Prop where
 ok:g.Ok
 nt4:g.nt<=4
 nc:g.nc=cs.length
 cl:cs.length<=32
 nt:g.nt=ts.length
 al:g.all.length<2^20
 ear: ∀i,i<g.all.length->Den Γ G 318 [.t (grT cs ms ls ts model g),.agg [vi (g.ac i).th,vi (g.ac i).st,vi (g.ac i).ce,vb (g.ac i).wr]]=some (vb (g.ear (g.ac i)))
 lat: ∀i,i<g.all.length->Den Γ G 319 [.t (grT cs ms ls ts model g),.agg [vi (g.ac i).th,vi (g.ac i).st,vi (g.ac i).ce,vb (g.ac i).wr]]=some (vb (g.lat (g.ac i)))
set_option maxHeartbeats 2000000
end Rg
end
section
namespace Rg
open Go
def idxC (l:List Int) (v:Int):Int:=match l.findIdx? (fun x=>decide (x=v))with
 | some i=>i
 | none=> -1
theorem zen {l:List Int} {v:Int} {i:Nat} (h:l[i]? =some v) (hn: ∀j,j<i->l[j]? ≠some v):idxC l v=i:=by
 have hi:=(zH.1 h).1
 have:l.findIdx? (fun x=>decide (x=v))=some i:=by
  rw[List.findIdx?_eq_some_iff_getElem];refine⟨hi,by simpa using(zH.1 h).2,fun j hj=> ?_⟩;have:=hn j hj;rw[zI (by omega)]at this;simpa using this
 rw[idxC,this]
theorem zhb {l:List Int} {v:Int} (hn: ∀j,j<l.length->l[j]? ≠some v):idxC l v= -1:=by
 have:l.findIdx? (fun x=>decide (x=v))=none:=by
  rw[List.findIdx?_eq_none_iff];intro x hx;obtain⟨j,hj⟩:=List.getElem?_of_mem hx;have:=hn j (zH.1 hj).1;rw[hj]at this;simpa using this
 rw[idxC,this]
theorem znb (l:List Int) (v:Int):decide (idxC l v>=0)=l.contains v:=by
 unfold idxC
 cases h:l.findIdx? (fun x=>decide (x=v))with
 | some i=>
   have hm:v∈l:=by
    rw[List.findIdx?_eq_some_iff_getElem]at h;obtain⟨h1,h2,_⟩:=h;exact(by simpa using h2:l[i]=v)▸List.getElem_mem h1
   simp[hm]
 | none=>
   have hm:v∉ l:=by
    intro hm;rw[List.findIdx?_eq_none_iff]at h;have:=h v hm;simp at this
   simp[hm]
theorem zjx (l:List Int) (v:Int) (hl:l.length<2^40):Den Γ G 207 [.t (ints l),vi v]=some (vi (idxC l v)):=by
 (refine den_ofY Γ207 rfl ?_;dsimp only[f207])
 simp -dsimp only[go_sem,seval];refine zaz 524080 l.length (fun i f=>(f 8).v=vi i/\ ∀j,j<i->l[j]? ≠some v) rfl rfl ⟨by simp -dsimp only[go_sem,seval],fun j hj=>by omega⟩ ?_;rintro i f u kk bb hi ⟨h8,hn⟩;have hw:=zah i (by omega);simp -dsimp only[go_sem,seval,h8];refine csplit (fun h=> ?_) (fun h=> ?_)<;>(try rw[h])<;>(try simp only[zab]at h)<;>(try simp -dsimp only[go_sem,seval,h8])
 ·obtain⟨y,hy,_⟩:=zaf ‹i<l.length›;simp -dsimp only[go_sem,seval,h8,hy];refine csplit (fun h=> ?_) (fun h=> ?_)<;>(try rw[h])<;>(try simp only[zab]at h)<;>(try simp -dsimp only[go_sem,seval,h8])
  ·rw[zen (by rw[hy,h]) hn]
  ·refine⟨by omega,by simp -dsimp only[go_sem,seval,hw],fun j hj=> ?_⟩;rcases Nat.lt_or_ge j i with h1 | h1
   ·exact hn j h1
   ·have:j=i:=by omega
    subst this;rw[hy];intro he;cases he;exact absurd rfl h
 ·have:i=l.length:=by omega
  subst this;rw[zhb hn]
theorem zbB (l:List Int) (v:Int) (hl:l.length<2^40):Den Γ G 206 [.t (ints l),vi v]=some (vb (l.contains v)):=by
 (refine den_ofY Γ206 rfl ?_;dsimp only[f206])
 have h1:=zjx l v hl;have h2:=znb l v;simp -dsimp only[go_sem,seval,h1,h2]
set_option maxHeartbeats 2000000
end Rg
end
section
namespace Rg
open Go
def rowsV (f:Nat->Nat->Nat):List V:=(List.range 256).map fun j=> .t (.int .u64 (f (j/ 64) (j % 64):Nat))
def restV (ld qk:Nat->Nat->Nat) (kn:Nat):List V:=rowsV ld++rowsV qk++[.mm kn]
abbrev rowG (cs ms ls ts:List (List T)) (model:Int) (al:List (List T)) (cv mv:V) (ld qk:Nat->Nat->Nat) (kn:Nat):List V:=
 .t (.sl cs):: .t (.sl ms):: .t (.sl ls):: .t (.sl ts):: .t (.int .i64 model):: .t (.sl al)::cv::mv::restV ld qk kn
def Shw (H:Nat->Option O) (v:V) (sz:Nat) (es:List (List T)):Prop:=(v= .t .nils/\es=[])\/ ∃k f,v= .ms k 0 es.length/\H k=some (.rows sz (es.map (·.map V.t)) f)
theorem Shw.toT {H:Nat->Option O} {v:V} {sz:Nat} {es:List (List T)} (h:Shw H v sz es) (hn: ∀e∈es,∀t∈e,T.norm t=t) (d:Nat):toT H (d+1) v=some (.sl es):=by
 rcases h with⟨rfl,rfl⟩ | ⟨k,f,rfl,hk⟩
 ·rfl
 ·have h1:=zef H d es hn;simp only[Rg.toT,hk]
  rw[show rd (es.map (·.map V.t)) 0 es.length=some (es.map (·.map V.t))by
   simp only[rd,List.length_map,Nat.zero_add,Nat.le_refl,if_true,List.drop_zero];rw[List.take_of_length_le (by simp)]]
  simp only[zC,zD,h1]
theorem Shw.valOf {H:Nat->Option O} {v:V} {sz:Nat} {es:List (List T)} (h:Shw H v sz es):valOf v=some v:=by
 rcases h with⟨rfl,rfl⟩ | ⟨k,f,rfl,hk⟩<;>rfl
theorem Shw.isTr {H:Nat->Option O} {v:V} {sz:Nat} {es:List (List T)} (h:Shw H v sz es):v.one=true:=by
 rcases h with⟨rfl,rfl⟩ | ⟨k,f,rfl,hk⟩<;>rfl
def zpc (es:List (List T)):Prop:= ∀e∈es,∀t∈e,T.norm t=t
theorem rowsV_toT (H:Nat->Option O) (d:Nat) (f:Nat->Nat->Nat):(rowsV f).mapM (toT H d)=some (rowsT f):=by
 refine zbd _ _ _ (fun i a ha=> ?_) (by simp[rowsV,rowsT]);simp only[rowsV,rowsT,zJ,zE]at ha⊢;obtain⟨x,hx,rfl⟩:=ha;exact⟨_,⟨x,hx,rfl⟩,by cases d<;>rfl⟩
theorem mapM_app {α β:Type} (f:α->Option β): ∀{a b:List α} {x y:List β},a.mapM f=some x->b.mapM f=some y->(a++b).mapM f=some (x++y):=by
 intro a b x y ha hb;rw[List.mapM_append,ha,hb];rfl
theorem zeT {H:Nat->Option O} {kG kn:Nat} {cs ms ls ts al ce me:List (List T)} {model:Int} {cv mv:V} {ld qk:Nat->Nat->Nat} {es:List (T×V)} {fz:Bool}
 (hG:H kG=some (.rows 521 [rowG cs ms ls ts model al cv mv ld qk kn] fz)) (hc:Shw H cv 1 ce) (hcn:zpc ce) (hm:Shw H mv 1 me) (hmn:zpc me) (hk:H kn=some (.map es)):
 toT1 H (.mp kG 0 0)=some (.t (.ip (.sl cs:: .sl ms:: .sl ls:: .sl ts:: .int .i64 model:: .sl al:: .sl ce:: .sl me::(rowsT ld++rowsT qk++[.opq])))):=by
 have hr:(restV ld qk kn).mapM (toT H 999)=some (rowsT ld++rowsT qk++[.opq]):=by
  refine mapM_app _ (mapM_app _ (rowsV_toT H 999 ld) (rowsV_toT H 999 qk)) ?_;rw[List.mapM_cons,show toT H 999 (.mm kn)=some .opq by rw[show 999=998+1 from rfl];simp only[toT,hk]];rfl
 have h1:=hc.toT hcn 998;have h2:=hm.toT hmn 998;have hx: ∀x:T,toT H 999 (.t x)=some x.norm:=fun x=>rfl
 have hrow:(rowG cs ms ls ts model al cv mv ld qk kn).mapM (toT H 999)=some (.sl cs:: .sl ms:: .sl ls:: .sl ts:: .int .i64 model:: .sl al:: .sl ce:: .sl me::(rowsT ld++rowsT qk++[.opq])):=by
  simp only[rowG,List.mapM_cons,hx,h1,h2,hr,T.norm];rfl
 have:toT H 1000 (.mp kG 0 0)=some (.ip (.sl cs:: .sl ms:: .sl ls:: .sl ts:: .int .i64 model:: .sl al:: .sl ce:: .sl me::(rowsT ld++rowsT qk++[.opq]))):=by
  rw[show 1000=999+1 from rfl];simp only[toT,hG];show(do let row<- [rowG cs ms ls ts model al cv mv ld qk kn][0]?;let cs<- (row.drop 0).mapM (toT H 999);some (T.ip cs))=_;simp only[List.getElem?_cons_zero,List.drop_zero,zC,zD,hrow]
 show(toT H 1000 (.mp kG 0 0)).map V.t=_;rw[this];rfl
structure GrObj (H:Nat->Option O) (n kG:Nat) (p:Prog) (model:Int) (g:Gr):Prop where
 ex: ∃cv kM kn,H kG=some (.rows 521 [rowG (p.cells.map Cell.enc) (p.modules.map Contract.enc) (p.locks.map Lock.enc) (p.threads.map Thread.enc) model (g.all.map Acc.enc) cv (.ms kM 0 g.msk.length) g.ldAt g.qkAt kn] false)/\
  zxp H n cv 1 (rowsI (g.cls.map fun c:Nat=>(c:Int)))/\H kM=some (.rows 1 (rowsU g.msk) false)/\H kn=some (.map [])/\kG<n/\kM<n/\kn<n
theorem zxp.updO {h:Nat->Option O} {x k sz:Nat} {v:V} {rows:List (List V)} (o:zxp h x v sz rows) (hk:zc1 v k) (b:Option O):zxp (updC h k b) x v sz rows:=by
 rcases o with o | ⟨q,rfl,h2,h3⟩
 ·exact .inl o
 ·refine .inr ⟨q,rfl,h2,?_⟩;have:q≠k:=by rintro rfl;exact hk _ _ rfl
  rw[zac,if_neg this];exact h3
theorem u64_norm (l:List Nat):zpc (l.map fun x:Nat=>[T.int .u64 x]):=by
 intro e he t ht;obtain⟨x,_,rfl⟩:=List.mem_map.1 he;simp only[List.mem_cons,List.not_mem_nil,or_false]at ht;rw[ht];rfl
theorem zok (l:List Nat):rowsU l=(l.map fun x:Nat=>[T.int .u64 x]).map (·.map V.t):=by simp[rowsU]
theorem msk_shw {h:Nat->Option O} {k m:Nat} {l:List Nat} {f:Bool} (hk:h k=some (.rows 1 (rowsU l) f)) (hm:m=l.length):Shw h (.ms k 0 m) 1 (l.map fun x:Nat=>[T.int .u64 x]):=
 .inr ⟨k,f,by simp[hm],by rw[hk,zok]⟩
set_option maxHeartbeats 4000000
set_option maxRecDepth 4000
end Rg
end
section
namespace Rg
open Go
structure GrB (H:Nat->Option O) (kG kM kn:Nat) (cv:V) (p:Prog) (model:Int) (g:Gr) (f1 f2:Bool):Prop where
 row:H kG=some (.rows 521 [rowG (p.cells.map Cell.enc) (p.modules.map Contract.enc) (p.locks.map Lock.enc) (p.threads.map Thread.enc) model (g.all.map Acc.enc) cv (.ms kM 0 g.msk.length) g.ldAt g.qkAt kn] f1)
 cls:Shw H cv 1 (g.cls.map fun c:Nat=>[ti c])
 msk:H kM=some (.rows 1 (rowsU g.msk) f2)
 neG:kG≠kn
 neM:kM≠kn
 off:zc1 cv kn
 ok:g.Ok
 nt4:g.nt<=4
 nc:g.nc=p.cells.length
 cl:p.cells.length<=32
 nt:g.nt=p.threads.length
noncomputable def HM (H:Nat->Option O) (kn:Nat) (es:List (T×V)):Nat->Option O:=updC H kn (some (.map es))
theorem HM_at (H:Nat->Option O) (kn:Nat) (es:List (T×V)):HM H kn es kn=some (.map es):=by rw[HM,zac,if_pos rfl]
theorem zmb (H:Nat->Option O) {k kn:Nat} (es:List (T×V)) (h:k≠kn):HM H kn es k=H k:=by rw[HM,zac,if_neg h]
namespace GrB
variable {H:Nat->Option O} {kG kM kn:Nat} {cv:V} {p:Prog} {model:Int} {g:Gr} {f1 f2:Bool} (b:GrB H kG kM kn cv p model g f1 f2)
include b
theorem rowM (es:List (T×V)):HM H kn es kG=some (.rows 521 [rowG (p.cells.map Cell.enc) (p.modules.map Contract.enc) (p.locks.map Lock.enc) (p.threads.map Thread.enc) model (g.all.map Acc.enc) cv (.ms kM 0 g.msk.length) g.ldAt g.qkAt kn] f1):=by rw[zmb _ _ b.neG,b.row]
theorem mskM (es:List (T×V)):HM H kn es kM=some (.rows 1 (rowsU g.msk) f2):=by rw[zmb _ _ b.neM,b.msk]
theorem clsM (es:List (T×V)):Shw (HM H kn es) cv 1 (g.cls.map fun c:Nat=>[ti c]):=by
 rcases b.cls with h | ⟨k,f,rfl,hk⟩
 ·exact .inl h
 ·refine .inr ⟨k,f,rfl,?_⟩;have:k≠kn:=by rintro rfl;exact b.off _ _ rfl
  rw[zmb _ _ this];exact hk
theorem tree (es:List (T×V)):toT1 (HM H kn es) (.mp kG 0 0)=some (.t (grT (p.cells.map Cell.enc) (p.modules.map Contract.enc) (p.locks.map Lock.enc) (p.threads.map Thread.enc) model g)):=by
 have:=zeT (b.rowM es) (b.clsM es) (by
  intro e he t ht;obtain⟨y,_,rfl⟩:=List.mem_map.1 he;simp only[List.mem_cons,List.not_mem_nil,or_false]at ht
  rw[ht];rfl) (msk_shw (b.mskM es) rfl) (u64_norm _) (HM_at H kn es)
 rw[this];simp only[grT,ints,List.map_map,zBk];rfl
end GrB
set_option maxHeartbeats 2000000
theorem zlv {L:List (Nat×O)}: ∀{h:Nat->Option O} {k:Nat},(∀x∈L,x.1≠k)->hpC h L k=h k:=by
 induction L with
 | nil=>intro h k _;rw[zaq]
 | cons x L ih=>
   intro h k hx;rw[show x=(x.1,x.2)from rfl,zau,ih fun y hy=>hx y (List.mem_cons_of_mem _ hy),zac,if_neg (fun e=>hx x List.mem_cons_self e.symm)]
theorem zoP {k:Nat} {o:O}: ∀{L:List (Nat×O)} {h:Nat->Option O},(∀x∈L,x.1=k->x.2=o)->hpC h L k=h k\/hpC h L k=some o:=by
 intro L
 induction L with
 | nil=>intro h _;rw[zaq];exact .inl rfl
 | cons x L ih=>
   intro h hx;rw[show x=(x.1,x.2)from rfl,zau];rcases ih (h:=updC h x.1 (some x.2)) (fun y hy=>hx y (List.mem_cons_of_mem _ hy))with h1 | h1
   ·rw[h1,zac];split
    ·rename_i he;rw[hx x List.mem_cons_self he.symm];exact .inr rfl
    ·exact .inl rfl
   ·exact .inr h1
theorem zgh {h:Nat->Option O} {L:List Nat} {k sz:Nat} {rs:List (List V)} {f:Bool} (hk:h k=some (.rows sz rs f)): ∃f',hpC h (freezes h L) k=some (.rows sz rs f'):=by
 have:=zoP (k:=k) (o:=.rows sz rs true) (L:=freezes h L) (h:=h) (by
  intro x hx he;simp only[freezes,List.mem_filterMap]at hx;obtain⟨j,_,hj⟩:=hx;split at hj
  ·rename_i sz' rs' f' hq;cases hj;simp only at he;subst he;rw[hk]at hq;cases hq;rfl
  ·cases hj)
 rcases this with h1 | h1
 ·exact⟨f,by rw[h1,hk]⟩
 ·exact⟨true,h1⟩
theorem zoO {h:Nat->Option O} {L:List Nat} {k:Nat} {es:List (T×V)} (hk:h k=some (.map es)):hpC h (freezes h L) k=some (.map es):=by
 rw[<- hk];refine zlv fun x hx he=> ?_
 simp only[freezes,List.mem_filterMap]at hx;obtain⟨j,_,hj⟩:=hx;split at hj
 ·rename_i sz' rs' f' hq;cases hj;simp only at he;subst he;rw[hk]at hq;cases hq
 ·cases hj
theorem GrB.frz {H:Nat->Option O} {kG kM kn:Nat} {cv:V} {p:Prog} {model:Int} {g:Gr} {f1 f2:Bool} (b:GrB H kG kM kn cv p model g f1 f2) (es:List (T×V)) (L:List Nat):
 ∃H' f1' f2',hpC (HM H kn es) (freezes (HM H kn es) L)=HM H' kn es/\GrB H' kG kM kn cv p model g f1' f2':=by
 obtain⟨f1',h1⟩:=zgh (L:=L) (b.rowM es);obtain⟨f2',h2⟩:=zgh (L:=L) (b.mskM es);have h3:=zoO (L:=L) (HM_at H kn es);refine⟨hpC (HM H kn es) (freezes (HM H kn es) L),f1',f2',?_,⟨h1,?_,h2,b.neG,b.neM,b.off,b.ok,b.nt4,b.nc,b.cl,b.nt⟩⟩
 ·funext k
  by_cases hk:k=kn
  ·subst hk;rw[HM_at,h3]
  ·rw[zmb _ _ hk]
 ·rcases b.clsM es with h | ⟨k,f,rfl,hk⟩
  ·exact .inl h
  ·obtain⟨f',h4⟩:=zgh (L:=L) hk;exact .inr ⟨k,f',rfl,h4⟩
end Rg
end
section
namespace Rg
open Go
theorem GrB.frzK {H:Nat->Option O} {kG kM kn:Nat} {cv:V} {p:Prog} {model:Int} {g:Gr} {f1 f2:Bool} (b:GrB H kG kM kn cv p model g f1 f2) {es:List (T×V)} {vs:List V} {r:V} {K:V->(Nat->Option O)->Prop}
 (hk: ∀H' f1' f2',GrB H' kG kM kn cv p model g f1' f2'->K r (HM H' kn es)):Rg.frzK (HM H kn es) vs r K:=by
 obtain⟨H',f1',f2',h1,b'⟩:=b.frz es (vs.flatMap (reach1 (HM H kn es)));unfold Rg.frzK;rw[h1];exact hk _ _ _ b'
set_option maxHeartbeats 2000000
end Rg
end
section
namespace Rg
open Go
theorem zhy (p:Prog) (hs:p.sane):Den Γ G 299 [(.agg [.t (.sl ((p).cells.map (Cell.enc))),.t (.sl ((p).modules.map (Contract.enc))),.t (.sl ((p).locks.map (Lock.enc))),.t (.sl ((p).threads.map (Thread.enc)))])]=some (vb (validB p)):=by
 have hv:=zep p hs
 (refine den_ofY Γ299 rfl ?_;dsimp only[f299])
 simp -dsimp only[go_sem,seval,hv];rfl
def zpD (p:Prog) (i:Nat) (x:Thread):Prop:=
 isLabel x.name=true/\(p.threads.take i).any (fun d=>d.name.toList==x.name.toList)=false/\(1<=x.points/\(x.asserts.length:Int)=x.points/\(x.modules.length:Int)=x.points)/\
  x.modules.all (fun m=>inR m p.modules.length)=true/\x.asserts.all (fun e=>truthOk p e false i)=true
def zsD (p:Prog):Prop:=(limitsM p).1=0/\cellsM p=0/\modulesM p=0/\locksM p=0
structure AtStep (p:Prog) (e:Int) (t s:Nat) (x:Thread) (y:Step):Prop where
 pre:zsD p
 before: ∀(j:Nat) (z:Thread),j<t->p.threads[j]? =some z->(threadErr p j z).1=0
 hx:p.threads[t]? =some x
 tp:zpD p t x
 hy:x.steps[s]? =some y
 steps: ∀(k:Nat) (z:Step),k<s->x.steps[k]? =some z->stepErr p t x.points z=0
 err:stepErr p t x.points y=e
 ne:e≠0
end Rg
end
section
namespace Rg
open Go
section
variable {p:Prog} {i k:Nat} {x:Thread}
end
end Rg
end
section
namespace Rg
open Go
section
variable {p:Prog} {i:Nat} {x x' : Thread}
def zBm:Expr:=.mk 1 1 1 []
theorem zAi (p:Prog) (pr:Bool) (t:Int):truthOk p zBm pr t=true:=by
 have h1:zBm.one=true:=by decide+kernel
 unfold truthOk overOk;rw[zj4 h1 3 (by decide),zj4 h1 2 (by decide)]
 have hv:zBm.valid p.cells pr=true:=by
  have hf:zBm.formed=true:=by decide+kernel
  simp only[Expr.valid,hf,Bool.true_and];simp[zBm,Expr.allE_eq,leafOk,Expr.kids,Expr.op]
 rw[hv];rfl
end
end Rg
end
section
namespace Rg
open Go
structure Gr.Sub (a b:Gr):Prop where
 nc:a.nc=b.nc
 nt:a.nt=b.nt
 len:a.msk.length=b.msk.length
 mks: ∀c,zmc (a.mks c) (b.mks c)
 ld: ∀c,a.mks c≠0->a.ld.getD (a.thr c) []=b.ld.getD (b.thr c) []
 ea: ∀c,zmc (a.eaM c) (b.eaM c)
 la: ∀c,zmc (a.laM c) (b.laM c)
 qk: ∀c,a.eaM c≠0->a.qk.getD (a.thr c) []=b.qk.getD (b.thr c) []
namespace Gr.Sub
variable {a b:Gr} (h:a.Sub b)
include h
theorem sz:a.sz=b.sz:=by unfold Gr.sz;rw[h.nc,h.nt]
theorem thr (c:Nat):a.thr c=b.thr c:=by unfold Gr.thr;rw[h.sz]
theorem prec (c d:Nat):a.prec c d=b.prec c d:=by unfold Gr.prec;rw[h.nc,h.nt]
theorem ok {c d m:Nat} (hk:a.ok c d m=true):b.ok c d m=true:=by
 simp only[Gr.ok,zF,decide_eq_true_eq]at hk⊢;refine⟨(h.mks d).ne hk.1,?_,?_⟩
 ·rw[<- h.thr];exact hk.2.1
 ·rw[<- h.prec];exact hk.2.2
theorem couple {c d:Nat} (hk:a.couple c d=true):b.couple c d=true:=by
 unfold Gr.couple at hk⊢
 have h0:a.mks c≠0:=by
  intro h0;rw[h0]at hk;obtain⟨i,j,_,h1,_⟩:=zeI.1 hk;simp at h1
 rw[h.ld c h0]at hk;exact zdR (h.mks c) (h.mks d) (fun _ _ _ h=>h) hk
theorem ends: ∀(r goal c m:Nat),a.ends r goal c m=true->b.ends r goal c m=true
 | 0,goal,c,m,hk=>by rw[Gr.ends]at hk⊢;rw[<- h.prec];exact hk
 | 1,goal,c,m,hk=>by
   rw[Gr.ends,List.any_eq_true]at hk⊢;obtain⟨d,h1,h2⟩:=hk;rw[zF]at h2;refine⟨d,by rw[<- h.len];exact h1,?_⟩
   rw[h.ok h2.1,<- h.thr,ends 0 _ _ _ h2.2];rfl
 | r+2,goal,c,m,hk=>by
   rw[Gr.ends,List.any_eq_true]at hk⊢;obtain⟨d,h1,h2⟩:=hk;rw[zF,Bool.or_eq_true,List.any_eq_true]at h2;refine⟨d,by rw[<- h.len];exact h1,?_⟩;rw[h.ok h2.1,<- h.thr,Bool.true_and,Bool.or_eq_true,List.any_eq_true];rcases h2.2 with h3 | ⟨e,h3,h4⟩
   ·exact .inl (ends (r+1) _ _ _ h3)
   ·simp only[zF,decide_eq_true_eq]at h4;exact .inr ⟨e,by rw[<- h.len];exact h3,by rw[<- h.thr,h.couple h4.2.1,ends r _ _ _ h4.2.2];simp[h4.1]⟩
theorem isPair {c d:Nat} (hk:a.isPair c d=true):b.isPair c d=true:=by
 rw[Gr.isPair_iff]at hk⊢;obtain⟨h1,h2,h3,h4,h5⟩:=hk;refine⟨(h.ea c).ne h1,(h.la d).ne h2,by rw[<- h.thr,<- h.thr];exact h3,h4,?_⟩;rw[h.qk c h1]at h5;exact zdR (h.ea c) (h.la d) (fun _ _ _ h=>h) h5
theorem shortest (hb:b.shortest=none):a.shortest=none:=by
 rw[Gr.shortest_none]at hb⊢;intro r h1 h2;have:=hb r h1 (by rw[<- h.nt];exact h2);cases hr:a.atRest r
 ·rfl
 ·obtain⟨c,d,k1,k2,k3,k4⟩:=Gr.atRest_iff.1 hr;rw[show b.atRest r=true from Gr.atRest_iff.2 ⟨c,d,by rw[<- h.len];exact k1,by rw[<- h.len];exact k2,h.isPair k3,by rw[<- h.thr];exact h.ends _ _ _ _ k4⟩]at this;exact this
end Gr.Sub
section
variable {p:Prog} {t:Nat} {x:Thread}
end
end Rg
end
