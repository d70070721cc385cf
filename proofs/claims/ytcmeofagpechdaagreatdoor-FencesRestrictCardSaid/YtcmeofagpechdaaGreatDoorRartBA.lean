/- Part of the proof of laws of relyguardlaw31. No condition. -/
import Derived.Test.YtcmeofagpechdaaGreatDoorRartAZ
set_option linter.unusedSimpArgs false
set_option linter.unusedVariables false
section
namespace Rg
open Go
theorem zec (zs:List Int) (hs:zs.Pairwise (· <= ·)) (m:Nat) (hm:m<=zs.length):(Go.Lib.compactUpTo zs.toArray m).Pairwise (· < ·):=by
 have hget: ∀i j:Nat,i<=j->j<zs.length->zs.toArray[i]! <=zs.toArray[j]! :=by
  intro i j hij hj;rw[getElem!_pos zs.toArray i (by simp;omega),getElem!_pos zs.toArray j (by simp;omega)];simp only[List.getElem_toArray];rcases Nat.lt_or_eq_of_le hij with h | h
  ·exact List.pairwise_iff_getElem.1 hs i j (by omega) hj h
  ·subst h;exact Int.le_refl _
 unfold Go.Lib.compactUpTo;rw[List.pairwise_map];have h0:=(List.pairwise_lt_range (n:=m)).filter (Go.Lib.keeps zs.toArray);refine h0.imp_of_mem ?_;intro a b ha hb hab;have hb1:=List.mem_range.1 (List.mem_filter.1 hb).1;have hk:=(List.mem_filter.1 hb).2;have h1:=hget a (b-1) (by omega) (by omega);have h2:=hget (b-1) b (by omega) (by omega);simp only[Go.Lib.keeps,Bool.or_eq_true,decide_eq_true_eq,bne_iff_ne,ne_eq]at hk;rcases hk with hk | hk
 ·omega
 ·omega
theorem sortedM_sorted (l:List Int):(sortedM l).Pairwise (· < ·):=by
 unfold sortedM Go.Lib.compact;refine zec _ ?_ _ (Nat.le_refl _);have:=List.pairwise_mergeSort (le:=fun x y:Int=>decide (x<=y)) (by intro a b c h1 h2;simp at *;omega) (by intro a b;simp;omega) l;exact this.imp (by intro a b h;simpa using h)
end Rg
end
section
namespace Rg
open Go
end Rg
end
section
namespace Rg
open Go
end Rg
end
section
set_option maxRecDepth 100000
namespace Rg
open Go
theorem zc4 {h:Nat->Option O} {k i len d sz:Nat} {rs r:List (List V)} {fz:Bool} {es:List (List T)} (hk:h k=some (.rows sz rs fz)) (hr:rd rs i len=some r) (he:r.mapM (fun row=>row.mapM (toT h d))=some es):
 toT h (d+1) (.ms k i len)=some (.sl es):=by
 simp[toT,hk,hr,he]
section
end
section
end
end Rg
end
section
set_option maxRecDepth 100000
namespace Rg
open Go
theorem Prog.ok.cell {p:Prog} (h:p.ok) {c:Nat} {x:Cell} (hx:p.cells[c]? =some x): -1<=x.thread/\x.thread<p.threads.length:=by
 have:=(cellErr_iff.1 ((ok_iff.1 h).cells c x hx)).1;simp only[zaY,Bool.or_eq_false_iff,decide_eq_false_iff_not]at this;omega
theorem Prog.ok.thr {p:Prog} (h:p.ok) {t:Nat} {x:Thread} (hx:p.threads[t]? =some x):1<=x.points/\x.points<=48:=by
 have h1:=(threadErr_iff.1 ((ok_iff.1 h).threads t x hx)).2.2.1.1;have h2:=((limits_iff.1 (ok_iff.1 h).lim).2 x (List.mem_of_getElem? hx)).1;exact⟨h1,h2⟩
theorem Prog.ok.step {p:Prog} (h:p.ok) {t s:Nat} {x:Thread} {y:Step} (hx:p.threads[t]? =some x) (hy:x.steps[s]? =some y):0<=y.fr/\y.fr<x.points-1:=by
 have h1:=(threadErr_iff.1 ((ok_iff.1 h).threads t x hx)).2.2.2.2.2.1 s y hy;have h2:=(stepErr_iff.1 h1).1;simp only[zbl,Bool.or_eq_false_iff,decide_eq_false_iff_not,Bool.not_eq_false',inR,decide_eq_true_eq]at h2;omega
end Rg
end
section
set_option maxRecDepth 100000
namespace Rg
open Go
end Rg
end
section
namespace Rg
open Go
end Rg
end
section
namespace Rg
open Go
set_option maxHeartbeats 1000000
end Rg
end
section
namespace Rg
open Go
namespace Gr
end Gr
theorem zxp.offR {h:Nat->Option O} {x k sz sz':Nat} {v:V} {rows rs:List (List V)} {f:Bool} (o:zxp h x v sz rows) (hk:h k=some (.rows sz' rs f)) (hne:sz≠sz'):zc1 v k:=by
 rcases o with⟨rfl,_⟩ | ⟨q,rfl,_,hq⟩
 ·intro i n he;cases he
 ·refine offK_ms ?_ _ _;rintro rfl;rw[hq]at hk;cases hk;exact hne rfl
set_option maxHeartbeats 2000000
end Rg
end
section
namespace Rg
open Go
def idxC (l:List Int) (v:Int):Int:=match l.findIdx? (fun x=>decide (x=v))with
 | some i=>i
 | none=> -1
theorem zen {l:List Int} {v:Int} {i:Nat} (h:l[i]? =some v) (hn: ∀j,j<i->l[j]? ≠some v):idxC l v=i:=by
 have hi:=(zH.1 h).1
 have:l.findIdx? (fun x=>decide (x=v))=some i:=by
  rw[List.findIdx?_eq_some_iff_getElem];refine⟨hi,by simpa using(zH.1 h).2,fun j hj=> ?_⟩;have:=hn j hj;rw[zI (by omega)]at this;simpa using this
 rw[idxC,this]
theorem zhb {l:List Int} {v:Int} (hn: ∀j,j<l.length->l[j]? ≠some v):idxC l v= -1:=by
 have:l.findIdx? (fun x=>decide (x=v))=none:=by
  rw[List.findIdx?_eq_none_iff];intro x hx;obtain⟨j,hj⟩:=List.getElem?_of_mem hx;have:=hn j (zH.1 hj).1;rw[hj]at this;simpa using this
 rw[idxC,this]
theorem znb (l:List Int) (v:Int):decide (idxC l v>=0)=l.contains v:=by
 unfold idxC
 cases h:l.findIdx? (fun x=>decide (x=v))with
 | some i=>
   have hm:v∈l:=by
    rw[List.findIdx?_eq_some_iff_getElem]at h;obtain⟨h1,h2,_⟩:=h;exact(by simpa using h2:l[i]=v)▸List.getElem_mem h1
   simp[hm]
 | none=>
   have hm:v∉ l:=by
    intro hm;rw[List.findIdx?_eq_none_iff]at h;have:=h v hm;simp at this
   simp[hm]
theorem zjx (l:List Int) (v:Int) (hl:l.length<2^40):Den Γ G 207 [.t (ints l),vi v]=some (vi (idxC l v)):=by
 (refine den_ofY Γ207 rfl ?_;dsimp only[f207])
 simp -dsimp only[go_sem,seval];refine zaz 524080 l.length (fun i f=>(f 8).v=vi i/\ ∀j,j<i->l[j]? ≠some v) rfl rfl ⟨by simp -dsimp only[go_sem,seval],fun j hj=>by omega⟩ ?_;rintro i f u kk bb hi ⟨h8,hn⟩;have hw:=zah i (by omega);simp -dsimp only[go_sem,seval,h8];refine csplit (fun h=> ?_) (fun h=> ?_)<;>(try rw[h])<;>(try simp only[zab]at h)<;>(try simp -dsimp only[go_sem,seval,h8])
 ·obtain⟨y,hy,_⟩:=zaf ‹i<l.length›;simp -dsimp only[go_sem,seval,h8,hy];refine csplit (fun h=> ?_) (fun h=> ?_)<;>(try rw[h])<;>(try simp only[zab]at h)<;>(try simp -dsimp only[go_sem,seval,h8])
  ·rw[zen (by rw[hy,h]) hn]
  ·refine⟨by omega,by simp -dsimp only[go_sem,seval,hw],fun j hj=> ?_⟩;rcases Nat.lt_or_ge j i with h1 | h1
   ·exact hn j h1
   ·have:j=i:=by omega
    subst this;rw[hy];intro he;cases he;exact absurd rfl h
 ·have:i=l.length:=by omega
  subst this;rw[zhb hn]
theorem zbB (l:List Int) (v:Int) (hl:l.length<2^40):Den Γ G 206 [.t (ints l),vi v]=some (vb (l.contains v)):=by
 (refine den_ofY Γ206 rfl ?_;dsimp only[f206])
 have h1:=zjx l v hl;have h2:=znb l v;simp -dsimp only[go_sem,seval,h1,h2]
set_option maxHeartbeats 2000000
end Rg
end
section
namespace Rg
open Go
end Rg
end
section
namespace Rg
open Go
theorem zxp.updO {h:Nat->Option O} {x k sz:Nat} {v:V} {rows:List (List V)} (o:zxp h x v sz rows) (hk:zc1 v k) (b:Option O):zxp (updC h k b) x v sz rows:=by
 rcases o with o | ⟨q,rfl,h2,h3⟩
 ·exact .inl o
 ·refine .inr ⟨q,rfl,h2,?_⟩;have:q≠k:=by rintro rfl;exact hk _ _ rfl
  rw[zac,if_neg this];exact h3
set_option maxHeartbeats 4000000
set_option maxRecDepth 4000
end Rg
end
section
namespace Rg
open Go
namespace GrB
end GrB
set_option maxHeartbeats 2000000
end Rg
end
section
namespace Rg
open Go
set_option maxHeartbeats 2000000
end Rg
end
section
namespace Rg
open Go
theorem zhy (p:Prog) (hs:p.sane):Den Γ G 299 [(.agg [.t (.sl ((p).cells.map (Cell.enc))),.t (.sl ((p).modules.map (Contract.enc))),.t (.sl ((p).locks.map (Lock.enc))),.t (.sl ((p).threads.map (Thread.enc)))])]=some (vb (validB p)):=by
 have hv:=zep p hs
 (refine den_ofY Γ299 rfl ?_;dsimp only[f299])
 simp -dsimp only[go_sem,seval,hv];rfl
end Rg
end
section
namespace Rg
open Go
section
end
section
def zBm:Expr:=.mk 1 1 1 []
theorem zAi (p:Prog) (pr:Bool) (t:Int):truthOk p zBm pr t=true:=by
 have h1:zBm.one=true:=by decide+kernel
 unfold truthOk overOk;rw[zj4 h1 3 (by decide),zj4 h1 2 (by decide)]
 have hv:zBm.valid p.cells pr=true:=by
  have hf:zBm.formed=true:=by decide+kernel
  simp only[Expr.valid,hf,Bool.true_and];simp[zBm,Expr.allE_eq,leafOk,Expr.kids,Expr.op]
 rw[hv];rfl
end
namespace Gr.Sub
end Gr.Sub
section
end
def cntB (b:Nat->Bool) (n:Nat):Nat:=((List.range n).filter b).length
def newB (b:Nat->Bool) (n:Nat):Nat:=n+cntB b n
def fencedL (b:Nat->Bool) (n:Nat):List Nat:=(List.range n).filter b
theorem zdB (b:Nat->Bool) (n:Nat):cntB b (n+1)=cntB b n+if b n then 1 else 0:=by
 unfold cntB;rw[List.range_succ,List.filter_append,List.length_append,List.filter_cons];cases b n<;>rfl
theorem zgX (b:Nat->Bool) (n:Nat):newB b (n+1)=newB b n+1+if b n then 1 else 0:=by
 unfold newB;rw[zdB];omega
theorem zcJ (b:Nat->Bool): ∀n,cntB b n<=n
 | 0=>Nat.le_refl 0
 | n+1=>by rw[zdB];have:=zcJ b n;split<;>omega
theorem zoF {b:Nat->Bool} {m n:Nat} (h:m<n):newB b m+(if b m then 1 else 0)<newB b n:=by
 induction n with
 | zero=>omega
 | succ n ih=>
   rw[zgX]
   by_cases e:m=n
   ·subst e;split<;>omega
   ·have:=ih (by omega);split at * <;>(split<;>omega)
def dupL {α:Type} (b:Nat->Bool) (l:List α):List α:=l.zipIdx.flatMap fun q=>if b q.2 then [q.1,q.1]else [q.1]
theorem zdA {α:Type} (b:Nat->Bool) {l:List α} {n:Nat} {x:α} (h:l[n]? =some x):dupL b (l.take (n+1))=dupL b (l.take n)++if b n then [x,x]else [x]:=by
 have hn:=(zH.1 h).1;unfold dupL;rw[zae h,List.zipIdx_append,List.flatMap_append]
 congr 1
 have:(l.take n).length=n:=by simp;omega
 simp[this]
theorem zeo {α:Type} (b:Nat->Bool) (l:List α): ∀n,n<=l.length->(dupL b (l.take n)).length=newB b n
 | 0,_=>rfl
 | n+1,h=>by
   obtain⟨x,hx,_⟩:=zaf (show n<l.length by omega);rw[zdA b hx,List.length_append,zeo b l n (by omega),zgX];cases b n<;>rfl
theorem ze3 {α:Type} (b:Nat->Bool) (l:List α):(dupL b l).length=newB b l.length:=by
 have:=zeo b l l.length (Nat.le_refl _);rwa[List.take_length]at this
theorem dupL_mem {α:Type} {b:Nat->Bool} {l:List α} {x:α}:x∈dupL b l<->x∈l:=by
 unfold dupL;rw[List.mem_flatMap];constructor
 ·rintro⟨q,hq,hx⟩;have:x=q.1:=by split at hx<;>simp at hx<;>exact hx
  subst this;exact(List.mem_zipIdx hq).2.2▸List.getElem_mem _
 ·intro h;obtain⟨i,hi,rfl⟩:=List.mem_iff_getElem.1 h;refine⟨(l[i],i),?_,by split<;>simp⟩;rw[List.mem_zipIdx_iff_getElem?];simp[zI hi]
def newI (b:Nat->Bool) (x:Int):Int:=newB b x.toNat
def Step.ins (b:Nat->Bool) (s:Step):Step:={ s with fr:=newI b s.fr+(if b s.fr.toNat then 1 else 0),to:=newI b s.to }
def firstS (x:Thread) (f:Int):Step:=(x.steps.find? fun s=>decide (s.fr=f)).getD default
def fenceS (b:Nat->Bool) (x:Thread) (f:Nat):Step:=⟨5,(newB b f:Nat),(newB b f:Int)+1,.mk 1 1 1 [],[],false,0,(firstS x f).module⟩
def loopB (b:Nat->Bool) (l:Loop) (n:Nat):List Int:=
 (if(n:Int)∈l.body then [(newB b n:Int)]else [])++(if b n&&(decide ((n:Int)∈l.body)||decide ((n:Int)=l.head))then [(newB b n:Int)+1]else [])
def loopBN (b:Nat->Bool) (l:Loop) (n:Nat):List Int:=(List.range n).flatMap (loopB b l)
theorem zdi (b:Nat->Bool) (l:Loop) (n:Nat):loopBN b l (n+1)=loopBN b l n++loopB b l n:=by
 unfold loopBN;rw[List.range_succ,List.flatMap_append];simp
theorem zdS (b:Nat->Bool) (l:Loop): ∀n,(loopBN b l n).length<=2*n
 | 0=>Nat.le_refl 0
 | n+1=>by
   have:=zdS b l n;have h2:(loopB b l n).length<=2:=by unfold loopB;split<;>split<;>simp
   rw[zdi,List.length_append];omega
def Loop.ins (b:Nat->Bool) (n:Nat) (l:Loop):Loop:=⟨newI b l.head,loopBN b l n,l.variant⟩
def Thread.ins (b:Nat->Bool) (x:Thread):Thread:=
 ⟨x.name,x.points+cntB b x.points.toNat,dupL b x.asserts,dupL b x.modules,x.steps.map (Step.ins b)++(fencedL b x.points.toNat).map (fenceS b x),x.loops.map (Loop.ins b x.points.toNat),x.asleep⟩
def Prog.ins (B:Nat->Nat->Bool) (p:Prog):Prog:={ p with threads:=p.threads.mapIdx fun t x=>x.ins (B t) }
def zgW (b:Nat->Bool) (x:Thread):Bool:=decide (x.points+cntB b x.points.toNat>48)||decide ((x.steps.length:Int)+cntB b x.points.toNat>64)
def zhW (B:Nat->Nat->Bool) (p:Prog):Bool:=(p.threads.zipIdx).any fun q=>zgW (B q.2) q.1
abbrev Pl:=Nat×Nat
def Pl.enc (x:Pl):List T:=[ti x.1,ti x.2]
attribute [go_sem] Pl.enc
def znZ (p:Prog) (x:Pl):Prop:= ∃y,p.threads[x.1]? =some y/\x.2<y.steps.length
def ptB (p:Prog) (l:List Pl) (t n:Nat):Bool:=l.any fun x=>decide (x.1=t)&&decide ((p.stepAt x.1 x.2).fr=n)
theorem zf7 {p:Prog} {l:List Pl} {t n:Nat}:ptB p l t n=true<-> ∃x∈l,x.1=t/\(p.stepAt x.1 x.2).fr=n:=by
 simp[ptB]
def zeroP:Prog:=⟨[],[],[],[]⟩
def insM (p:Prog) (l:List Pl):Prog×Int:=if zhW (ptB p l) p then(zeroP,2)else(p.ins (ptB p l),0)
end Rg
end
section
namespace Rg
open Go
theorem sorted_ext: ∀{a b:List Int},a.Pairwise (· < ·)->b.Pairwise (· < ·)->(∀x,x∈a<->x∈b)->a=b
 | [],[],_,_,_=>rfl
 | [],y::b,_,_,h=>by have:=(h y).2 (by simp);simp at this
 | x::a,[],_,_,h=>by have:=(h x).1 (by simp);simp at this
 | x::a,y::b,ha,hb,h=>by
   rw[List.pairwise_cons]at ha hb
   have hxy:x=y:=by
    have h1:=(h x).1 (by simp);have h2:=(h y).2 (by simp);rcases List.mem_cons.1 h1 with h1 | h1
    ·exact h1
    ·rcases List.mem_cons.1 h2 with h2 | h2
     ·exact h2.symm
     ·have:=ha.1 y h2;have:=hb.1 x h1;omega
   subst hxy;refine congrArg _ (sorted_ext ha.2 hb.2 fun z=> ?_);constructor
   ·intro hz;have:=ha.1 z hz;rcases List.mem_cons.1 ((h z).1 (List.mem_cons_of_mem _ hz))with h3 | h3
    ·omega
    ·exact h3
   ·intro hz;have:=hb.1 z hz;rcases List.mem_cons.1 ((h z).2 (List.mem_cons_of_mem _ hz))with h3 | h3
    ·omega
    ·exact h3
theorem zhJ {l:List Int} (h:rising l=true):l.Pairwise (· < ·):=by
 have h1: ∀i,i+1<l.length->l.getD i 0<l.getD (i+1) 0:=fun i hi=>by
  unfold rising at h;simp only[List.all_eq_true,List.mem_range,decide_eq_true_eq]at h;exact h i (by omega)
 have h2: ∀d i,i+d+1<l.length->l.getD i 0<l.getD (i+d+1) 0:=by
  intro d
  induction d with
  | zero=>exact fun i hi=>h1 i hi
  | succ d ih=>intro i hi;have a:=ih i (by omega);have b:=h1 (i+d+1) (by omega);rw[show i+(d+1)+1=i+d+1+1 by omega];omega
 rw[List.pairwise_iff_getElem];intro i j hi hj hij;have:=h2 (j-i-1) i (by omega);rw[show i+(j-i-1)+1=j by omega]at this;simpa[List.getD_eq_getElem?_getD,zI hi,zI hj]using this
theorem zfC {b:Nat->Bool} {l:Loop} {n:Nat} {z:Int}:z∈loopBN b l n<-> ∃k,k<n/\(((k:Int)∈l.body/\z=newB b k)\/(b k=true/\((k:Int)∈l.body\/(k:Int)=l.head)/\z=newB b k+1)):=by
 unfold loopBN loopB;simp only[List.mem_flatMap,List.mem_range,List.mem_append];constructor
 ·rintro⟨k,hk,h | h⟩
  ·split at h
   ·rename_i h1;exact⟨k,hk,.inl ⟨h1,by simpa using h⟩⟩
   ·simp at h
  ·split at h
   ·rename_i h1;simp only[zF,Bool.or_eq_true,decide_eq_true_eq]at h1;exact⟨k,hk,.inr ⟨h1.1,h1.2,by simpa using h⟩⟩
   ·simp at h
 ·rintro⟨k,hk,⟨h1,rfl⟩ | ⟨h1,h2,rfl⟩⟩
  ·exact⟨k,hk,.inl (by rw[if_pos h1];simp)⟩
  ·refine⟨k,hk,.inr ?_⟩;rw[if_pos (by simp only[zF,Bool.or_eq_true,decide_eq_true_eq];exact⟨h1,h2⟩)];simp
theorem loopBN_pair (b:Nat->Bool) (l:Loop): ∀n,(loopBN b l n).Pairwise (· < ·)
 | 0=>List.Pairwise.nil
 | n+1=>by
   rw[zdi,List.pairwise_append];refine⟨loopBN_pair b l n,?_,?_⟩
   ·unfold loopB;split<;>split<;>simp <;>omega
   ·intro x hx y hy;rw[zfC]at hx;obtain⟨k,hk,h⟩:=hx;have h1:=zoF (b:=b) hk
    have hy1:(newB b n:Int)<=y:=by
     unfold loopB at hy;rw[List.mem_append]at hy;rcases hy with hy | hy
     ·split at hy
      ·simp at hy;omega
      ·simp at hy
     ·split at hy
      ·simp at hy;omega
      ·simp at hy
    rcases h with⟨_,rfl⟩ | ⟨h2,_,rfl⟩
    ·split at h1<;>omega
    ·rw[if_pos h2]at h1;omega
section
variable {p:Prog} (hp:p.ok)
include hp
theorem ziN {t:Nat} {x:Thread} (hx:p.threads[t]? =some x):x.asserts.length=x.points.toNat/\x.modules.length=x.points.toNat/\(1<=x.points/\x.points<=48)/\x.steps.length<=64/\x.loops.length<=8:=by
 have h1:=(threadErr_iff.1 ((ok_iff.1 hp).threads t x hx)).2.2.1;have h2:=hp.thr hx;obtain⟨_,h3⟩:=limits_iff.1 (ok_iff.1 hp).lim;have h4:=h3 x (List.mem_of_getElem? hx);refine⟨by omega,by omega,h2,h4.2.1,h4.2.2⟩
theorem ok_stp {t i:Nat} {x:Thread} {s:Step} (hx:p.threads[t]? =some x) (hs:x.steps[i]? =some s):(0<=s.fr/\s.fr<x.points-1)/\(0<=s.to/\s.to<x.points)/\inR s.module p.modules.length=true:=by
 have h1:=(threadErr_iff.1 ((ok_iff.1 hp).threads t x hx)).2.2.2.2.2.1 i s hs;have h2:=(stepErr_iff.1 h1).1;simp only[zbl,Bool.or_eq_false_iff,decide_eq_false_iff_not,Bool.not_eq_false']at h2;refine⟨hp.step hx hs,?_,h2.1.1.2⟩;have:=h2.1.1.1.2;simpa[inR]using this
theorem ok_loop {t i:Nat} {x:Thread} {l:Loop} (hx:p.threads[t]? =some x) (hl:x.loops[i]? =some l):(0<=l.head/\l.head<x.points)/\l.body.Pairwise (· < ·)/\ ∀k∈l.body,(0<=k/\k<x.points)/\k≠l.head:=by
 have h1:=(loopErr_iff.1 ((threadErr_iff.1 ((ok_iff.1 hp).threads t x hx)).2.2.2.2.2.2 i l hl)).1;refine⟨by simpa[inR]using h1.1,zhJ h1.2.1,fun k hk=> ?_⟩;have:=List.all_eq_true.1 h1.2.2 k hk;simpa[inR]using this
theorem znG {t i:Nat} {x:Thread} {l:Loop} (hx:p.threads[t]? =some x) (hl:x.loops[i]? =some l):l.body.length<=48:=by
 obtain⟨_,h2,h3⟩:=ok_loop hp hx hl;have h4:=hp.thr hx
 have h5: ∀(l:List Int) (a:Int),l.Pairwise (· < ·)->(∀k∈l,a<=k/\k<48)->a<=48->(l.length:Int)<=48-a:=by
  intro l
  induction l with
  | nil=>intro a _ _ ha;simp;omega
  | cons x r ih=>
    intro a h1 h2 ha;rw[List.pairwise_cons]at h1;have hx:=h2 x (by simp);have:=ih (x+1) h1.2 (fun k hk=>⟨by have:=h1.1 k hk;omega,(h2 k (by simp[hk])).2⟩) (by omega);simp only[List.length_cons];omega
 have:=h5 l.body 0 h2 (fun k hk=>⟨(h3 k hk).1.1,by have:=(h3 k hk).1.2;omega⟩) (by omega);omega
end
theorem zdo {p:Prog} {t i:Nat} {x:Thread} {s:Step} (hx:p.threads[t]? =some x) (hs:x.steps[i]? =some s):p.stepAt t i=s:=by
 unfold Prog.stepAt;simp[List.getD_eq_getElem?_getD,hx,hs]
end Rg
end
section
namespace Rg
open Go
section
variable {α:Type} (enc:α->List T)
def rwG (l:List α):List (List V):=(l.map enc).map (·.map V.t)
theorem zbm (l:List α):(rwG enc l).length=l.length:=by simp[rwG]
theorem rwG_all {n:Nat} (h: ∀x,(enc x).length=n) (l:List α):((rwG enc l).all fun r=>decide (r.length=n))=true:=by simp[rwG,h]
theorem zed {l:List α} {i:Nat} {x:α} (h:l[i]? =some x):rwG enc (l.take (i+1))=rwG enc (l.take i)++[(enc x).map V.t]:=by
 unfold rwG;rw[zae h];simp
theorem zcf (l:List α) (x:α):rwG enc (l++[x])=rwG enc l++[(enc x).map V.t]:=by simp[rwG]
theorem rwG_norm (h: ∀x,∀t∈enc x,T.norm t=t) (l:List α): ∀e∈l.map enc,∀t∈e,T.norm t=t:=by
 intro e he t ht;obtain⟨x,_,rfl⟩:=List.mem_map.1 he;exact h x t ht
end
theorem expr_norm (e:Expr): ∀t∈e.enc,T.norm t=t:=by
 intro t ht;simp only[Expr.enc_eq,List.mem_cons,List.not_mem_nil,or_false]at ht;rcases ht with rfl | rfl | rfl | rfl<;>rfl
theorem assign_norm (a:Assign): ∀t∈a.enc,T.norm t=t:=by
 intro t ht;rcases List.mem_cons.1 ht with rfl | ht
 ·rfl
 ·exact expr_norm _ _ ht
theorem expr_elen (e:Expr):e.enc.length=4:=by rw[Expr.enc_eq];rfl
theorem assign_elen (a:Assign):a.enc.length=5:=by simp[Assign.enc,expr_elen]
theorem zaW {h:Nat->Option O} {x:Nat} {v:V} {sz:Nat} {rows:List (List V)} (o:zxp h x v sz rows):v.cells=some [v]:=by
 rcases o with⟨rfl,_⟩ | ⟨k,rfl,_,_⟩<;>rfl
theorem zdQ {h:Nat->Option O} {x:Nat} {v:V} {sz:Nat} {a b:List (List V)} (o:zxp h x v sz a) (e:a=b):zxp h x v sz b:=e▸o
theorem zbp (e:Expr):e.size<2^31->Den Γ G 429 [(.agg [.t (ti (e).op),.t (ti (e).w),.t (ti (e).n),.t (.sl ((e).kids.map (Expr.enc)))])]=some (.agg [.t (ti (e).op),.t (ti (e).w),.t (ti (e).n),.t (.sl ((e).kids.map (Expr.enc)))]):=by
 induction e using Expr.ind with
 | _ e ih=>
 intro hs
 (refine den_ofY Γ429 rfl ?_;dsimp only[zrf])
 have hkl:e.kids.length<2^31:=by have:=Expr.len_le_size e.kids;have:=Expr.size_eq e;omega
 simp -dsimp only[go_sem,seval];refine zaj 523816 e.kids.length (fun i f h x=>(f 9).v=vi i/\zxp h x (f 3).v 4 (rwG Expr.enc (e.kids.take i))) rfl ⟨by simp -dsimp only[go_sem,seval],.inl ⟨by simp -dsimp only[go_sem,seval],rfl⟩⟩ ?_;rintro i f u H q bq hi ⟨h9,hown⟩;have hw:=zah i (by omega);simp -dsimp only[go_sem,seval,h9];refine csplit (fun h=> ?_) (fun h=> ?_)<;>(try rw[h])<;>(try simp only[zab]at h)<;>(try simp -dsimp only[go_sem,seval,h9])
 ·obtain⟨x,hx,hxm⟩:=zaf ‹i<e.kids.length›;have hd:=ih x hxm (by have:=Expr.size_kid hxm;omega);have v1:=hown.valOf;have v2:=hown.r2;have v3:=hown.r3;have v4:=hown.r4;have v5:=hown.r5;simp -dsimp only[go_sem,seval,h9,hx,hd,v1,v2,v3,v4,v5];refine zas (hown.upd (by omega) _) (by omega) (by rw[zbm];simp;omega) (by decide) rfl (rwG_all _ expr_elen _) ?_;intro v hp hO hoffs hkeep;have hrow:([V.t (ti x.op),V.t (ti x.w),V.t (ti x.n),V.t (.sl (x.kids.map Expr.enc))]:List V)=x.enc.map V.t:=by rw[Expr.enc_eq];rfl
  replace hO:=zdQ hO (show _=rwG Expr.enc (e.kids.take (i+1))by rw[zed _ hx,<- hrow]);have u1:=hO.valOf;simp -dsimp only[go_sem,seval,h9,u1];refine⟨by omega,by simp -dsimp only[go_sem,seval,hw],?_⟩;simp -dsimp only[go_sem,seval];exact hO.le (by omega)
 ·have hik:i=e.kids.length:=by omega
  subst hik;rw[List.take_length]at hown;have t0:=zbu hown (rwG_norm _ expr_norm _);have t1:=hown.valOf;have t2:=zaW hown;simp only[V.cells]at t2;simp -dsimp only[go_sem,seval,t0,t1,t2]
theorem zii (l:List Assign) (hl:l.length<2^31) (hz: ∀a∈l,a.to.size<2^31):Den Γ G 439 [.t (.sl (l.map Assign.enc))]=some (.t (.sl (l.map Assign.enc))):=by
 (refine den_ofY Γ439 rfl ?_;dsimp only[zq8])
 simp -dsimp only[go_sem,seval];refine zaj 4194088 l.length (fun i f h x=>(f 8).v=vi i/\zxp h x (f 3).v 5 (rwG Assign.enc (l.take i))) rfl ⟨by simp -dsimp only[go_sem,seval],.inl ⟨by simp -dsimp only[go_sem,seval],rfl⟩⟩ ?_;rintro i f u H q bq hi ⟨h8,hown⟩;have hw:=zah i (by omega);simp -dsimp only[go_sem,seval,h8];refine csplit (fun h=> ?_) (fun h=> ?_)<;>(try rw[h])<;>(try simp only[zab]at h)<;>(try simp -dsimp only[go_sem,seval,h8])
 ·obtain⟨x,hx,hxm⟩:=zaf ‹i<l.length›;have hd:=zbp x.to (hz x hxm);have v1:=hown.valOf;have v2:=hown.r2;have v3:=hown.r3;have v4:=hown.r4;have v5:=hown.r5;simp -dsimp only[go_sem,seval,h8,hx,hd,v1,v2,v3,v4,v5];refine zas (hown.upd (by omega) _) (by omega) (by rw[zbm];simp;omega) (by decide) rfl (rwG_all _ assign_elen _) ?_;intro v hp hO hoffs hkeep;have hrow:([V.t (ti x.cell),V.t (ti x.to.op),V.t (ti x.to.w),V.t (ti x.to.n),V.t (.sl (x.to.kids.map Expr.enc))]:List V)=x.enc.map V.t:=by rw[Assign.enc,Expr.enc_eq];rfl
  replace hO:=zdQ hO (show _=rwG Assign.enc (l.take (i+1))by rw[zed _ hx,<- hrow]);have u1:=hO.valOf;simp -dsimp only[go_sem,seval,h8,u1];refine⟨by omega,by simp -dsimp only[go_sem,seval,hw],?_⟩;simp -dsimp only[go_sem,seval];exact hO.le (by omega)
 ·have hik:i=l.length:=by omega
  subst hik;rw[List.take_length]at hown;have t0:=hown.reify (rwG_norm _ assign_norm _);have t1:=hown.valOf;have t2:=hown.resVal;simp only[Rg.resVal]at t2;simp -dsimp only[go_sem,seval,t1,t2];exact t0
theorem zm1 (x y:Int):Den Γ G 126 [vi x,vi y]=some (vb (decide (x<y))):=by
 have h1: ∀z:Int,Den Γ G 144 [vi z]=some (vb false):=fun z=>by
  (refine den_ofY Γ144 rfl ?_;dsimp only[f144])
  simp -dsimp only[go_sem,seval]
 (refine den_ofY Γ126 rfl ?_;dsimp only[f126])
 simp -dsimp only[go_sem,seval,h1]
def below (l:List Int) (v:Int):Nat:=(l.filter fun x=>decide (x<v)).length
theorem znH {l:List Int} (hs:l.Pairwise (· < ·)) {v:Int} {i:Nat} (hi:i<=l.length) (h1: ∀k x,k<i->l[k]? =some x->x<v) (h2: ∀k x,i<=k->l[k]? =some x-> ¬x<v):below l v=i:=by
 unfold below;have e:l=l.take i++l.drop i:=(List.take_append_drop i l).symm;rw[e,List.filter_append,List.length_append]
 have a:(l.take i).filter (fun x=>decide (x<v))=l.take i:=by
  rw[List.filter_eq_self];intro x hx;obtain⟨k,hk⟩:=List.getElem?_of_mem hx;rw[List.getElem?_take]at hk;split at hk
  ·exact decide_eq_true (h1 k x ‹_› hk)
  ·cases hk
 have b:(l.drop i).filter (fun x=>decide (x<v))=[]:=by
  rw[List.filter_eq_nil_iff];intro x hx;obtain⟨k,hk⟩:=List.getElem?_of_mem hx;rw[List.getElem?_drop]at hk;simpa using h2 (i+k) x (by omega) hk
 rw[a,b];simp;omega
theorem zji (l:List Int) (hs:l.Pairwise (· < ·)) (hl:l.length<2^31) (v:Int):Den Γ G 437 [.t (ints l),vi v]=some (.tup [vi (below l v:Nat),vb (decide (l[below l v]? =some v))]):=by
 have hmono: ∀(i j:Nat) (x y:Int),i<=j->l[i]? =some x->l[j]? =some y->x<=y:=fun i j x y hij hx hy=>by
  obtain⟨h1,rfl⟩:=zH.1 hx;obtain⟨h2,rfl⟩:=zH.1 hy
  by_cases h:i=j
  ·subst h;exact Int.le_refl _
  ·exact Int.le_of_lt (List.pairwise_iff_getElem.1 hs i j h1 h2 (by omega))
 have hN: ∀z:Int,Den Γ G 440 [vi z]=some (vb false):=fun z=>by
  (refine den_ofY Γ440 rfl ?_;dsimp only[zq7])
  simp -dsimp only[go_sem,seval]
 (refine den_ofY Γ437 rfl ?_;dsimp only[zra])
 simp -dsimp only[go_sem,seval]
 refine zaz 2147476352 l.length (fun t f=> ∃i j:Nat,(f 7).v=vi i/\(f 8).v=vi j/\i<=j/\j<=l.length/\j-i<=l.length-t/\(∀k x,k<i->l[k]? =some x->x<v)/\(∀k x,j<=k->l[k]? =some x-> ¬x<v)) rfl rfl
  ⟨0,l.length,by simp -dsimp only[go_sem,seval],by simp -dsimp only[go_sem,seval],by omega,by omega,by omega,fun k x hk=>by omega,fun k x hk hx=>by have:=(zH.1 hx).1;omega⟩ ?_
 rintro t f u kk bb ht ⟨i,j,h7,h8,hij,hj,hm,hlo,hhi⟩;simp -dsimp only[go_sem,seval,h7,h8]
 by_cases hlt:i<j
 ·have hlt1:=eq_true hlt;have hsum:IntKind.i64.wrap ((i:Int)+(j:Int))=((i+j:Nat):Int):=by rw[zan (by omega)];omega
  have hu:IntKind.u64.wrap ((i+j:Nat):Int)=((i+j:Nat):Int):=by unfold IntKind.wrap;simp[IntKind.bits,IntKind.signed];omega
  have hb:IntKind.i64.wrap (((i+j:Nat):Int).fdiv (2^min 1 64))=(((i+j)/ 2:Nat):Int):=by
   rw[show min 1 64=1 from rfl,Int.fdiv_eq_ediv_of_nonneg _ (by decide),zan (by omega)];omega
  have hmid:(i+j)/ 2<l.length:=by omega
  obtain⟨x,hx,_⟩:=zaf hmid;have hle:=zm1 x v;have hw1:=zah ((i+j)/ 2) (by omega);have h0m:(0<=(((i+j)/ 2:Nat):Int))=True:=eq_true (by omega);simp -dsimp only[go_sem,seval,h7,h8,hlt1,hsum,hu,hb,h0m,hx,hle]
  by_cases hxv:x<v
  ·have hxv1:=eq_true hxv;simp -dsimp only[go_sem,seval,hxv1,hw1];refine⟨by omega,(i+j)/ 2+1,j,by simp -dsimp only[go_sem,seval,hw1],by simp -dsimp only[go_sem,seval,h8],by omega,hj,by omega,fun k y hk hy=> ?_,hhi⟩;have:=hmono k _ y x (by omega) hy hx;omega
  ·have hxv1:=eq_false hxv;simp -dsimp only[go_sem,seval,hxv1];refine⟨by omega,i,(i+j)/ 2,by simp -dsimp only[go_sem,seval,h7],by simp -dsimp only[go_sem,seval],by omega,by omega,by omega,hlo,fun k y hk hy=> ?_⟩;have:=hmono _ k x y hk hx hy;omega
 ·have hij2:i=j:=by omega
  subst hij2;have hlt1:=eq_false hlt;have hbel:=znH hs hj hlo hhi
  by_cases hil:i<l.length
  ·obtain⟨x,hx,_⟩:=zaf hil;have hil1:=eq_true hil
   by_cases hxv:x=v
   ·have hxv1:=eq_true hxv;simp -dsimp only[go_sem,seval,h7,h8,hlt1,hil1,hx,hN,hbel,hxv1]
   ·have hxv1:=eq_false hxv;simp -dsimp only[go_sem,seval,h7,h8,hlt1,hil1,hx,hN,hbel,hxv1]
  ·have hil1:=eq_false hil;have hx:l[i]? =none:=List.getElem?_eq_none (by omega);simp -dsimp only[go_sem,seval,h7,h8,hlt1,hil1,hx,hN,hbel]
end Rg
end
section
namespace Rg
open Go
def fencedI (b:Nat->Bool) (n:Nat):List Int:=(fencedL b n).map fun k:Nat=>(k:Int)
theorem zeW (b:Nat->Bool) (n:Nat):(fencedI b n).length=cntB b n:=by unfold fencedI fencedL cntB;rw[List.length_map]
theorem fencedI_pair (b:Nat->Bool) (n:Nat):(fencedI b n).Pairwise (· < ·):=by
 unfold fencedI fencedL;refine List.Pairwise.map _ ?_ (List.Pairwise.filter _ List.pairwise_lt_range);intro a b hab;omega
theorem zeV {b:Nat->Bool} {n:Nat} {z:Int}:z∈fencedI b n<-> ∃k:Nat,z=k/\k<n/\b k=true:=by
 unfold fencedI fencedL;simp only[List.mem_map,List.mem_filter,List.mem_range];constructor
 ·rintro⟨k,⟨h1,h2⟩,rfl⟩;exact⟨k,rfl,h1,h2⟩
 ·rintro⟨k,rfl,h1,h2⟩;exact⟨k,⟨h1,h2⟩,rfl⟩
theorem zh8 {b:Nat->Bool} {n k:Nat} (h:k<n):(fencedI b n).contains (k:Int)=b k:=by
 rw[Bool.eq_iff_iff,List.contains_iff_mem,zeV];constructor
 ·rintro⟨j,hj,_,h2⟩;have:k=j:=by omega
  subst this;exact h2
 ·exact fun h2=>⟨k,rfl,h,h2⟩
theorem ziG {k:Nat}: ∀{n:Nat},k<=n->(List.range n).filter (fun a=>decide (a<k))=List.range k
 | 0,h=>by have:k=0:=by omega
           subst this;rfl
 | n+1,h=>by
   rw[List.range_succ,List.filter_append]
   by_cases h1:k<=n
   ·rw[ziG h1];have:(List.filter (fun a=>decide (a<k)) [n])=[]:=by simp;omega
    rw[this,List.append_nil]
   ·have hk:k=n+1:=by omega
    subst hk
    have:(List.range n).filter (fun a=>decide (a<n+1))=List.range n:=by
     rw[List.filter_eq_self];intro a ha;have:=List.mem_range.1 ha;simp;omega
    rw[this,List.range_succ];have:(List.filter (fun a=>decide (a<n+1)) [n])=[n]:=by simp
    rw[this]
theorem zgo {b:Nat->Bool} {n k:Nat} (h:k<=n):below (fencedI b n) (k:Int)=cntB b k:=by
 unfold below fencedI fencedL cntB;rw[List.filter_map,List.length_map,List.filter_filter]
 have e:(fun a:Nat=>((fun x:Int=>decide (x<(k:Int)))∘fun k:Nat=>(k:Int)) a&&b a)=fun a=>b a&&decide (a<k):=by
  funext a
  rw[Bool.and_comm]
  congr 1
  simp
 rw[e,<- List.filter_filter,ziG h]
theorem zhP (l:List Int) (hs:l.Pairwise (· < ·)) (hl:l.length<2^31) (k:Nat) (hk:k<2^31):Den Γ G 436 [vi k,.t (.ip [.sl (l.map fun n=>[ti n])])]=some (vi ((k+below l k:Nat))):=by
 have hb:=zji l hs hl k;have hle:below l k<=l.length:=by unfold below;exact List.length_filter_le _ _
 have hadd:IntKind.i64.wrap ((k:Int)+(below l k:Nat))=((k+below l k:Nat):Int):=by rw[zan (by omega)];push_cast;rfl
 (refine den_ofY Γ436 rfl ?_;dsimp only[zrb])
 simp -dsimp only[go_sem,seval,hb,hadd]
theorem znc (l:List Int) (hl:l.length<2^31) (k:Int):Den Γ G 438 [vi k,.t (.ip [.sl (l.map fun n=>[ti n])])]=some (vb (l.contains k)):=by
 have hb:=zbB l k (by omega)
 (refine den_ofY Γ438 rfl ?_;dsimp only[zq9])
 simp -dsimp only[go_sem,seval,hb]
theorem zm4 (s:Step) (pt:Int):Den Γ G 435 [(.agg [.t (ti (s).kind),.t (ti (s).fr),.t (ti (s).to),.t (ti ((s).guard).op),.t (ti ((s).guard).w),.t (ti ((s).guard).n),.t (.sl (((s).guard).kids.map Expr.enc)),.t (.sl ((s).set.map Assign.enc)),.t (tb (s).release),.t (ti (s).target),.t (ti (s).module)]),.t (.ip [ti pt])]=some (vb (decide (s.fr=pt))):=by
 (refine den_ofY Γ435 rfl ?_;dsimp only[zrc])
 simp -dsimp only[go_sem,seval]
def idxS (l:List Step) (pt:Int):Int:=idxC (l.map Step.fr) pt
theorem zjw (l:List Step) (hl:l.length<2^31) (pt:Int):Den Γ G 434 [.t (.sl (l.map Step.enc)),.t (.fn 435 [] [.ip [ti pt]])]=some (vi (idxS l pt)):=by
 (refine den_ofY Γ434 rfl ?_;dsimp only[zrd])
 simp -dsimp only[go_sem,seval];refine zaz 524080 l.length (fun i f=>(f 8).v=vi i/\ ∀j,j<i->(l.map Step.fr)[j]? ≠some pt) rfl rfl ⟨by simp -dsimp only[go_sem,seval],fun j hj=>by omega⟩ ?_;rintro i f u kk bb hi ⟨h8,hn⟩;have hw:=zah i (by omega);simp -dsimp only[go_sem,seval,h8];refine csplit (fun h=> ?_) (fun h=> ?_)<;>(try rw[h])<;>(try simp only[zab]at h)<;>(try simp -dsimp only[go_sem,seval,h8])
 ·obtain⟨s,hs,_⟩:=zaf ‹i<l.length›;have hd:=zm4 s pt;simp -dsimp only[go_sem,seval,h8,hs,hd];refine csplit (fun h=> ?_) (fun h=> ?_)<;>(try rw[h])<;>(try simp only[zab]at h)<;>(try simp -dsimp only[go_sem,seval,h8])
  ·rw[idxS,zen (by simp[hs,h]) hn]
  ·refine⟨by omega,by simp -dsimp only[go_sem,seval,hw],fun j hj=> ?_⟩;rcases Nat.lt_or_ge j i with h1 | h1
   ·exact hn j h1
   ·have:j=i:=by omega
    subst this;rw[zJ,hs,Option.map_some];intro he;exact‹¬s.fr=pt› (Option.some.inj he)
 ·have:i=l.length:=by omega
  subst this;rw[idxS,zhb (by simpa using hn)]
theorem zfM (x:Thread) (hl:x.steps.length<2^31) (pt:Int):Den Γ G 424 [(.agg [.t (.str (x).name),.t (ti (x).points),.t (.sl ((x).asserts.map Expr.enc)),.t (ints (x).modules),.t (.sl ((x).steps.map Step.enc)),.t (.sl ((x).loops.map Loop.enc)),.t (tb (x).asleep)]),vi pt]=some (vi (idxS x.steps pt)):=by
 have hd:=zjw x.steps hl pt
 (refine den_ofY Γ424 rfl ?_;dsimp only[zri])
 simp -dsimp only[go_sem,seval,hd]
theorem zlp {l:List Step} {pt:Int} {i:Nat} {s:Step} (hs:l[i]? =some s) (hp:s.fr=pt): ∃j s',idxS l pt=(j:Nat)/\l[j]? =some s'/\s'=((l.find? fun s=>decide (s.fr=pt)).getD default):=by
 induction l generalizing i with
 | nil=>simp at hs
 | cons y l ih=>
   by_cases hy:y.fr=pt
   ·refine⟨0,y,?_,rfl,by simp[hy]⟩;rw[idxS,zen (i:=0) (by simp[hy]) (fun j hj=>by omega)]
   ·cases i with
    | zero=>simp at hs;subst hs;exact absurd hp hy
    | succ i=>
      obtain⟨j,s',h1,h2,h3⟩:=ih (by simpa using hs);refine⟨j+1,s',?_,by simpa using h2,by simp[hy,h3]⟩
      have:idxS (y::l) pt=if idxS l pt= -1 then -1 else idxS l pt+1:=by
       unfold idxS idxC;rw[List.map_cons,List.findIdx?_cons];simp only[hy,decide_false,zG,if_false]
       cases h:(l.map Step.fr).findIdx? (fun x=>decide (x=pt))with
       | none=>simp
       | some k=>simp only[Option.map_some];rw[if_neg (by omega)];push_cast;rfl
      rw[this,h1,if_neg (by omega)];push_cast;rfl
end Rg
end
section
set_option maxRecDepth 100000
namespace Rg
open Go
structure OwnT (h:Nat->Option O) (lo x:Nat) (v:V) (sz d:Nat) (rows:List (List V)) (es:List (List T)):Prop where
 own:zxp h x v sz rows
 all:(rows.all fun r=>decide (r.length=sz))=true
 len:rows.length=es.length
 low: ∀j,j<lo->zc1 v j
 sh: ∀h2:Nat->Option O,(∀j,lo<=j->j<x->zc1 v j->h2 j=h j)->rows.mapM (fun r=>r.mapM (toT h2 d))=some es
theorem OwnT.nil (h:Nat->Option O) (lo x sz d:Nat):OwnT h lo x (.t .nils) sz d [] []:=⟨.inl ⟨rfl,rfl⟩,rfl,rfl,(fun j _ i n h=>by cases h),fun _ _=>rfl⟩
theorem OwnT.keep {h h':Nat->Option O} {lo x y:Nat} {v:V} {sz d:Nat} {rows:List (List V)} {es:List (List T)} (o:OwnT h lo x v sz d rows es) (hxy:x<=y) (hh: ∀j,j<x->h' j=h j):OwnT h' lo y v sz d rows es:=
 ⟨o.own.keep hxy fun k hk _=>hh k hk,o.all,o.len,o.low,fun h2 h3=>o.sh h2 fun j hl hj ho=>(h3 j hl (by omega) ho).trans (hh j hj)⟩
theorem OwnT.toT {h:Nat->Option O} {lo x:Nat} {v:V} {sz d:Nat} {rows:List (List V)} {es:List (List T)} (o:OwnT h lo x v sz d rows es) {h2:Nat->Option O} (hh: ∀j,lo<=j->j<x->h2 j=h j):Rg.toT h2 (d+1) v=some (.sl es):=by
 have h1:=o.sh h2 fun j hl hj _=>hh j hl hj
 rcases o.own with⟨rfl,rfl⟩ | ⟨k,rfl,hk,hr⟩
 ·have:es=[]:=by have:=o.len;simpa using this.symm
  subst this;rfl
 ·have hlk:lo<=k:=by
   rcases Nat.lt_or_ge k lo with h0 | h0
   ·exact absurd rfl (o.low k h0 0 rows.length)
   ·exact h0
  exact zc4 (r:=rows) ((hh k hlk hk).trans hr) (by unfold rd;rw[if_pos (by omega),List.drop_zero,List.take_of_length_le (Nat.le_refl _)]) h1
theorem OwnT.snoc {h H H':Nat->Option O} {lo x x' y:Nat} {u v:V} {sz d:Nat} {a:List (List V)} {es:List (List T)} {row:List V} {e:List T} (o:OwnT h lo x u sz d a es) (hlo:lo<=x) (hx:x<=x') (hxy:x'<=y)
 (hO:zxp H' y v sz (a++[row])) (hoffs: ∀j,j<x'->zc1 v j) (hkeep: ∀j,j<x'->zc1 u j->H' j=H j) (hlow: ∀j,j<x->H j=h j) (hsz:row.length=sz)
 (hrow: ∀h2:Nat->Option O,(∀j,x<=j->j<x'->h2 j=H j)->row.mapM (Rg.toT h2 d)=some e):OwnT H' lo y v sz d (a++[row]) (es++[e]):=by
 refine⟨hO,?_,by simp[o.len],fun j hj=>hoffs j (by omega),fun h2 hh=> ?_⟩
 ·rw[List.all_append,o.all];simp[hsz]
 ·have h1:=o.sh h2 fun j hl hj ho=>((hh j hl (by omega) (hoffs j (by omega))).trans (hkeep j (by omega) ho)).trans (hlow j hj)
  have h3:=hrow h2 fun j hj hj'=>(hh j (by omega) (by omega) (hoffs j hj')).trans (hkeep j hj' (o.own.off hj))
  rw[List.mapM_append,h1];simp[h3]
theorem ziM {h h2:Nat->Option O} {x:Nat} {v:V} {sz d:Nat} {es:List (List T)} (o:zxp h x v sz (es.map (·.map V.t))) (hn: ∀e∈es,∀t∈e,T.norm t=t) (hh: ∀j,j<x-> ¬zc1 v j->h2 j=h j):toT h2 (d+1) v=some (.sl es):=by
 rcases o with⟨rfl,he⟩ | ⟨k,rfl,hk,hr⟩
 ·have:es=[]:=by simpa using he
  subst this;rfl
 ·refine zc4 (r:=es.map (·.map V.t)) ((hh k hk (fun h0=>h0 _ _ rfl)).trans hr) (by unfold rd;rw[if_pos (by simp),List.drop_zero,List.take_of_length_le (by simp)]) ?_;exact zef h2 d es hn
end Rg
end
