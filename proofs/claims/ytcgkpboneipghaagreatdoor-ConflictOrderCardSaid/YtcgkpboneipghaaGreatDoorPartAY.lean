/- Part of the proof of the laws of the package relyguardlaw30: an abstract machine for the program's functions, what they compute, and that the machine is the program's. No condition. (H30f H30g H14a H15r H31a H41a H41b H42a) -/
import Derived.Test.YtcgkpboneipghaaGreatDoorPartAX
import Derived.Test.YtcgkpboneipghaaGreatDoorPartAU
set_option linter.unusedSimpArgs false
set_option linter.unusedVariables false
section
set_option maxRecDepth 100000
namespace Rg
open Go
theorem Bld.updR {h:Nat->Option O} {k q:Nat} {l:List UInt8} {o o' : Option O} (hb:Bld h k l) (hq:h q=o') (ho : ∀ x,o' ≠ some (.raw x)):Bld (updC h q o) k l:=by
 subst hq
 rcases hb with ⟨h1,h2⟩ | ⟨g,h1,h2,h3⟩
 ·exact .inl ⟨by rw [updC_at,if_neg (by rintro rfl; exact ho _ h1)]; exact h1,h2⟩
 ·refine .inr ⟨g, ?_, ?_,h3⟩
  ·rw [updC_at,if_neg (by rintro rfl; exact ho _ h1)]; exact h1
  ·rw [updC_at,if_neg (by rintro rfl; exact ho _ h2)]; exact h2
theorem Fresh.lt {h:Nat->Option O} {n k:Nat} {o:O} (hf:Fresh h n) (hk:h k=some o):k<n:=by
 rcases Nat.lt_or_ge k n with h0 | h0
 ·exact h0
 ·have:=hf k h0; rw [hk] at this; cases this
theorem Bld.frame {h h' : Nat->Option O} {k:Nat} {l:List UInt8} (hb:Bld h k l) (hf : ∀ j x,h j=some (.raw x)->h' j=h j):Bld h' k l:=by
 rcases hb with ⟨h1,h2⟩ | ⟨g,h1,h2,h3⟩
 ·exact .inl ⟨by rw [hf k _ h1]; exact h1,h2⟩
 ·exact .inr ⟨g,by rw [hf k _ h1]; exact h1,by rw [hf g _ h2]; exact h2,h3⟩
structure ThrOk (x:Thread):Prop where
 name:isLabel x.name=true
 al:x.asserts.length<=48
 ml:x.modules.length=x.asserts.length
 sl:x.steps.length<=64
 ll:x.loops.length<=8
 mi : ∀ z∈x.modules,inI z
 st : ∀ s∈x.steps,inI s.kind/\inI s.fr/\inI s.to/\inI s.target/\inI s.module/\(∀ a∈s.set,inI a.cell)/\s.set.length<=40
 lp : ∀ l∈x.loops,inI l.head/\(∀ z∈l.body,inI z)/\l.body.length<=60
end Rg
end
section
set_option maxRecDepth 100000
namespace Rg
open Go
end Rg
end
section
namespace Rg
open Go
theorem intsOf_rowsI : ∀ l:List Int,intsOf (rowsI l)=some l
 | []=>rfl
 | a::l=>by
   have:rowsI (a::l)=[.t (.int .i64 a)]::rowsI l:=rfl
   rw [this,intsOf,intsOf_rowsI l]; rfl
theorem ofInts_rowsI (l:List Int):ofInts l=rowsI l:=by simp [ofInts,rowsI]
theorem rowsI_tt (h:Nat->Option O) (d:Nat) (l:List Int):(rowsI l).mapM (fun row=>row.mapM (toT h d))=some (l.map fun n=>[ti n]):=rows_toT h d (l.map fun n=>[ti n]) (ints_norm _)
def sortedM (l:List Int):List Int:=Go.Lib.compact (l.mergeSort fun x y=>decide (x<=y))
theorem compactL (l:List Int):(Go.Lib.compact l).length<=l.length:=by
 unfold Go.Lib.compact Go.Lib.compactUpTo
 rw [List.length_map]
 exact Nat.le_trans (List.length_filter_le _ _) (by simp)
theorem sortedM_len (l:List Int):(sortedM l).length<=l.length:=by
 have:=compactL (l.mergeSort fun x y=>decide (x<=y))
 rwa [List.length_mergeSort] at this
def Shown (h:Nat->Option O) (r:V) (l:List Int):Prop:=(r = .t .nils/\l=[]) \/ ∃ k m,r = .ms k 0 l.length/\h k=some (.rows 1 (rowsI (l++m)) false)
theorem sorted_den (H:Nat->Option O) (x n:Nat) (v:V) (l:List Int) (ho:OwnB H x v 1 (rowsI l)) (hl:l.length<2^40) :
 ∃ r h' n',DenR Γ G 57 [v] H n=some (r,h',n')/\Shown h' r (sortedM l):=by
 (refine denR_ofY Γ57 rfl ?_; dsimp only [f57])
 rcases ho with ⟨rfl,hr⟩ | ⟨k,rfl,hk,hh⟩
 ·have hl0:l=[]:=by
   have:=congrArg List.length hr
   rw [rowsI_len] at this
   exact List.eq_nil_of_length_eq_zero this
  subst hl0
  have a1 : ∀ n,DenR Γ G 74 [.t .nils] H n=some (.tup [],H,n):=fun n=>denR_ext Γ74 rfl rfl rfl
  have a2 : ∀ n,DenR Γ G 75 [.t .nils] H n=some (.t .nils,H,n):=fun n=>denR_ext Γ75 rfl rfl rfl
  simp -dsimp -implicitDefEqProofs only [go_sem,seval,a1,a2]
  exact .inl ⟨rfl,by rw [sortedM,List.mergeSort_nil]; rfl⟩
 ·rw [rowsI_len]
  have s1:(l.mergeSort fun x y=>decide (x<=y)).length=l.length:=List.length_mergeSort _
  have a1 : ∀ n,DenR Γ G 74 [.ms k 0 l.length] H n=some (.tup [],upd H k (some (.rows 1 (rowsI (l.mergeSort fun x y=>decide (x<=y))) false)),n):=fun n=>denR_ext Γ74 rfl rfl (by
   simp only [extSem,hh,intsOf_rowsI,Option.bind_some,ofInts_rowsI]
   rw [if_pos (by exact ⟨trivial,by omega⟩)])
  have a2 : ∀ n,DenR Γ G 75 [.ms k 0 l.length] (upd H k (some (.rows 1 (rowsI (l.mergeSort fun x y=>decide (x<=y))) false))) n=some (.ms k 0 (sortedM l).length,upd (upd H k (some (.rows 1 (rowsI (l.mergeSort fun x y=>decide (x<=y))) false))) k (some (.rows 1 (rowsI (sortedM l++List.replicate (l.length-(sortedM l).length) 0)) false)),n):=fun n=>denR_ext Γ75 rfl rfl (by
   simp only [extSem,upd_same,intsOf_rowsI,Option.bind_some,ofInts_rowsI]
   rw [if_pos ⟨s1,by omega⟩,s1]; rfl)
  simp -dsimp -implicitDefEqProofs only [go_sem,seval,a1,a2]
  exact .inr ⟨k,_,rfl,upd_same _ _ _⟩
def writesM (s:Step):List Int:=sortedM (s.set.map Assign.cell)
theorem writes_den (s:Step) (hs:s.set.length<2^31):Den Γ G 28 [(.agg [.t (ti (s).kind), .t (ti (s).fr), .t (ti (s).to), .t (ti ((s).guard).op), .t (ti ((s).guard).w), .t (ti ((s).guard).n), .t (.sl (((s).guard).kids.map Expr.enc)), .t (.sl ((s).set.map Assign.enc)), .t (tb (s).release), .t (ti (s).target), .t (ti (s).module)])]=some (.t (ints (writesM s))):=by
 (refine den_ofY Γ28 rfl ?_; dsimp only [f28])
 simp -dsimp -implicitDefEqProofs only [go_sem,seval]
 refine loopYH 523816 s.set.length (fun i f h x=>(f 9).v=vi i/\OwnB h x (f 3).v 1 (rowsI ((s.set.map Assign.cell).take i))) rfl ⟨by simp -dsimp -implicitDefEqProofs only [go_sem,seval], .inl ⟨by simp -dsimp -implicitDefEqProofs only [go_sem,seval],rfl⟩⟩ ?_
 rintro i f u H x bs hi ⟨h9,hown⟩
 have hw:=wrapS i (by omega)
 simp -dsimp -implicitDefEqProofs only [go_sem,seval,h9]
 refine csplit (fun h => ?_) (fun h => ?_) <;> (try rw [h]) <;> (try simp only [bools] at h) <;> (try simp -dsimp -implicitDefEqProofs only [go_sem,seval,h9])
 ·obtain ⟨a,ha,_⟩:=get_of ‹i<s.set.length›
  have ha' : (s.set.map Assign.cell)[i]? = some a.cell:=by simp [ha]
  have v1:=hown.valOf
  have v2:=hown.r2
  have v3:=hown.r3
  simp -dsimp -implicitDefEqProofs only [go_sem,seval,h9,ha,v1,v2,v3]
  refine putA_app1 (hown.upd (by omega) _) (by omega) (by rw [rowsI_len]; simp; omega) (by decide) rfl (rowsI_all _) ?_
  intro v hp hO hoffs hkeep
  have w1:=hO.valOf
  rw [show rowsI ((s.set.map Assign.cell).take i)++[[V.t (ti a.cell)]]=rowsI ((s.set.map Assign.cell).take (i+1)) from by rw [take_succ_of ha',rowsI_app]] at hO
  simp -dsimp -implicitDefEqProofs only [go_sem,seval,w1,h9]
  exact ⟨by omega,by simp -dsimp -implicitDefEqProofs only [go_sem,seval,hw],by simp -dsimp -implicitDefEqProofs only [go_sem,seval]; exact hO.le (by omega)⟩
 ·have:i=s.set.length:=by omega
  subst this
  rw [show (s.set.map Assign.cell).take s.set.length=s.set.map Assign.cell from List.take_of_length_le (by simp)] at hown
  have v1:=hown.valOf
  simp -dsimp -implicitDefEqProofs only [go_sem,seval,v1]
  refine rawK_of (sorted_den H x _ _ _ hown (by simp; omega)) ?_
  rintro r h' n' hsh
  rcases hsh with ⟨rfl,he⟩ | ⟨k,m,rfl,hk⟩
  ·simp -dsimp -implicitDefEqProofs only [go_sem,seval]
   rw [writesM,he]; rfl
  ·have q1:List.take (sortedM (s.set.map Assign.cell)).length (rowsI (sortedM (s.set.map Assign.cell)++m))=rowsI (sortedM (s.set.map Assign.cell)):=by simp [rowsI]
   have q2:(rowsI (sortedM (s.set.map Assign.cell)++m)).length=(sortedM (s.set.map Assign.cell)).length+m.length:=by rw [rowsI_len,List.length_append]
   simp -dsimp -implicitDefEqProofs only [go_sem,seval,hk,q1,q2,Nat.le_add_right,rowsI_tt]
   rfl
def readsM (s:Step):List Int:=sortedM (s.guard.sup 2++s.set.flatMap fun a=>a.to.sup 2)
def readsL (s:Step) (i:Nat):List Int:=s.guard.sup 2++(s.set.take i).flatMap fun a=>a.to.sup 2
theorem readsL_len (s:Step) (i:Nat):(readsL s i).length<=32+32*i:=by
 unfold readsL
 have h0:=sup_len 2 s.guard
 have : ∀ l:List Assign,(l.flatMap fun a=>a.to.sup 2).length<=32*l.length:=by
  intro l
  induction l with
  | nil=>simp
  | cons a l ih =>
    have:=sup_len 2 a.to
    simp only [List.flatMap_cons,List.length_append,List.length_cons]
    omega
 have h1:=this (s.set.take i)
 have h2:(s.set.take i).length<=i:=by simp; omega
 rw [List.length_append]; omega
theorem readsL_succ {s:Step} {i:Nat} {a:Assign} (h:s.set[i]? = some a):readsL s (i+1)=readsL s i++a.to.sup 2:=by
 unfold readsL
 rw [take_succ_of h,List.flatMap_append,List.append_assoc]
 simp
theorem reads_den (s:Step) (hs:s.set.length<2^20):Den Γ G 31 [(.agg [.t (ti (s).kind), .t (ti (s).fr), .t (ti (s).to), .t (ti ((s).guard).op), .t (ti ((s).guard).w), .t (ti ((s).guard).n), .t (.sl (((s).guard).kids.map Expr.enc)), .t (.sl ((s).set.map Assign.enc)), .t (tb (s).release), .t (ti (s).target), .t (ti (s).module)])]=some (.t (ints (readsM s))):=by
 (refine den_ofY Γ31 rfl ?_; dsimp only [f31])
 simp -dsimp -implicitDefEqProofs only [go_sem,seval]
 refine rawK_of (nxt_of (supportP_den s.guard _ _)) ?_
 rintro r h0 n0 ⟨⟨u3,u2,rfl,o3,o2,_,_⟩,hn0⟩
 have x3:=o3.valOf
 have x2:=o2.valOf
 simp -dsimp -implicitDefEqProofs only [go_sem,seval,x3,x2]
 refine loopYH 4294705616 s.set.length (fun i f h x=>(f 18).v=vi i/\OwnB h x (f 4).v 1 (rowsI (readsL s i))) rfl ⟨by simp -dsimp -implicitDefEqProofs only [go_sem,seval], ?_⟩ ?_
 ·simp -dsimp -implicitDefEqProofs only [go_sem,seval]
  have:readsL s 0=s.guard.sup 2:=by simp [readsL]
  rw [this]
  exact o2.le (by omega)
 rintro i f u H x bs hi ⟨h18,hown⟩
 have hw:=wrapS i (by omega)
 simp -dsimp -implicitDefEqProofs only [go_sem,seval,h18]
 refine csplit (fun h => ?_) (fun h => ?_) <;> (try rw [h]) <;> (try simp only [bools] at h) <;> (try simp -dsimp -implicitDefEqProofs only [go_sem,seval,h18])
 ·obtain ⟨a,ha,_⟩:=get_of ‹i<s.set.length›
  have v1:=hown.valOf
  simp -dsimp -implicitDefEqProofs only [go_sem,seval,h18,ha,v1]
  refine rawK_of (nxt_of (supportP_den a.to _ _)) ?_
  rintro r h1 n1 ⟨⟨w3,w2,rfl,p3,p2,hle1,hkp⟩,hn1⟩
  have y3:=p3.valOf
  have y2:=p2.valOf
  have hown' : OwnB h1 n1 (f 4).v 1 (rowsI (readsL s i)):=hown.keep (by omega) (fun k hk _=>(hkp k (by omega)).1)
  have z1:=hown'.rowsS
  have z2:=p2.rowsS
  simp -dsimp -implicitDefEqProofs only [go_sem,seval,h18,v1,y3,y2,z1,z2]
  have hrl:=readsL_len s i
  have hsl:=sup_len 2 a.to
  refine putA_app hown' (by omega) (by rw [rowsI_len,rowsI_len]; omega) (by decide) (rowsI_all _) (rowsI_all _) ?_
  intro v hp hO _ _
  have hap:rowsI (readsL s i)++rowsI (a.to.sup 2)=rowsI (readsL s (i+1)):=by rw [readsL_succ ha]; simp [rowsI]
  rw [hap] at hO
  have w1:=hO.valOf
  simp -dsimp -implicitDefEqProofs only [go_sem,seval,w1,h18]
  exact ⟨by omega,by simp -dsimp -implicitDefEqProofs only [go_sem,seval,hw],by simp -dsimp -implicitDefEqProofs only [go_sem,seval]; exact hO.le (by omega)⟩
 ·have:i=s.set.length:=by omega
  subst this
  have v1:=hown.valOf
  have hrl:=readsL_len s s.set.length
  simp -dsimp -implicitDefEqProofs only [go_sem,seval,v1]
  refine rawK_of (sorted_den H x _ _ _ hown (by omega)) ?_
  rintro r h' n' hsh
  have hrm:readsM s=sortedM (readsL s s.set.length):=by simp [readsM,readsL]
  rw [hrm]
  rcases hsh with ⟨rfl,he⟩ | ⟨k,m,rfl,hk⟩
  ·simp -dsimp -implicitDefEqProofs only [go_sem,seval]
   (try (rw [he]; rfl))
  ·have q1:List.take (sortedM (readsL s s.set.length)).length (rowsI (sortedM (readsL s s.set.length)++m))=rowsI (sortedM (readsL s s.set.length)):=by simp [rowsI]
   have q2:(rowsI (sortedM (readsL s s.set.length)++m)).length=(sortedM (readsL s s.set.length)).length+m.length:=by rw [rowsI_len,List.length_append]
   simp -dsimp -implicitDefEqProofs only [go_sem,seval,hk,q1,q2,Nat.le_add_right,rowsI_tt]
   (try rfl)
def idxN {α:Type} (f:α->Bool) (l:List α) (i:Nat):List Int:=((l.take i).zipIdx.filter fun q=>f q.1).map fun q=>(q.2:Int)
def idxM {α:Type} (f:α->Bool) (l:List α):List Int:=idxN f l l.length
theorem idxN_succ {α:Type} (f:α->Bool) {l:List α} {i:Nat} {x:α} (h:l[i]? = some x):idxN f l (i+1)=idxN f l i++if f x then [(i:Int)] else []:=by
 unfold idxN
 have hi:i<l.length:=(List.getElem?_eq_some_iff.1 h).1
 rw [take_succ_of h,List.zipIdx_append,List.filter_append,List.map_append]
 have e:0+(l.take i).length=i:=by simp; omega
 rw [e]
 cases hf:f x <;> simp [hf]
theorem idxN_len {α:Type} (f:α->Bool) (l:List α) (i:Nat):(idxN f l i).length<=i:=by
 unfold idxN
 rw [List.length_map]
 refine Nat.le_trans (List.length_filter_le _ _) ?_
 simp; omega
theorem idxN_zero {α:Type} (f:α->Bool) (l:List α):idxN f l 0=[]:=by simp [idxN]
def ofM (p:Prog) (t:Int):List Int:=idxM (fun c:Cell=>decide (c.thread=t)) p.cells
theorem ofP_den (p:Prog) (t:Int) (hl:p.cells.length<2^31):Den Γ G 253 [(.agg [.t (.sl ((p).cells.map (Cell.enc))), .t (.sl ((p).modules.map (Contract.enc))), .t (.sl ((p).locks.map (Lock.enc))), .t (.sl ((p).threads.map (Thread.enc)))]),vi t]=some (.t (ints (ofM p t))):=by
 (refine den_ofY Γ253 rfl ?_; dsimp only [f253])
 simp -dsimp -implicitDefEqProofs only [go_sem,seval]
 refine loopYH 33552608 p.cells.length (fun i f h x=>(f 11).v=vi i/\OwnB h x (f 5).v 1 (rowsI (idxN (fun c:Cell=>decide (c.thread=t)) p.cells i))) rfl ⟨by simp -dsimp -implicitDefEqProofs only [go_sem,seval], .inl ⟨by simp -dsimp -implicitDefEqProofs only [go_sem,seval],by rw [idxN_zero]; rfl⟩⟩ ?_
 rintro i f u H x bq hi ⟨h11,hown⟩
 have hw:=wrapS i (by omega)
 simp -dsimp -implicitDefEqProofs only [go_sem,seval,h11]
 refine csplit (fun h => ?_) (fun h => ?_) <;> (try rw [h]) <;> (try simp only [bools] at h) <;> (try simp -dsimp -implicitDefEqProofs only [go_sem,seval,h11])
 ·obtain ⟨c,hc,_⟩:=get_of ‹i<p.cells.length›
  have hsucc:=idxN_succ (fun c:Cell=>decide (c.thread=t)) hc
  have hln:=idxN_len (fun c:Cell=>decide (c.thread=t)) p.cells i
  have v1:=hown.valOf
  have v2:=hown.r2
  have v3:=hown.r3
  have v4:=hown.r4
  simp -dsimp -implicitDefEqProofs only [go_sem,seval,h11,hc]
  refine csplit (fun h => ?_) (fun h => ?_) <;> (try rw [h]) <;> (try simp only [bools] at h) <;> (try simp -dsimp -implicitDefEqProofs only [go_sem,seval,h11])
  ·rw [if_pos (by simpa using h)] at hsucc
   simp -dsimp -implicitDefEqProofs only [go_sem,seval,h11,v1,v2,v3,v4]
   refine putA_app1 (hown.upd (by omega) _) (by omega) (by rw [rowsI_len]; simp; omega) (by decide) rfl (rowsI_all _) ?_
   intro v hp hO hoffs hkeep
   have w1:=hO.valOf
   rw [<- rowsI_app, <- hsucc] at hO
   simp -dsimp -implicitDefEqProofs only [go_sem,seval,w1,h11]
   exact ⟨by omega,by simp -dsimp -implicitDefEqProofs only [go_sem,seval,hw],by simp -dsimp -implicitDefEqProofs only [go_sem,seval]; exact hO.le (by omega)⟩
  ·rw [if_neg (by simpa using h),List.append_nil] at hsucc
   refine ⟨by omega,by simp -dsimp -implicitDefEqProofs only [go_sem,seval,hw], ?_⟩
   simp -dsimp -implicitDefEqProofs only [go_sem,seval,hsucc]
   exact hown.le (by omega)
 ·have:i=p.cells.length:=by omega
  subst this
  have v1:=hown.valOf
  have hre:=hown.reify (ints_norm _)
  have v5:=hown.resVal
  simp only [Rg.resVal] at v5
  simp -dsimp -implicitDefEqProofs only [go_sem,seval,v1,v5]
  exact hre
theorem sharedLP_den (p:Prog) (hl:p.cells.length<2^31):Den Γ G 228 [(.agg [.t (.sl ((p).cells.map (Cell.enc))), .t (.sl ((p).modules.map (Contract.enc))), .t (.sl ((p).locks.map (Lock.enc))), .t (.sl ((p).threads.map (Thread.enc)))])]=some (.t (ints (ofM p (-1)))):=by
 (refine den_ofY Γ228 rfl ?_; dsimp only [f228])
 have h1:=ofP_den p (-1) hl
 simp -dsimp -implicitDefEqProofs only [go_sem,seval,h1]
end Rg
end
section
namespace Rg
open Go
structure Acc where
 th:Nat
 st:Nat
 ce:Nat
 wr:Bool
 deriving DecidableEq,Inhabited
def Acc.enc (a:Acc):List T:=[ti a.th,ti a.st,ti a.ce,tb a.wr]
attribute [go_sem] Acc.enc
structure Gr where
 nc:Nat
 nt:Nat
 all:List Acc
 cls:List Nat
 msk:List Nat
 ld:List (List Nat)
 qk:List (List Nat)
 ear:Acc->Bool
 lat:Acc->Bool
namespace Gr
variable (g:Gr)
def sz:Nat:=2*(g.nc+g.nt)
def thr (c:Nat):Nat:=c / g.sz
def prec (c d:Nat):Bool:=precM g.nc g.nt c d
def mks (c:Nat):Nat:=g.msk.getD c 0
def ac (i:Nat):Acc:=g.all.getD i default
def cl (i:Nat):Nat:=g.cls.getD i 0
def ldAt (t i:Nat):Nat:=(g.ld.getD t []).getD i 0
def qkAt (t i:Nat):Nat:=(g.qk.getD t []).getD i 0
def partner (a b:Nat):Bool:=decide (a≠b)&&(decide ((g.ac a).th=(g.ac b).th)&&(decide ((g.ac a).st=(g.ac b).st)||(g.ldAt (g.ac a).th (g.ac a).st).testBit (g.ac b).st))
def rowC (same:Bool) (i m:Nat):Nat:=if same then (m ||| 1 <<< i) &&& (2^64-1-1 <<< i) else m ||| 1 <<< i
def couple (c d:Nat):Bool:=meetsM (g.mks c) (g.mks d) ((g.ld.getD (g.thr c) []).mapIdx fun i m=>rowC (decide (c=d)) i m)
def ok (c d m:Nat):Bool:=decide (g.mks d≠0)&&(!m.testBit (g.thr d)&&g.prec c d)
def ends:Nat->Nat->Nat->Nat->Bool
 | 0,goal,c,_=>g.prec c goal
 | 1,goal,c,m=>(List.range g.msk.length).any fun d=>g.ok c d m&&ends 0 goal d (m ||| 1 <<< g.thr d)
 | r+2,goal,c,m=>(List.range g.msk.length).any fun d=>g.ok c d m&&(ends (r+1) goal d (m ||| 1 <<< g.thr d) ||
    (List.range g.msk.length).any fun e=>decide (g.thr e=g.thr d)&&(g.couple d e&&ends r goal e (m ||| 1 <<< g.thr d)))
def opens (r goal c m:Nat):Bool:=g.ends r goal c m||(decide (0<r)&&(List.range g.msk.length).any fun e=>decide (g.thr e=g.thr c)&&(g.couple c e&&g.ends (r-1) goal e m))
theorem ends_succ (r goal c m:Nat):g.ends (r+1) goal c m=(List.range g.msk.length).any fun d=>g.ok c d m&&g.opens r goal d (m ||| 1 <<< g.thr d):=by
 cases r with
 | zero=>simp [ends,opens]
 | succ r=>simp [ends,opens]
def begins (r goal a m:Nat):Bool:=g.ends r goal (g.cl a) m||(decide (0<r)&&(List.range g.all.length).any fun b=>g.partner a b&&g.ends (r-1) goal (g.cl b) m)
def delay (a b:Nat):Bool:=decide ((g.ac a).th=(g.ac b).th)&&(decide ((g.ac a).ce≠(g.ac b).ce)&&((g.qkAt (g.ac a).th (g.ac a).st).testBit (g.ac b).st&&(g.ear (g.ac a)&&g.lat (g.ac b))))
def maskF (f:Acc->Bool) (c i:Nat):Nat:=((g.all.zip g.cls).take i).foldl (fun m q=>if f q.1&&decide (q.2=c) then m ||| 1 <<< q.1.st else m) 0
def eaM (c:Nat):Nat:=g.maskF g.ear c g.all.length
def laM (c:Nat):Nat:=g.maskF g.lat c g.all.length
def isPair (c d:Nat):Bool:=decide (g.eaM c≠0)&&(decide (g.laM d≠0)&&(decide (g.thr c=g.thr d)&&(decide (c / 2≠d / 2)&&meetsM (g.eaM c) (g.laM d) (g.qk.getD (g.thr c) []))))
def pairs:List (Nat×Nat):=(List.range g.msk.length).flatMap fun c=>((List.range g.msk.length).filter fun d=>g.isPair c d).map fun d=>(c,d)
def atRest (r:Nat):Bool:=g.pairs.any fun x=>g.ends r x.1 x.2 (1 <<< g.thr x.2)
def shortest:Option Nat:=((List.range (2*(g.nt-1))).map (· + 1)).find? g.atRest
def visit (last m:Nat) (op:Bool) (c:Nat):Bool×Bool:=(op&&g.partner last c, !m.testBit (g.ac c).th&&g.prec (g.cl last) (g.cl c))
def next (goal last m:Nat) (op:Bool) (r c:Nat):Bool :=
 if (g.visit last m op c).1 then g.ends r goal (g.cl c) m else (g.visit last m op c).2&&g.begins r goal c (m ||| 1 <<< (g.ac c).th)
def follow (goal:Nat):Nat->Nat->Nat->Bool->Option (List Acc)
 | 0,_,_,_=>some []
 | r+1,last,m,op=>match (List.range g.all.length).find? (g.next goal last m op r) with
   | none=>none
   | some c=>if (g.visit last m op c).1 then (follow goal r c m false).map (g.ac c :: ·) else (follow goal r c (m ||| 1 <<< (g.ac c).th) true).map (g.ac c :: ·)
def starts (r a b:Nat):Bool:=g.delay a b&&g.ends r (g.cl a) (g.cl b) (1 <<< (g.ac b).th)
def first (r:Nat):Option (List Acc):=match ((List.range g.all.length).flatMap fun a=>(List.range g.all.length).map fun b=>(a,b)).find? fun x=>g.starts r x.1 x.2 with
 | none=>none
 | some x=>(g.follow (g.cl x.1) r x.2 (1 <<< (g.ac x.2).th) false).map fun l=>g.ac x.1::g.ac x.2::l
def cycle:Option (List Acc):=g.shortest.bind g.first
def delays:List (Acc×Acc):=((List.range g.all.length).flatMap fun a=>((List.range g.all.length).filter fun b=>g.delay a b).map fun b=>(g.ac a,g.ac b))
end Gr
def maskS (f:Step->Bool) (l:List Step):Nat:=(l.zipIdx).foldl (fun m q=>if f q.1 then m ||| 1 <<< q.2 else m) 0
def reach0 (l:List Step):List Nat:=l.map fun x=>maskS (fun y=>decide (x.to=y.fr)) l
def reachS (k:Nat) (r:List Nat):List Nat:=r.map fun m=>if m.testBit k then m ||| r.getD k 0 else m
def reachN (inner:Step->Bool) (l:List Step) (i:Nat):List Nat:=((l.zipIdx).take i).foldl (fun r q=>if inner q.1 then reachS q.2 r else r) (reach0 l)
def reachM (inner:Step->Bool) (l:List Step):List Nat:=reachN inner l l.length++List.replicate (64-l.length) 0
def innerM (s:Step):Bool:=decide (s.kind=1)||(decide (s.kind=2)||(decide (s.kind=3) && !s.release))
def accsC (t i:Nat) (s:Step) (l:List Int):List Acc:=l.flatMap fun c=>(if c∈readsM s then [⟨t,i,c.toNat,false⟩] else [])++(if c∈writesM s then [⟨t,i,c.toNat,true⟩] else [])
def accsS (p:Prog) (t i:Nat) (s:Step):List Acc :=
 if s.kind=6\/s.kind=7 then [⟨t,i,p.cells.length+s.target.toNat,true⟩] else accsC t i s (ofM p (-1))
def accsT (p:Prog) (t:Nat) (l:List Step) (i:Nat):List Acc:=(l.take i).zipIdx.flatMap fun q=>accsS p t q.2 q.1
def accsN (p:Prog) (k:Nat):List Acc:=(p.threads.take k).zipIdx.flatMap fun q=>accsT p q.2 q.1.steps q.1.steps.length
def accsM (p:Prog):List Acc:=accsN p p.threads.length
def Prog.stepAt (p:Prog) (t i:Nat):Step:=((p.threads.getD t default).steps).getD i default
def clsM (p:Prog) (a:Acc):Nat:=a.th*(2*(p.cells.length+p.threads.length))+2*a.ce+if (a.wr&&decide (a.ce<p.cells.length))||decide ((p.stepAt a.th a.st).kind=7) then 1 else 0
def grM (p:Prog) (model:Int):Gr where
 nc:=p.cells.length
 nt:=p.threads.length
 all:=accsM p
 cls:=(accsM p).map (clsM p)
 msk:=(List.range (p.threads.length*(2*(p.cells.length+p.threads.length)))).map fun c=>(accsM p).foldl (fun m a=>if clsM p a=c then m ||| 1 <<< a.st else m) 0
 ld:=p.threads.map fun x=>reachM (fun _=>true) x.steps
 qk:=p.threads.map fun x=>reachM innerM x.steps
 ear a:=a.wr&&decide ((p.stepAt a.th a.st).kind=3)
 lat a:=lateM model (p.stepAt a.th a.st).kind (p.stepAt a.th a.st).release a.wr
def validB (p:Prog):Bool:=decide ((validM p).1=0)
def robM (p:Prog) (model:Int):Bool:=validB p&&(grM p model).shortest.isNone
def cycleM (p:Prog) (model:Int):Option (List Acc):=if validB p then (grM p model).cycle else none
def delaysM (p:Prog) (model:Int):List (Acc×Acc):=if validB p then (grM p model).delays else []
def accessesM (p:Prog):List Acc:=if validB p then accsM p else []
end Rg
end
section
namespace Rg
open Go
theorem bit_one (k j:Nat):(1 <<< k).testBit j=decide (k=j):=by rw [Nat.one_shiftLeft,Nat.testBit_two_pow]
theorem fold_bits {α:Type} (P:α->Bool) (k:α->Nat) (j:Nat) : ∀ (l:List α) (m:Nat),(l.foldl (fun m q=>if P q then m ||| 1 <<< k q else m) m).testBit j=(m.testBit j||l.any fun q=>P q&&decide (k q=j))
 | [],m=>by simp
 | x::l,m=>by
   rw [List.foldl_cons,fold_bits P k j l,List.any_cons]
   cases h:P x
   ·simp
   ·rw [if_pos rfl,Nat.testBit_or,bit_one]; simp [Bool.or_assoc]
theorem ne_zero_bit {m:Nat}:m≠0 <-> ∃ j,m.testBit j=true:=by
 constructor
 ·intro h; exact Nat.exists_testBit_of_ne_zero h
 ·rintro ⟨j,hj⟩ rfl; simp at hj
theorem meets_iff {a b:Nat} {r:List Nat}:meetsM a b r=true <-> ∃ i j,i<64/\a.testBit i=true/\(r.getD i 0).testBit j=true/\b.testBit j=true:=by
 simp only [meetsM,List.any_eq_true,List.mem_range,Bool.and_eq_true,bne_iff_ne]
 constructor
 ·rintro ⟨i,hi,ha,hb⟩
  obtain ⟨j,hj⟩:=ne_zero_bit.1 hb
  rw [Nat.testBit_and,Bool.and_eq_true] at hj
  exact ⟨i,j,hi,ha,hj.1,hj.2⟩
 ·rintro ⟨i,j,hi,ha,h1,h2⟩
  exact ⟨i,hi,ha,ne_zero_bit.2 ⟨j,by rw [Nat.testBit_and,h1,h2]; rfl⟩⟩
def subB (a b:Nat):Prop := ∀ j,a.testBit j=true->b.testBit j=true
theorem subB.ne {a b:Nat} (h:subB a b) (ha:a≠0):b≠0:=by
 obtain ⟨j,hj⟩:=ne_zero_bit.1 ha
 exact ne_zero_bit.2 ⟨j,h j hj⟩
theorem meets_mono {a a' b b' : Nat} {r r' : List Nat} (ha:subB a a') (hb:subB b b') (hr : ∀ i,a.testBit i=true->subB (r.getD i 0) (r'.getD i 0)) (h:meetsM a b r=true):meetsM a' b' r' = true:=by
 obtain ⟨i,j,hi,h1,h2,h3⟩:=meets_iff.1 h
 exact meets_iff.2 ⟨i,j,hi,ha i h1,hr i h1 j h2,hb j h3⟩
namespace Gr
variable {g:Gr}
theorem maskF_bit (f:Acc->Bool) (c i j:Nat):(g.maskF f c i).testBit j=true <-> ∃ q∈(g.all.zip g.cls).take i,f q.1=true/\q.2=c/\q.1.st=j:=by
 rw [maskF,fold_bits (fun q:Acc×Nat=>f q.1&&decide (q.2=c)) (fun q=>q.1.st)]
 simp only [Nat.zero_testBit,Bool.false_or,List.any_eq_true,Bool.and_eq_true,decide_eq_true_eq]
 constructor
 ·rintro ⟨q,h1,⟨h2,h3⟩,h4⟩; exact ⟨q,h1,h2,h3,h4⟩
 ·rintro ⟨q,h1,h2,h3,h4⟩; exact ⟨q,h1,⟨h2,h3⟩,h4⟩
theorem mem_pairs {c d:Nat}:(c,d)∈g.pairs<->c<g.msk.length/\d<g.msk.length/\g.isPair c d=true:=by
 simp only [pairs,List.mem_flatMap,List.mem_range,List.mem_map,List.mem_filter,Prod.mk.injEq]
 constructor
 ·rintro ⟨c',h1,d',⟨h2,h3⟩,rfl,rfl⟩; exact ⟨h1,h2,h3⟩
 ·rintro ⟨h1,h2,h3⟩; exact ⟨c,h1,d,⟨h2,h3⟩,rfl,rfl⟩
theorem isPair_iff {c d:Nat}:g.isPair c d=true<->g.eaM c≠0/\g.laM d≠0/\g.thr c=g.thr d/\c / 2≠d / 2/\meetsM (g.eaM c) (g.laM d) (g.qk.getD (g.thr c) [])=true:=by
 simp only [isPair,Bool.and_eq_true,decide_eq_true_eq]
theorem shortest_none:g.shortest=none <-> ∀ r,1<=r->r<=2*(g.nt-1)->g.atRest r=false:=by
 simp only [shortest,List.find?_eq_none,List.mem_map,List.mem_range]
 constructor
 ·intro h r h1 h2
  have:=h r ⟨r-1,by omega,by omega⟩
  simpa using this
 ·rintro h x ⟨a,ha,rfl⟩
  rw [h _ (by omega) (by omega)]; simp
theorem atRest_iff {r:Nat}:g.atRest r=true <-> ∃ c d,c<g.msk.length/\d<g.msk.length/\g.isPair c d=true/\g.ends r c d (1 <<< g.thr d)=true:=by
 simp only [atRest,List.any_eq_true]
 constructor
 ·rintro ⟨⟨c,d⟩,h1,h2⟩
  obtain ⟨a,b,e⟩:=mem_pairs.1 h1
  exact ⟨c,d,a,b,e,h2⟩
 ·rintro ⟨c,d,a,b,e,h2⟩; exact ⟨(c,d),mem_pairs.2 ⟨a,b,e⟩,h2⟩
theorem ac_mem {i:Nat} (h:i<g.all.length):g.ac i∈g.all:=by
 unfold ac
 rw [List.getD_eq_getElem?_getD,List.getElem?_eq_getElem h]; exact List.getElem_mem h
theorem delay_iff {a b:Nat}:g.delay a b=true<->(g.ac a).th=(g.ac b).th/\(g.ac a).ce≠(g.ac b).ce/\(g.qkAt (g.ac a).th (g.ac a).st).testBit (g.ac b).st=true/\g.ear (g.ac a)=true/\g.lat (g.ac b)=true:=by
 simp only [delay,Bool.and_eq_true,decide_eq_true_eq]
end Gr
end Rg
end
section
namespace Rg
open Go
theorem u_bv {x:Nat} (hx:x<2^64):(BitVec.ofInt 64 (x:Int)).toNat=x:=by simp [BitVec.toNat_ofInt]; omega
theorem u_wrap {x:Nat} (hx:x<2^64):IntKind.u64.wrap (x:Int)=(x:Int):=by
 unfold IntKind.wrap
 simp [IntKind.bits,IntKind.signed]
 omega
theorem u_or {a b:Nat} (ha:a<2^64) (hb:b<2^64):IntKind.u64.wrap ((BitVec.ofInt IntKind.u64.bits (a:Int) ||| BitVec.ofInt IntKind.u64.bits (b:Int)).toNat:Int)=((a ||| b:Nat):Int):=by
 show IntKind.u64.wrap ((BitVec.ofInt 64 (a:Int) ||| BitVec.ofInt 64 (b:Int)).toNat:Int)=_
 rw [BitVec.toNat_or,u_bv ha,u_bv hb,u_wrap (Nat.or_lt_two_pow ha hb)]
theorem u_shl {i:Nat} (h:i<64):(if (i:Int)<0 then none else some (T.int .u64 (IntKind.u64.wrap (1*2^min i 64))))=some (T.int .u64 ((1 <<< i:Nat):Int)):=by
 rw [if_neg (by omega),Nat.min_eq_left (by omega)]
 have e:(1*2^i:Int)=((1 <<< i:Nat):Int):=by rw [Nat.one_shiftLeft]; push_cast; omega
 rw [e,u_wrap (by rw [Nat.one_shiftLeft]; exact Nat.pow_lt_pow_right (by omega) h)]
theorem one_lt {i:Nat} (h:i<64):1 <<< i<2^64:=by rw [Nat.one_shiftLeft]; exact Nat.pow_lt_pow_right (by omega) h
def arr (l:List Nat):List V:=l.map fun x:Nat => .t (.int .u64 x)
theorem arr_len (l:List Nat):(arr l).length=l.length:=by simp [arr]
theorem arr_at {l:List Nat} {i x:Nat} (h:l[i]? = some x):List.take 1 (List.drop i (arr l))=[.t (.int .u64 x)]:=take1 _ h
theorem arr_wr {l:List Nat} {i:Nat} (h:i<l.length) (x:Nat):List.take i (arr l)++[.t (.int .u64 x)]++List.drop (i+1) (arr l)=arr (l.set i x):=by
 rw [List.set_eq_take_append_cons_drop,if_pos h]
 simp [arr]
theorem arr_toT (h:Nat->Option O) (d:Nat) (l:List Nat):(arr l).mapM (toT h d)=some (l.map fun x:Nat=>T.int .u64 x):=by
 refine mapM_some_of _ _ _ (fun i a ha => ?_) (by simp [arr])
 simp only [arr,List.getElem?_map,Option.map_eq_some_iff] at ha ⊢
 obtain ⟨x,hx,rfl⟩:=ha
 exact ⟨.int .u64 x,⟨x,hx,rfl⟩,by cases d <;> rfl⟩
def IsS (g:Nat) (P:Step->Bool):Prop := ∀ s:Step,Den Γ G g [(.agg [.t (ti (s).kind), .t (ti (s).fr), .t (ti (s).to), .t (ti ((s).guard).op), .t (ti ((s).guard).w), .t (ti ((s).guard).n), .t (.sl (((s).guard).kids.map Expr.enc)), .t (.sl ((s).set.map Assign.enc)), .t (tb (s).release), .t (ti (s).target), .t (ti (s).module)])]=some (vb (P s))
theorem build1_den:IsS 312 (fun _=>true):=by
 intro s
 (refine den_ofY Γ312 rfl ?_; dsimp only [f312])
 simp -dsimp -implicitDefEqProofs only [go_sem,seval]
theorem build2_den:IsS 313 innerM:=by
 intro s
 (refine den_ofY Γ313 rfl ?_; dsimp only [f313])
 simp -dsimp -implicitDefEqProofs only [go_sem,seval]
 repeat' (refine csplit (fun h => ?_) (fun h => ?_) <;> (try simp only [bools] at h) <;> (try simp -dsimp -implicitDefEqProofs only [go_sem,seval, *]))
 all_goals (simp_all [innerM])
def maskSN (f:Step->Bool) (l:List Step) (j:Nat):Nat:=((l.zipIdx).take j).foldl (fun m q=>if f q.1 then m ||| 1 <<< q.2 else m) 0
theorem zipI_get {α:Type} {l:List α} {i:Nat} {x:α} (h:l[i]? = some x):l.zipIdx[i]? = some (x,i):=by
 rw [List.getElem?_zipIdx,h]; simp
theorem maskSN_succ {f:Step->Bool} {l:List Step} {j:Nat} {s:Step} (h:l[j]? = some s):maskSN f l (j+1)=if f s then maskSN f l j ||| 1 <<< j else maskSN f l j:=by
 unfold maskSN
 rw [take_succ_of (zipI_get h),List.foldl_append]; rfl
theorem maskSN_len (f:Step->Bool) (l:List Step):maskSN f l l.length=maskS f l:=by
 unfold maskSN maskS
 rw [List.take_of_length_le (by simp)]
theorem maskSN_lt {f:Step->Bool} {l:List Step} (hl:l.length<=64) : ∀ j,j<=l.length->maskSN f l j<2^64
 | 0,_=>by simp [maskSN]
 | j+1,h=>by
   obtain ⟨s,hs,_⟩:=get_of (show j<l.length by omega)
   rw [maskSN_succ hs]
   have:=maskSN_lt (f:=f) hl j (by omega)
   split
   ·exact Nat.or_lt_two_pow this (one_lt (by omega))
   ·exact this
def pad (r:List Nat):List Nat:=r++List.replicate (64-r.length) 0
theorem pad_len {r:List Nat} (h:r.length<=64):(pad r).length=64:=by simp [pad]; omega
theorem pad_at {r:List Nat} {i x:Nat} (h:r[i]? = some x):(pad r)[i]? = some x:=by
 have:=(List.getElem?_eq_some_iff.1 h).1
 rw [pad,List.getElem?_append_left this]; exact h
theorem pad_set {r:List Nat} {i x:Nat} (h:i<r.length):(pad r).set i x=pad (r.set i x):=by
 simp only [pad,List.length_set]
 rw [List.set_append_left _ _ h]
theorem pad_take {r:List Nat} {i x:Nat} (hr:r.length<=64) (h:r[i]? = some x):(pad (r.take i)).set i x=pad (r.take (i+1)):=by
 have hi:=(List.getElem?_eq_some_iff.1 h).1
 rw [take_succ_of h]
 have hl:(r.take i).length=i:=by simp; omega
 simp only [pad,List.length_append,hl,List.length_cons,List.length_nil]
 rw [List.set_append_right _ _ (by omega),hl,Nat.sub_self,show 64-i=(64-(i+1))+1 by omega,List.replicate_succ]
 simp
theorem pad_zero {r:List Nat} {i:Nat} (hr:r.length<=64) (h:i<r.length):(pad (r.take i))[i]? = some 0:=by
 have hl:(r.take i).length=i:=by simp; omega
 simp only [pad]
 rw [List.getElem?_append_right (by omega),hl,Nat.sub_self]
 rw [List.getElem?_replicate,if_pos (by omega)]
theorem set_self {l:List Nat} {i x:Nat} (h:l[i]? = some x):l.set i x=l:=by
 obtain ⟨hi,rfl⟩:=List.getElem?_eq_some_iff.1 h
 exact List.set_getElem_self hi
theorem set_at {l:List Nat} {i x y:Nat} (h:l[i]? = some x):(l.set i y)[i]? = some y:=by
 have:=(List.getElem?_eq_some_iff.1 h).1
 simp [this]
theorem reach0_len (l:List Step):(reach0 l).length=l.length:=by simp [reach0]
theorem reachS_len (k:Nat) (r:List Nat):(reachS k r).length=r.length:=by simp [reachS]
theorem reachN_succ {inner:Step->Bool} {l:List Step} {k:Nat} {s:Step} (h:l[k]? = some s):reachN inner l (k+1)=if inner s then reachS k (reachN inner l k) else reachN inner l k:=by
 unfold reachN
 rw [take_succ_of (zipI_get h),List.foldl_append]; rfl
theorem reachN_len (inner:Step->Bool) (l:List Step) : ∀ k,k<=l.length->(reachN inner l k).length=l.length
 | 0,_=>by simp [reachN,reach0]
 | k+1,h=>by
   obtain ⟨s,hs,_⟩:=get_of (show k<l.length by omega)
   rw [reachN_succ hs]
   have:=reachN_len inner l k (by omega)
   split
   ·rw [reachS_len]; exact this
   ·exact this
theorem reachN_lt {inner:Step->Bool} {l:List Step} (hl:l.length<=64) : ∀ k,k<=l.length -> ∀ x∈reachN inner l k,x<2^64
 | 0,_,x,hx=>by
   simp only [reachN,List.take_zero,List.foldl_nil,reach0,List.mem_map] at hx
   obtain ⟨s,_,rfl⟩:=hx
   rw [<- maskSN_len]; exact maskSN_lt hl _ (Nat.le_refl _)
 | k+1,h,x,hx=>by
   obtain ⟨s,hs,_⟩:=get_of (show k<l.length by omega)
   rw [reachN_succ hs] at hx
   have ih:=reachN_lt (inner:=inner) hl k (by omega)
   split at hx
   ·simp only [reachS,List.mem_map] at hx
    obtain ⟨y,hy,rfl⟩:=hx
    split
    ·refine Nat.or_lt_two_pow (ih y hy) ?_
     rw [List.getD_eq_getElem?_getD]
     cases hq:(reachN inner l k)[k]? with
     | none=>simp
     | some q=>exact ih q (List.mem_of_getElem? hq)
    ·exact ih y hy
   ·exact ih x hx
def mixS (k:Nat) (r:List Nat) (i:Nat):List Nat:=(reachS k r).take i++r.drop i
theorem mixS_len {k:Nat} {r:List Nat} {i:Nat} (h:i<=r.length):(mixS k r i).length=r.length:=by simp [mixS,reachS_len]; omega
theorem mixS_at {k:Nat} {r:List Nat} {i x:Nat} (h:r[i]? = some x):(mixS k r i)[i]? = some x:=by
 have hi:=(List.getElem?_eq_some_iff.1 h).1
 have hl:((reachS k r).take i).length=i:=by simp [reachS_len]; omega
 rw [mixS,List.getElem?_append_right (by omega),hl,Nat.sub_self,List.getElem?_drop]; simpa using h
theorem mixS_k {k:Nat} {r:List Nat} {i x:Nat} (hi:i<=r.length) (h:r[k]? = some x):(mixS k r i)[k]? = some x:=by
 have hl:((reachS k r).take i).length=i:=by simp [reachS_len]; omega
 rcases Nat.lt_or_ge k i with h1 | h1
 ·rw [mixS,List.getElem?_append_left (by omega),List.getElem?_take,if_pos h1,reachS,List.getElem?_map,h]
  simp only [Option.map_some,List.getD_eq_getElem?_getD,h,Option.getD_some,Nat.or_self]
  split <;> rfl
 ·rw [mixS,List.getElem?_append_right (by omega),hl,List.getElem?_drop,show i+(k-i)=k by omega]; exact h
theorem mixS_succ {k:Nat} {r:List Nat} {i x y:Nat} (hx:r[i]? = some x) (hy:r[k]? = some y):mixS k r (i+1)=(mixS k r i).set i (if x.testBit k then x ||| y else x):=by
 have hi:=(List.getElem?_eq_some_iff.1 hx).1
 have hl:((reachS k r).take i).length=i:=by simp [reachS_len]; omega
 have he:(reachS k r)[i]? = some (if x.testBit k then x ||| y else x):=by
  simp only [reachS,List.getElem?_map,hx,Option.map_some,List.getD_eq_getElem?_getD,hy,Option.getD_some]
 rw [mixS,take_succ_of he,mixS,List.set_append_right _ _ (by omega),hl,Nat.sub_self,drop_of hx]
 simp
theorem mixS_zero (k:Nat) (r:List Nat):mixS k r 0=r:=by simp [mixS]
theorem mixS_end (k:Nat) (r:List Nat):mixS k r r.length=reachS k r:=by
 simp [mixS,reachS_len]; exact List.take_of_length_le (by simp [reachS_len])
theorem u_bit {a i:Nat} (hi:i<=64):(((a >>> i &&& 1:Nat):Int)=1)=(a.testBit i=true):=by
 rw [Nat.testBit,Nat.and_comm]
 simp only [Nat.one_and_eq_mod_two,bne_iff_ne,ne_eq,eq_iff_iff]
 omega
theorem u_shrlt {a i:Nat} (h:a<2^64):a >>> i<2^64:=Nat.lt_of_le_of_lt (Nat.shiftRight_le _ _) h
set_option maxHeartbeats 2000000
theorem reach_den (g:Nat) (inner:Step->Bool) (hg:IsS g inner) (l:List Step) (hl:l.length<=64):Den Γ G 311 [.t (.sl (l.map Step.enc)), .t (.fn g [] [])]=some (.agg (arr (reachM inner l))):=by
 (refine den_ofY Γ311 rfl ?_; dsimp only [f311])
 simp -dsimp -implicitDefEqProofs only [go_sem,seval]
 have hz : ∀ i,i<=l.length->((reach0 l).take i).length<=64:=fun i hi=>by simp; omega
 refine loopY 2199023223776 l.length (fun i f=>(f 15).v=vi i/\(f 5).v = .lb/\(f 5).box=some (arr (pad ((reach0 l).take i)))) rfl rfl ⟨by simp -dsimp -implicitDefEqProofs only [go_sem,seval],by simp -dsimp -implicitDefEqProofs only [go_sem,seval],by simp -dsimp -implicitDefEqProofs only [go_sem,seval]; rfl⟩ ?_
 rintro i f u kk bb hi ⟨h15,hv,h5⟩
 have hw:=wrapS i (by omega)
 simp -dsimp -implicitDefEqProofs only [go_sem,seval,h15]
 refine csplit (fun h => ?_) (fun h => ?_) <;> (try rw [h]) <;> (try simp only [bools] at h) <;> (try simp -dsimp -implicitDefEqProofs only [go_sem,seval,h15])
 ·obtain ⟨x,hx,_⟩:=get_of ‹i<l.length›
  simp -dsimp -implicitDefEqProofs only [go_sem,seval,h15,hx]
  have hr0:(reach0 l)[i]? = some (maskS (fun y=>decide (x.to=y.fr)) l):=by simp only [reach0,List.getElem?_map,hx,Option.map_some]
  have hzi:=pad_zero (r:=reach0 l) (by rw [reach0_len]; exact hl) (i:=i) (by rw [reach0_len]; assumption)
  have hpl:=pad_len (hz i hi)
  refine loopY 1099507434272 l.length (fun j f=>(f 22).v=vi j/\(f 5).v = .lb/\(f 5).box=some (arr ((pad ((reach0 l).take i)).set i (maskSN (fun y=>decide (x.to=y.fr)) l j)))) rfl rfl ⟨by simp -dsimp -implicitDefEqProofs only [go_sem,seval],by simp -dsimp -implicitDefEqProofs only [go_sem,seval,hv],by simp -dsimp -implicitDefEqProofs only [go_sem,seval,h5]; rw [show maskSN (fun y=>decide (x.to=y.fr)) l 0=0 from rfl,set_self hzi]⟩ ?_
  rintro j f2 u2 kk2 bb2 hj ⟨h22,hv2,h25⟩
  have hw2:=wrapS j (by omega)
  simp -dsimp -implicitDefEqProofs only [go_sem,seval,h22]
  refine csplit (fun h => ?_) (fun h => ?_) <;> (try rw [h]) <;> (try simp only [bools] at h) <;> (try simp -dsimp -implicitDefEqProofs only [go_sem,seval,h22])
  ·obtain ⟨y,hy,_⟩:=get_of ‹j<l.length›
   have hsucc:=maskSN_succ (f:=fun y=>decide (x.to=y.fr)) hy
   simp -dsimp -implicitDefEqProofs only [go_sem,seval,h22,hy]
   refine csplit (fun h => ?_) (fun h => ?_) <;> (try rw [h]) <;> (try simp only [bools] at h) <;> (try simp -dsimp -implicitDefEqProofs only [go_sem,seval,h22])
   ·have hat:=arr_at (set_at (y:=maskSN (fun y=>decide (x.to=y.fr)) l j) hzi)
    have hal:(arr ((pad ((reach0 l).take i)).set i (maskSN (fun y=>decide (x.to=y.fr)) l j))).length=64:=by rw [arr_len,List.length_set,hpl]
    have hs1:=u_shl (i:=j) (by omega)
    have ho:=u_or (maskSN_lt (f:=fun y=>decide (x.to=y.fr)) hl j hj) (one_lt (i:=j) (by omega))
    have hwr:=arr_wr (l:=(pad ((reach0 l).take i)).set i (maskSN (fun y=>decide (x.to=y.fr)) l j)) (i:=i) (by rw [List.length_set,hpl]; omega) (maskSN (fun y=>decide (x.to=y.fr)) l j ||| 1 <<< j)
    rw [List.set_set] at hwr
    rw [if_pos (by simpa using h)] at hsucc
    have hi64:((i:Int)<64)=True:=by simp; omega
    have hi63:(i<=63)=True:=by simp; omega
    have hm1:i*1=i:=by omega
    simp -dsimp -implicitDefEqProofs only [go_sem,seval,h22,h25,hv2,hat,hs1,ho,hal,hi64,hi63,hm1]
    refine ⟨by omega,by simp -dsimp -implicitDefEqProofs only [go_sem,seval,h22,hw2],by simp -dsimp -implicitDefEqProofs only [go_sem,seval,hv2], ?_⟩
    simp -dsimp -implicitDefEqProofs only [go_sem,seval,hsucc]
    exact hwr
   ·refine ⟨by omega,by simp -dsimp -implicitDefEqProofs only [go_sem,seval,h22,hw2],by simp -dsimp -implicitDefEqProofs only [go_sem,seval,hv2], ?_⟩
    rw [if_neg (by simpa using h)] at hsucc
    simp -dsimp -implicitDefEqProofs only [go_sem,seval,h25]
    rw [hsucc]
  ·have:j=l.length:=by omega
   subst this
   rw [maskSN_len,pad_take (by rw [reach0_len]; exact hl) hr0] at h25
   simp -dsimp -implicitDefEqProofs only [go_sem,seval,h15,hw]
   refine ⟨by omega,by simp -dsimp -implicitDefEqProofs only [go_sem,seval,h15,hw],by simp -dsimp -implicitDefEqProofs only [go_sem,seval,hv2],by simp -dsimp -implicitDefEqProofs only [go_sem,seval,h25]⟩
 ·have hil:i=l.length:=by omega
  subst hil
  have e0:(reach0 l).take l.length=reachN inner l 0:=by rw [List.take_of_length_le (by rw [reach0_len]; exact Nat.le_refl _)]; rfl
  rw [e0] at h5
  clear h15 h hi hz hw e0
  refine loopY 18889465922682487839776 l.length (fun k f=>(f 43).v=vi k/\(f 5).v = .lb/\(f 5).box=some (arr (pad (reachN inner l k)))) rfl rfl ⟨by simp -dsimp -implicitDefEqProofs only [go_sem,seval],by simp -dsimp -implicitDefEqProofs only [go_sem,seval,hv],by simp -dsimp -implicitDefEqProofs only [go_sem,seval,h5]⟩ ?_
  rintro k f3 u3 kk3 bb3 hk ⟨h43,hv3,h35⟩
  have hw3:=wrapS k (by omega)
  simp -dsimp -implicitDefEqProofs only [go_sem,seval,h43]
  refine csplit (fun h => ?_) (fun h => ?_) <;> (try rw [h]) <;> (try simp only [bools] at h) <;> (try simp -dsimp -implicitDefEqProofs only [go_sem,seval,h43])
  ·obtain ⟨x,hx,_⟩:=get_of ‹k<l.length›
   have hgx:=hg x
   have hrs:=reachN_succ (inner:=inner) hx
   have hRl:=reachN_len inner l k hk
   have hRb:=reachN_lt (inner:=inner) hl k hk
   simp -dsimp -implicitDefEqProofs only [go_sem,seval,h43,hx,hgx]
   refine csplit (fun h => ?_) (fun h => ?_) <;> (try rw [h]) <;> (try simp only [bools] at h) <;> (try simp -dsimp -implicitDefEqProofs only [go_sem,seval,h43])
   ·refine ⟨by omega,by simp -dsimp -implicitDefEqProofs only [go_sem,seval,h43,hw3],by simp -dsimp -implicitDefEqProofs only [go_sem,seval,hv3], ?_⟩
    rw [if_neg (by simpa using h)] at hrs
    simp -dsimp -implicitDefEqProofs only [go_sem,seval,h35]
    rw [hrs]
   ·rw [if_pos (by simpa using h)] at hrs
    generalize reachN inner l k=R at hRl hRb h35 hrs
    refine loopY 9444714951340780949536 l.length (fun i f=>(f 54).v=vi i/\(f 5).v = .lb/\(f 5).box=some (arr (pad (mixS k R i)))) rfl rfl ⟨by simp -dsimp -implicitDefEqProofs only [go_sem,seval],by simp -dsimp -implicitDefEqProofs only [go_sem,seval,hv3],by simp -dsimp -implicitDefEqProofs only [go_sem,seval,h35]; rw [mixS_zero]⟩ ?_
    rintro i f4 u4 kk4 bb4 hi ⟨h54,hv4,h45⟩
    have hw4:=wrapS i (by omega)
    simp -dsimp -implicitDefEqProofs only [go_sem,seval,h54]
    refine csplit (fun h => ?_) (fun h => ?_) <;> (try rw [h]) <;> (try simp only [bools] at h) <;> (try simp -dsimp -implicitDefEqProofs only [go_sem,seval,h54])
    ·obtain ⟨a,ha,ham⟩:=get_of (show i<R.length by omega)
     obtain ⟨b,hb,hbm⟩:=get_of (show k<R.length by omega)
     have hsu:=mixS_succ ha hb
     have hml:=mixS_len (k:=k) (r:=R) (i:=i) (by omega)
     have hat:=arr_at (pad_at (mixS_at (k:=k) ha))
     have hbt:=arr_at (pad_at (mixS_k (i:=i) (by omega) hb))
     have hal:(arr (pad (mixS k R i))).length=64:=by rw [arr_len,pad_len (by omega)]
     have hi64:((i:Int)<64)=True:=by simp; omega
     have hk64:((k:Int)<64)=True:=by simp; omega
     have hi63:(i<=63)=True:=by simp; omega
     have hk63:(k<=63)=True:=by simp; omega
     have hm1:i*1=i:=by omega
     have hk1:k*1=k:=by omega
     have hs:=u_shr a k (by omega)
     have h1:=u_and1 (u_shrlt (i:=k) (hRb a ham))
     have hb1:=u_bit (a:=a) (i:=k) (by omega)
     have ho:=u_or (hRb a ham) (hRb b hbm)
     simp -dsimp -implicitDefEqProofs only [go_sem,seval,h54,hv4,h45,hat,hal,hi64,hi63,hm1,h43,hs,h1,hb1]
     refine csplit (fun h => ?_) (fun h => ?_) <;> (try rw [h]) <;> (try simp only [bools] at h) <;> (try simp -dsimp -implicitDefEqProofs only [go_sem,seval,h54])
     ·rw [if_pos (by simpa using h)] at hsu
      have hwr:=arr_wr (l:=pad (mixS k R i)) (i:=i) (by rw [pad_len (by omega)]; omega) (a ||| b)
      rw [pad_set (by omega)] at hwr
      simp -dsimp -implicitDefEqProofs only [go_sem,seval,h54,hv4,h45,hat,hbt,hal,hi64,hi63,hm1,hk64,hk63,hk1,h43,ho]
      refine ⟨by omega,by simp -dsimp -implicitDefEqProofs only [go_sem,seval,h54,hw4],by simp -dsimp -implicitDefEqProofs only [go_sem,seval,hv4], ?_⟩
      simp -dsimp -implicitDefEqProofs only [go_sem,seval,hsu]
      exact hwr
     ·rw [if_neg (by simpa using h)] at hsu
      refine ⟨by omega,by simp -dsimp -implicitDefEqProofs only [go_sem,seval,h54,hw4],by simp -dsimp -implicitDefEqProofs only [go_sem,seval,hv4], ?_⟩
      simp -dsimp -implicitDefEqProofs only [go_sem,seval,h45]
      rw [hsu,set_self (mixS_at ha)]
    ·have hil:i=R.length:=by omega
     subst hil
     rw [mixS_end, <- hrs] at h45
     simp -dsimp -implicitDefEqProofs only [go_sem,seval,h43]
     exact ⟨by omega,by simp -dsimp -implicitDefEqProofs only [go_sem,seval,hw3],by simp -dsimp -implicitDefEqProofs only [go_sem,seval,hv4],by simp -dsimp -implicitDefEqProofs only [go_sem,seval,h45]⟩
  ·have hkl:k=l.length:=by omega
   subst hkl
   have e:pad (reachN inner l l.length)=reachM inner l:=by rw [pad,reachN_len _ _ _ (Nat.le_refl _)]; rfl
   rw [e] at h35
   have hal:(arr (reachM inner l)).length=64:=by rw [<- e,arr_len,pad_len (by rw [reachN_len _ _ _ (Nat.le_refl _)]; exact hl)]
   have htk:List.take 64 (arr (reachM inner l))=arr (reachM inner l):=List.take_of_length_le (by omega)
   have htt:=arr_toT (fun _=>none) 1000 (reachM inner l)
   simp -dsimp -implicitDefEqProofs only [go_sem,seval,hv3,h35,hal,htk,htt]
   simp [arr]
theorem reachM_len (inner:Step->Bool) {l:List Step} (hl:l.length<=64):(reachM inner l).length=64:=by
 rw [reachM,List.length_append,reachN_len _ _ _ (Nat.le_refl _),List.length_replicate]; omega
theorem reachM_lt (inner:Step->Bool) {l:List Step} (hl:l.length<=64) : ∀ x∈reachM inner l,x<2^64:=by
 intro x hx
 rcases List.mem_append.1 hx with h | h
 ·exact reachN_lt hl _ (Nat.le_refl _) x h
 ·rw [(List.mem_replicate.1 h).2]; omega
end Rg
end
