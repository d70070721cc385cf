/- Part of the proof of the laws of the package relyguardlaw12: an abstract machine for the program's functions, what they compute, and that the machine is the program's. No condition. (H14a H14b H15a H15b H15c H15d H15e H15f H15g H20a H20b H20c H20d) -/
import Derived.Test.YtadooimmjnipcaaGreatDoorPartBA
set_option linter.unusedSimpArgs false
set_option linter.unusedVariables false
section
namespace Rg
open Go
theorem intsOf_rowsI : ∀ l:List Int,intsOf (rowsI l)=some l
 | []=>rfl
 | a::l=>by
  have:rowsI (a::l)=[.t (.int .i64 a)]::rowsI l:=rfl
  rw [this,intsOf,intsOf_rowsI l]; rfl
theorem ofInts_rowsI (l:List Int):ofInts l=rowsI l:=by simp [ofInts,rowsI]
def sortedM (l:List Int):List Int:=Go.Lib.compact (l.mergeSort fun x y=>decide (x<=y))
theorem compact_mem (l:List Int) (x:Int):x∈Go.Lib.compact l<->x∈l:=by
 unfold Go.Lib.compact Go.Lib.compactUpTo
 simp only [List.mem_map,List.mem_filter,List.mem_range]
 constructor
 ·rintro ⟨j,⟨hj,_⟩,rfl⟩
  simp [hj]
 ·intro hx
  obtain ⟨i,hi⟩:=List.getElem?_of_mem hx
  have key : ∀ i:Nat,l[i]? = some x -> ∃ a,(a<l.length/\Go.Lib.keeps l.toArray a=true)/\l.toArray[a]! = x:=by
   intro i
   induction i with
   | zero =>
    intro h
    obtain ⟨h1,h2⟩:=List.getElem?_eq_some_iff.1 h
    exact ⟨0,⟨h1,by simp [Go.Lib.keeps]⟩,by simp [h1,h2]⟩
   | succ i ih =>
    intro h
    obtain ⟨h1,h2⟩:=List.getElem?_eq_some_iff.1 h
    by_cases he:l[i]? = some x
    ·exact ih he
    ·refine ⟨i+1,⟨h1, ?_⟩,by simp [h1,h2]⟩
     have hi:i<l.length:=by omega
     have : ¬ l[i+1]=l[i]:=by
      intro hh
      rw [List.getElem?_eq_getElem hi] at he
      exact he (by rw [<- hh,h2])
     simp [Go.Lib.keeps,h1,hi,this]
  exact key i hi
theorem sortedM_mem (l:List Int) (x:Int):x∈sortedM l<->x∈l:=by
 rw [sortedM,compact_mem,List.mem_mergeSort]
theorem compactL (l:List Int):(Go.Lib.compact l).length<=l.length:=by
 unfold Go.Lib.compact Go.Lib.compactUpTo
 rw [List.length_map]
 exact Nat.le_trans (List.length_filter_le _ _) (by simp)
theorem sortedM_len (l:List Int):(sortedM l).length<=l.length:=by
 have:=compactL (l.mergeSort fun x y=>decide (x<=y))
 rwa [List.length_mergeSort] at this
def Shown (h:Nat->Option O) (r:V) (l:List Int):Prop:=(r = .t .nils/\l=[]) \/ ∃ k m,r = .ms k 0 l.length/\h k=some (.rows 1 (rowsI (l++m)) false)
theorem sorted_den (H:Nat->Option O) (x n:Nat) (v:V) (l:List Int) (ho:OwnB H x v 1 (rowsI l)) (hl:l.length<2^40) :
 ∃ r h' n',DenR Γ G 57 [v] H n=some (r,h',n')/\Shown h' r (sortedM l):=by
 (refine denR_ofY Γ57 rfl ?_; dsimp only [f57])
 rcases ho with ⟨rfl,hr⟩ | ⟨k,rfl,hk,hh⟩
 ·have hl0:l=[]:=by
   have:=congrArg List.length hr
   rw [rowsI_len] at this
   exact List.eq_nil_of_length_eq_zero this
  subst hl0
  have a1 : ∀ n,DenR Γ G 74 [.t .nils] H n=some (.tup [],H,n):=fun n=>denR_ext Γ74 rfl rfl rfl
  have a2 : ∀ n,DenR Γ G 75 [.t .nils] H n=some (.t .nils,H,n):=fun n=>denR_ext Γ75 rfl rfl rfl
  simp -dsimp -implicitDefEqProofs only [go_sem,seval,a1,a2]
  exact .inl ⟨rfl,by rw [sortedM,List.mergeSort_nil]; rfl⟩
 ·rw [rowsI_len]
  have s1:(l.mergeSort fun x y=>decide (x<=y)).length=l.length:=List.length_mergeSort _
  have a1 : ∀ n,DenR Γ G 74 [.ms k 0 l.length] H n=some (.tup [],upd H k (some (.rows 1 (rowsI (l.mergeSort fun x y=>decide (x<=y))) false)),n):=fun n=>denR_ext Γ74 rfl rfl (by
   simp only [extSem,hh,intsOf_rowsI,Option.bind_some,ofInts_rowsI]
   rw [if_pos (by exact ⟨trivial,by omega⟩)])
  have a2 : ∀ n,DenR Γ G 75 [.ms k 0 l.length] (upd H k (some (.rows 1 (rowsI (l.mergeSort fun x y=>decide (x<=y))) false))) n=some (.ms k 0 (sortedM l).length,upd (upd H k (some (.rows 1 (rowsI (l.mergeSort fun x y=>decide (x<=y))) false))) k (some (.rows 1 (rowsI (sortedM l++List.replicate (l.length-(sortedM l).length) 0)) false)),n):=fun n=>denR_ext Γ75 rfl rfl (by
   simp only [extSem,upd_same,intsOf_rowsI,Option.bind_some,ofInts_rowsI]
   rw [if_pos ⟨s1,by omega⟩,s1]; rfl)
  simp -dsimp -implicitDefEqProofs only [go_sem,seval,a1,a2]
  exact .inr ⟨k,_,rfl,upd_same _ _ _⟩
def writesM (s:Step):List Int:=sortedM (s.set.map Assign.cell)
theorem writes_den (s:Step) (hs:s.set.length<2^31):Den Γ G 28 [(.agg [.t (ti (s).kind), .t (ti (s).fr), .t (ti (s).to), .t (ti ((s).guard).op), .t (ti ((s).guard).w), .t (ti ((s).guard).n), .t (.sl (((s).guard).kids.map Expr.enc)), .t (.sl ((s).set.map Assign.enc)), .t (tb (s).release), .t (ti (s).target), .t (ti (s).module)])]=some (.t (ints (writesM s))):=by
 (refine den_ofY Γ28 rfl ?_; dsimp only [f28])
 simp -dsimp -implicitDefEqProofs only [go_sem,seval]
 refine loopYH 523816 s.set.length (fun i f h x=>(f 9).v=vi i/\OwnB h x (f 3).v 1 (rowsI ((s.set.map Assign.cell).take i))) rfl ⟨by simp -dsimp -implicitDefEqProofs only [go_sem,seval], .inl ⟨by simp -dsimp -implicitDefEqProofs only [go_sem,seval],rfl⟩⟩ ?_
 rintro i f u H x bs hi ⟨h9,hown⟩
 have hw:=wrapS i (by omega)
 simp -dsimp -implicitDefEqProofs only [go_sem,seval,h9]
 refine csplit (fun h => ?_) (fun h => ?_) <;> (try rw [h]) <;> (try simp only [bools] at h) <;> (try simp -dsimp -implicitDefEqProofs only [go_sem,seval,h9])
 ·obtain ⟨a,ha,_⟩:=get_of ‹i<s.set.length›
  have ha' : (s.set.map Assign.cell)[i]? = some a.cell:=by simp [ha]
  have v1:=hown.valOf
  have v2:=hown.r2
  have v3:=hown.r3
  simp -dsimp -implicitDefEqProofs only [go_sem,seval,h9,ha,v1,v2,v3]
  refine putA_app1 (hown.upd (by omega) _) (by omega) (by rw [rowsI_len]; simp; omega) (by decide) rfl (rowsI_all _) ?_
  intro v hp hO hoffs hkeep
  have w1:=hO.valOf
  rw [show rowsI ((s.set.map Assign.cell).take i)++[[V.t (ti a.cell)]]=rowsI ((s.set.map Assign.cell).take (i+1)) from by rw [take_succ_of ha',rowsI_app]] at hO
  simp -dsimp -implicitDefEqProofs only [go_sem,seval,w1,h9]
  exact ⟨by omega,by simp -dsimp -implicitDefEqProofs only [go_sem,seval,hw],by simp -dsimp -implicitDefEqProofs only [go_sem,seval]; exact hO.le (by omega)⟩
 ·have:i=s.set.length:=by omega
  subst this
  rw [show (s.set.map Assign.cell).take s.set.length=s.set.map Assign.cell from List.take_of_length_le (by simp)] at hown
  have v1:=hown.valOf
  simp -dsimp -implicitDefEqProofs only [go_sem,seval,v1]
  refine rawK_of (sorted_den H x _ _ _ hown (by simp; omega)) ?_
  rintro r h' n' hsh
  rcases hsh with ⟨rfl,he⟩ | ⟨k,m,rfl,hk⟩
  ·simp -dsimp -implicitDefEqProofs only [go_sem,seval]
   rw [writesM,he]; rfl
  ·have q1:List.take (sortedM (s.set.map Assign.cell)).length (rowsI (sortedM (s.set.map Assign.cell)++m))=rowsI (sortedM (s.set.map Assign.cell)):=by simp [rowsI]
   have q2:(rowsI (sortedM (s.set.map Assign.cell)++m)).length=(sortedM (s.set.map Assign.cell)).length+m.length:=by rw [rowsI_len,List.length_append]
   simp -dsimp -implicitDefEqProofs only [go_sem,seval,hk,q1,q2,Nat.le_add_right,rowsI_toT]
   rfl
end Rg
end
section
namespace Rg
open Go
end Rg
end
section
namespace Rg
open Go
theorem marked_mem (l:List Bool) (m:Nat) (n:Nat):(n:Int)∈marked l m<->n<m/\l.getD n false=true:=by
 unfold marked
 simp only [List.mem_map,List.mem_filter,List.mem_range]
 constructor
 ·rintro ⟨j,⟨hj,hg⟩,he⟩
  have:j=n:=by omega
  subst this
  exact ⟨hj,hg⟩
 ·rintro ⟨hj,hg⟩
  exact ⟨n,⟨hj,hg⟩,rfl⟩
theorem fold_mark_keep (op:Int) (n:Nat) : ∀ (l:List Expr) (s:List Bool),s.getD n false=true->(l.foldl (markS op) s).getD n false=true
 | [],s,h=>h
 | x::l,s,h=>by
  rw [List.foldl_cons]
  refine fold_mark_keep op n l _ ?_
  unfold markS
  split
  ·rw [List.getD_eq_getElem?_getD,List.getElem?_set]
   split
   ·split
    ·rfl
    ·rename_i he hlt
     subst he
     rw [List.getD_eq_getElem?_getD,List.getElem?_eq_none (by omega)] at h
     simp at h
   ·rw [<- List.getD_eq_getElem?_getD]; exact h
  ·exact h
theorem fold_mark (op:Int) {n:Nat} : ∀ (l:List Expr) (s:List Bool),n<s.length->(∃ x∈l,x.op=op/\x.n.toNat=n)->(l.foldl (markS op) s).getD n false=true
 | [],s,_,h=>by obtain ⟨x,hx,_⟩:=h; simp at hx
 | y::l,s,hn,h=>by
  rw [List.foldl_cons]
  by_cases hy:y.op=op/\y.n.toNat=n
  ·refine fold_mark_keep op n l _ ?_
   rw [markS,if_pos hy.1,List.getD_eq_getElem?_getD,List.getElem?_set,if_pos hy.2,if_pos (by omega)]; rfl
  ·refine fold_mark op l _ (by rw [markS_len]; exact hn) ?_
   obtain ⟨x,hx,h1⟩:=h
   rcases List.mem_cons.1 hx with rfl | hx
   ·exact absurd h1 hy
   ·exact ⟨x,hx,h1⟩
theorem sup_lv {e x:Expr} (hf:e.formed=true) (hx:x∈e.lv) (ho:x.op=2) (h0:0<=x.n) (h1:x.n<32):x.n∈e.sup 2:=by
 rw [Expr.sup,if_pos hf]
 have:=(marked_mem (e.occ 2) 32 x.n.toNat).2 ⟨by omega,fold_mark 2 e.lv _ (by simp; omega) ⟨x,hx,ho,rfl⟩⟩
 rwa [show ((x.n.toNat:Nat):Int)=x.n by omega] at this
def Agree (l:List Int) (m m' : List Int):Prop := ∀ n:Nat,(n:Int)∈l->m[n]? = m'[n]?
theorem eval_agree {cells:List Cell} {e:Expr} (he:e.valid cells false=true) {m m' o o' : List Int} (h:Agree (e.sup 2) m m'):e.eval o m=e.eval o' m' := by
 have hv:=he
 simp only [Expr.valid,Bool.and_eq_true] at hv
 rw [Expr.eval,Expr.eval,if_pos hv.1,if_pos hv.1]
 have:=mapL_ev (f:=fun x=>x) (o1:=o) (o2:=o') (m1:=m) (m2:=m') (formed_deep hv.1) (fun x hx=>by
  obtain ⟨hk,hn,ho⟩:=valid_lv he hx
  rcases ho with ho | ⟨ho,h0,hlt,_⟩
  ·simp [Expr.ev_eq,ho]
  ·have hm:=sup_lv hv.1 hx ho h0 hlt
   have hg:=h x.n.toNat (by rw [show ((x.n.toNat:Nat):Int)=x.n by omega]; exact hm)
   have:atI m x.n=atI m' x.n:=by simp [atI,List.getD_eq_getElem?_getD,hg]
   simp [Expr.ev_eq,ho,this])
 rwa [mapL_same] at this
def readsM (s:Step):List Int:=sortedM (s.guard.sup 2++s.set.flatMap fun a=>a.to.sup 2)
theorem write_congr {view view' : List Int} : ∀ {set:List Assign} {mem:List Int},(∀ a∈set,a.to.eval view view=a.to.eval view' view')->writeM mem view set=writeM mem view' set
 | [],mem,_=>rfl
 | a::r,mem,h=>by
  have e : ∀ v,writeM mem v (a::r)=writeM (mem.set a.cell.toNat (a.to.eval v v)) v r:=fun v=>rfl
  rw [e,e,h a (by simp),write_congr fun b hb=>h b (by simp [hb])]
theorem set_swap {view view' : List Int} {i:Nat} {v:Int} : ∀ {set:List Assign} {mem:List Int},(∀ a∈set,a.cell.toNat≠i)->(writeM mem view set).set i v=writeM (mem.set i v) view set
 | [],mem,_=>rfl
 | a::r,mem,h=>by
  have e : ∀ mem,writeM mem view (a::r)=writeM (mem.set a.cell.toNat (a.to.eval view view)) view r:=fun _=>rfl
  rw [e,e,set_swap (view' := view') fun b hb=>h b (by simp [hb]),List.set_comm _ _ (h a (by simp))]
def targetM (s:Step):Int:=if s.kind=6\/s.kind=7 then s.target else -1
structure Ind (p:Prog) (a:Nat) (s:Step) (b:Nat) (t:Step):Prop where
 ne:a≠b
 hs : ∃ x,StepOk p a x s
 ht : ∃ x,StepOk p b x t
 tb:targetM s≠b
 ta:targetM t≠a
 tt : ¬ (0<=targetM s/\targetM s=targetM t)
 ww : ∀ n∈writesM s,n ∉ writesM t
 wr : ∀ n∈writesM s,n ∉ readsM t
 rw : ∀ n∈writesM t,n ∉ readsM s
theorem StepOk.set {p:Prog} {t:Int} {x:Thread} {s:Step} (h:StepOk p t x s):SetOk p s.set:=⟨h.rng.2,h.wid,h.dif⟩
theorem Ind.symm {p:Prog} {a b:Nat} {s t:Step} (h:Ind p a s b t):Ind p b t a s :=
 ⟨h.ne.symm,h.ht,h.hs,h.ta,h.tb,fun ⟨h1,h2⟩=>h.tt ⟨h2 ▸ h1,h2.symm⟩,fun n h1 h2=>h.ww n h2 h1,h.rw,h.wr⟩
end Rg
end
section
namespace Rg
open Go
end Rg
end
section
set_option maxRecDepth 10000
namespace Rg
open Go
end Rg
end
section
namespace Rg
open Go
end Rg
end
section
set_option maxRecDepth 10000
namespace Rg
open Go
end Rg
end
section
namespace Rg
open Go
structure Proper (p:Prog) (e:Entry):Prop where
 ne:e.cells≠[]
 len:e.values.length=e.cells.length
 nd:e.cells.Nodup
 cell : ∀ (i:Nat) (n v:Int),e.cells[i]? = some n->e.values[i]? = some v->0<=n /\ ∃ y,p.cells[n.toNat]? = some y/\y.thread = -1/\y.ghost=decide (0<i)/\0<=v/\v<2^y.w.toNat
structure IsB (p:Prog) (c:Config):Prop where
 lm:c.mem.length=p.cells.length
 la:c.at_.length=p.threads.length
 lb:c.buf.length=p.threads.length
 mem : ∀ (i:Nat) (v:Int) (y:Cell),c.mem[i]? = some v->p.cells[i]? = some y->0<=v/\v<2^y.w.toNat
 at_ : ∀ (i:Nat) (a:Int) (x:Thread),c.at_[i]? = some a->p.threads[i]? = some x -> -1<=a/\a<x.points/\(a = -1->x.asleep=true)
 buf : ∀ (t:Nat) (b:List Entry),c.buf[t]? = some b->b.length<=3/\(∀ e∈b,Proper p e)/\(c.at_[t]? = some (-1)->b=[])
def putE (m:List Int) (e:Entry):List Int:=(e.cells.zip e.values).foldl (fun m q=>m.set q.1.toNat q.2) m
def bufM (c:Config) (t:Nat):List Entry:=c.buf.getD t []
def viewM (c:Config) (t:Nat):List Int:=(bufM c t).foldl putE c.mem
def meetM (a b:Entry):Bool:=b.cells.any fun n=>a.cells.contains n
def blockedM (older:List Entry) (e:Entry):Bool:=older.any fun o=>meetM o e
def openM (k:Int) (b:List Entry) (i:Nat) (e:Entry):Bool:=decide (i=0)||(decide (k=2) && !blockedM (b.take i) e)
def enabledB (p:Prog) (c:Config) (t:Nat) (s:Step):Bool :=
 decide (atI c.at_ t=s.fr)&&decide (s.guard.eval (viewM c t) (viewM c t)=1) &&
  (if s.kind=3 then (if s.release then decide ((bufM c t).length=0) else decide ((bufM c t).length<3))
   else if s.kind=4\/s.kind=5 then decide ((bufM c t).length=0)
   else if s.kind=6 then decide ((bufM c t).length=0)&&decide (atI c.at_ s.target = -1)
   else if s.kind=7 then decide ((bufM c t).length=0)&&(decide (atI c.at_ s.target=pointsAt p s.target-1)&&decide ((bufM c s.target.toNat).length=0))
   else true)
def stepsB (p:Prog) (c:Config) (t:Nat) (x:Thread) (i:Nat):List Choice :=
 (x.steps.take i).zipIdx.filterMap fun q=>if enabledB p c t q.1 then some ⟨t,q.2,0⟩ else none
def headC (e:Entry):Int:=e.cells.headD 0
def entsB (k:Int) (t:Nat) (b:List Entry) (i:Nat):List Choice :=
 (b.take i).zipIdx.filterMap fun q=>if openM k b q.2 q.1 then some ⟨t, -1,headC q.1⟩ else none
def choicesBN (p:Prog) (k:Int) (c:Config) (i:Nat):List Choice :=
 (p.threads.take i).zipIdx.flatMap fun q=>stepsB p c q.2 q.1 q.1.steps.length++entsB k q.2 (bufM c q.2) (bufM c q.2).length
def choicesB (p:Prog) (k:Int) (c:Config):List Choice:=choicesBN p k c p.threads.length
def sharedA (p:Prog) (a:Assign):Bool:=cellIs p a.cell fun y=>decide (y.thread = -1)
def entryOf (p:Prog) (view:List Int) (set:List Assign):Entry:=⟨(set.filter (sharedA p)).map Assign.cell,(set.filter (sharedA p)).map fun a=>a.to.eval view view⟩
def execB (p:Prog) (c:Config) (t:Nat) (s:Step):Config :=
 ⟨writeM c.mem (viewM c t) (if s.kind=3 then s.set.filter (fun a => !sharedA p a) else s.set),
  if s.kind=6 then (c.at_.set t s.to).set s.target.toNat 0 else c.at_.set t s.to,
  if s.kind=3 then c.buf.set t (bufM c t++[entryOf p (viewM c t) s.set]) else c.buf⟩
def commitB (c:Config) (t i:Nat):Config:=match (bufM c t)[i]? with
 | some e=>⟨putE c.mem e,c.at_,c.buf.set t ((bufM c t).eraseIdx i)⟩
 | none=>zeroC
def findB (k:Int) (b:List Entry) (n:Int):Option Nat:=(List.range b.length).find? fun i=>match b[i]? with
 | some e=>openM k b i e&&decide (headC e=n)
 | none=>false
def nextB (p:Prog) (k:Int) (c:Config) (x:Choice):Config×Int :=
 if x.thread<0\/(p.threads.length:Int)<=x.thread\/x.step < -1 then (zeroC,110)
 else if x.step = -1 then (match findB k (bufM c x.thread.toNat) x.cell with
  | some i=>(commitB c x.thread.toNat i,0)
  | none=>(zeroC,110))
 else match stepAt p x with
  | some s=>if decide (x.cell=0)&&enabledB p c x.thread.toNat s then (execB p c x.thread.toNat s,0) else (zeroC,110)
  | none=>(zeroC,110)
theorem bufM_at {c:Config} {t:Nat} (h:t<c.buf.length):c.buf[t]? = some (bufM c t):=by simp [bufM,List.getD,List.getElem?_eq_getElem h]
theorem foldl_set_len : ∀ (l:List (Int×Int)) (m:List Int),(l.foldl (fun m q=>m.set q.1.toNat q.2) m).length=m.length
 | [],m=>rfl
 | q::l,m=>by rw [List.foldl_cons,foldl_set_len l]; simp
theorem putE_len (m:List Int) (e:Entry):(putE m e).length=m.length:=foldl_set_len _ m
theorem foldPut_len : ∀ (l:List Entry) (m:List Int),(l.foldl putE m).length=m.length
 | [],m=>rfl
 | e::l,m=>by rw [List.foldl_cons,foldPut_len l,putE_len]
theorem view_len (c:Config) (t:Nat):(viewM c t).length=c.mem.length:=foldPut_len _ _
theorem foldl_set_at {p:Prog} : ∀ (l:List (Int×Int)) (m:List Int),(∀ q∈l, ∀ y,p.cells[q.1.toNat]? = some y->0<=q.2/\q.2<2^y.w.toNat) ->
 (∀ (i:Nat) (v:Int) (y:Cell),m[i]? = some v->p.cells[i]? = some y->0<=v/\v<2^y.w.toNat) ->
 ∀ (i:Nat) (v:Int) (y:Cell),(l.foldl (fun m q=>m.set q.1.toNat q.2) m)[i]? = some v->p.cells[i]? = some y->0<=v/\v<2^y.w.toNat
 | [],m,_,hm=>hm
 | q::l,m,hl,hm=>by
  rw [List.foldl_cons]
  refine foldl_set_at l _ (fun r hr=>hl r (List.mem_cons_of_mem _ hr)) ?_
  intro i v y hv hy
  rw [List.getElem?_set] at hv
  split at hv
  ·rename_i hi
   split at hv
   ·cases hv
    subst hi
    exact hl q List.mem_cons_self y hy
   ·simp at hv
  ·exact hm i v y hv hy
theorem proper_pair {p:Prog} {e:Entry} (h:Proper p e) {q:Int×Int} (hq:q∈e.cells.zip e.values):0<=q.1 /\ ∃ y,p.cells[q.1.toNat]? = some y/\y.thread = -1/\0<=q.2/\q.2<2^y.w.toNat:=by
 obtain ⟨i,hi⟩:=List.getElem?_of_mem hq
 rw [List.getElem?_zip_eq_some] at hi
 obtain ⟨h0,y,h1,h2,_,h3⟩:=h.cell i q.1 q.2 hi.1 hi.2
 exact ⟨h0,y,h1,h2,h3⟩
theorem putE_at {p:Prog} {e:Entry} (he:Proper p e) {m:List Int} (hm : ∀ (i:Nat) (v:Int) (y:Cell),m[i]? = some v->p.cells[i]? = some y->0<=v/\v<2^y.w.toNat) :
 ∀ (i:Nat) (v:Int) (y:Cell),(putE m e)[i]? = some v->p.cells[i]? = some y->0<=v/\v<2^y.w.toNat:=by
 refine foldl_set_at _ m (fun q hq y hy => ?_) hm
 obtain ⟨_,z,hz,_,h⟩:=proper_pair he hq
 rw [hy] at hz; cases hz; exact h
theorem proper_lt {p:Prog} {e:Entry} (h:Proper p e) {n:Int} (hn:n∈e.cells):0<=n/\n.toNat<p.cells.length /\ ∃ y,p.cells[n.toNat]? = some y/\y.thread = -1:=by
 obtain ⟨i,hi⟩:=List.getElem?_of_mem hn
 have hlt:i<e.values.length:=by rw [h.len]; exact (List.getElem?_eq_some_iff.1 hi).1
 obtain ⟨h0,y,h1,h2,_⟩:=h.cell i n _ hi (List.getElem?_eq_getElem hlt)
 exact ⟨h0,(List.getElem?_eq_some_iff.1 h1).1,y,h1,h2⟩
theorem nodup_len : ∀ (n:Nat) (l:List Int),l.Nodup->(∀ x∈l,0<=x/\x<n)->l.length<=n
 | 0,[],_,_=>Nat.le_refl _
 | 0,x::l,_,hl=>by have:=hl x List.mem_cons_self; omega
 | n+1,l,hnd,hl=>by
  have h:=nodup_len n (l.erase (n:Int)) (hnd.erase _) fun x hx=>by
   have h1:=hnd.mem_erase_iff.1 hx
   have h2:=hl x h1.2
   have h3:=h1.1
   omega
  rw [List.length_erase] at h
  split at h <;> omega
theorem proper_len {p:Prog} {e:Entry} (h:Proper p e):e.cells.length<=p.cells.length :=
 nodup_len _ _ h.nd fun x hx=>by have:=proper_lt h hx; omega
theorem shared_of {p:Prog} {a:Assign} (h:sharedA p a=true) : ∃ y,p.cells[a.cell.toNat]? = some y/\y.thread = -1:=by
 unfold sharedA cellIs at h
 split at h
 ·rename_i y hy; exact ⟨y,hy,by simpa using h⟩
 ·simp at h
theorem store_parts {p:Prog} {t:Int} {s:Step} (hk:s.kind=3) (h:kindOk p t s=true) : ∃ a r,s.set=a::r/\valuesOk p s false t=true/\sharedA p a=true/\cellIs p a.cell Cell.ghost=false /\
 ∀ b∈r,cellIs p b.cell Cell.ghost=true/\sees p t b.cell=true:=by
 rw [kindOk,if_neg (by omega),if_neg (by omega),if_pos hk,storeOk] at h
 split at h
 ·simp at h
 ·rename_i a r hs
  simp only [Bool.and_eq_true,Bool.not_eq_true',List.all_eq_true] at h
  obtain ⟨⟨⟨h1,h2⟩,h3⟩,h4⟩:=h
  obtain ⟨h0,y,hy,ht⟩:=ofThread_in h2
  exact ⟨a,r,hs,h1,by rw [sharedA,cellIs_at hy]; simpa using ht,h3,h4⟩
theorem dif_nodup {l:List Assign} (h : ∀ (i j:Nat) (a b:Assign),l[i]? = some a->l[j]? = some b->a.cell=b.cell->i=j):(l.map Assign.cell).Nodup:=by
 rw [List.nodup_iff_pairwise_ne,List.pairwise_iff_getElem]
 intro i j hi hj hij he
 simp only [List.length_map] at hi hj
 simp only [List.getElem_map] at he
 have:=h i j _ _ (List.getElem?_eq_getElem hi) (List.getElem?_eq_getElem hj) he
 omega
theorem entry_proper {p:Prog} {t:Int} {x:Thread} {s:Step} (hok:StepOk p t x s) (hk:s.kind=3) (view:List Int):Proper p (entryOf p view s.set):=by
 obtain ⟨a,r,hs,hv,ha,hg,hr⟩:=store_parts hk hok.row
 have hf:s.set.filter (sharedA p)=a::r.filter (sharedA p):=by rw [hs,List.filter_cons,if_pos ha]
 refine ⟨by simp [entryOf,hf],by simp [entryOf], ?_, ?_⟩
 ·exact List.Nodup.sublist ((List.filter_sublist).map _) (dif_nodup hok.dif)
 ·intro i n v hn hvv
  simp only [entryOf,List.getElem?_map,Option.map_eq_some_iff] at hn hvv
  obtain ⟨b,hb,rfl⟩:=hn
  obtain ⟨b',hb',rfl⟩:=hvv
  rw [hb] at hb'; cases hb'
  have hbm:=List.mem_of_getElem? hb
  obtain ⟨hbs,hsh⟩:=List.mem_filter.1 hbm
  obtain ⟨y,hy,hyt⟩:=shared_of hsh
  have hin:=(hok.rng.2 b hbs).1
  simp only [inR,decide_eq_true_eq] at hin
  obtain ⟨z,hz,hw⟩:=hok.wid b hbs
  rw [hy] at hz; cases hz
  refine ⟨hin.1,y,hy,hyt, ?_,by rw [<- hw]; exact eval_bound _ _ _⟩
  rw [hf] at hb
  cases i with
  | zero =>
   simp only [List.getElem?_cons_zero,Option.some.injEq] at hb
   subst hb
   rw [cellIs_at hy] at hg
   simpa using hg
  | succ i =>
   simp only [List.getElem?_cons_succ] at hb
   have:=(hr b (List.mem_filter.1 (List.mem_of_getElem? hb)).1).1
   rw [cellIs_at hy] at this
   simpa using this
theorem exec_at {p:Prog} {c:Config} {t i:Nat} {x:Thread} {s:Step} (hf:formedM p=true) (hx:p.threads[t]? = some x) (hok:StepOk p t x s)
 (hat : ∀ (i:Nat) (a:Int) (x:Thread),c.at_[i]? = some a->p.threads[i]? = some x -> -1<=a/\a<x.points/\(a = -1->x.asleep=true)) :
 ∀ (i:Nat) (a:Int) (z:Thread),(if s.kind=6 then (c.at_.set t s.to).set s.target.toNat 0 else c.at_.set t s.to)[i]? = some a->p.threads[i]? = some z -> -1<=a/\a<z.points/\(a = -1->z.asleep=true):=by
 have key : ∀ (j:Nat) (a:Int) (z:Thread),(c.at_.set t s.to)[j]? = some a->p.threads[j]? = some z -> -1<=a/\a<z.points/\(a = -1->z.asleep=true):=by
  intro j a z ha hz
  rw [List.getElem?_set] at ha
  split at ha
  ·rename_i hj
   split at ha
   ·cases ha
    subst hj
    rw [hx] at hz; cases hz
    have:=hok.to
    exact ⟨by omega,by omega,by omega⟩
   ·simp at ha
  ·exact hat j a z ha hz
 intro j a z ha hz
 split at ha
 ·rw [List.getElem?_set] at ha
  split at ha
  ·split at ha
   ·cases ha
    have:=points_bound hf hz
    exact ⟨by omega,by omega,by omega⟩
   ·simp at ha
  ·exact key j a z ha hz
 ·exact key j a z ha hz
theorem exec_asleep {c:Config} {t j:Nat} {s:Step} (h0:0<=s.to) (h:(if s.kind=6 then (c.at_.set t s.to).set s.target.toNat 0 else c.at_.set t s.to)[j]? = some (-1)):c.at_[j]? = some (-1):=by
 have key:(c.at_.set t s.to)[j]? = some (-1)->c.at_[j]? = some (-1):=by
  intro h
  rw [List.getElem?_set] at h
  split at h
  ·split at h
   ·simp only [Option.some.injEq] at h; omega
   ·simp at h
  ·exact h
 split at h
 ·rw [List.getElem?_set] at h
  split at h
  ·split at h
   ·simp at h
   ·simp at h
  ·exact key h
 ·exact key h
theorem execB_is {p:Prog} (hf:formedM p=true) {c:Config} (hc:IsB p c) {t i:Nat} {x:Thread} {s:Step} (hx:p.threads[t]? = some x) (hs:x.steps[i]? = some s) (he:enabledB p c t s=true):IsB p (execB p c t s):=by
 have hok:=formed_step hf hx hs
 have htl:t<c.buf.length:=by rw [hc.lb]; exact (List.getElem?_eq_some_iff.1 hx).1
 refine ⟨by simp only [execB,write_len]; exact hc.lm, ?_, ?_, ?_,exec_at (i:=i) hf hx hok hc.at_, ?_⟩
 ·show (if s.kind=6 then _ else _:List Int).length=_
  split
  ·rw [List.length_set,List.length_set]; exact hc.la
  ·rw [List.length_set]; exact hc.la
 ·show (if s.kind=3 then _ else _:List (List Entry)).length=_
  split
  ·rw [List.length_set]; exact hc.lb
  ·exact hc.lb
 ·refine write_at (fun a ha => ?_) hc.mem
  refine hok.wid a ?_
  try simp only at ha
  split at ha
  ·exact (List.mem_filter.1 ha).1
  ·exact ha
 ·intro t' b hb
  simp only [execB] at hb ⊢
  by_cases hk:s.kind=3
  ·rw [if_pos hk,List.getElem?_set] at hb
   split at hb
   ·rename_i htt
    subst htt
    try rw [if_pos htl] at hb
    simp only [Option.some.injEq] at hb
    subst hb
    have hold:=hc.buf t _ (bufM_at htl)
    refine ⟨?_, ?_, ?_⟩
    ·simp only [enabledB,Bool.and_eq_true,hk,if_true] at he
     have h3:=he.2
     split at h3
     ·have:(bufM c t).length=0:=by simpa using h3
      simp [this]
     ·have:(bufM c t).length<3:=by simpa using h3
      simp; omega
    ·intro e hem
     rcases List.mem_append.1 hem with h | h
     ·exact hold.2.1 e h
     ·rw [List.mem_singleton] at h; subst h; exact entry_proper hok hk _
    ·intro ha
     have:=exec_asleep hok.to.1 ha
     simp only [enabledB,Bool.and_eq_true,decide_eq_true_eq] at he
     have h1:atI c.at_ t = -1:=atI_get (by simpa using this)
     have:=hok.fr.1
     omega
   ·obtain ⟨q1,q2,q3⟩:=hc.buf t' b hb
    exact ⟨q1,q2,fun ha=>q3 (exec_asleep hok.to.1 ha)⟩
  ·rw [if_neg hk] at hb
   obtain ⟨q1,q2,q3⟩:=hc.buf t' b hb
   exact ⟨q1,q2,fun ha=>q3 (exec_asleep hok.to.1 ha)⟩
theorem commitB_is {p:Prog} {c:Config} (hc:IsB p c) {t i:Nat} {e:Entry} (hi:(bufM c t)[i]? = some e):IsB p (commitB c t i):=by
 have htl:t<c.buf.length:=by
  rcases Nat.lt_or_ge t c.buf.length with h | h
  ·exact h
  ·simp [bufM,List.getD,List.getElem?_eq_none h] at hi
 have hold:=hc.buf t _ (bufM_at htl)
 have hC:commitB c t i=⟨putE c.mem e,c.at_,c.buf.set t ((bufM c t).eraseIdx i)⟩:=by simp only [commitB,hi]
 rw [hC]
 refine ⟨by simp only [putE_len]; exact hc.lm,hc.la,by simp; exact hc.lb,putE_at (hold.2.1 e (List.mem_of_getElem? hi)) hc.mem,hc.at_, ?_⟩
 intro t' b hb
 rw [List.getElem?_set] at hb
 split at hb
 ·rename_i htt
  subst htt
  try rw [if_pos htl] at hb
  simp only [Option.some.injEq] at hb
  subst hb
  refine ⟨Nat.le_trans (List.length_eraseIdx_le _ _) hold.1,fun e he=>hold.2.1 e (List.mem_of_mem_eraseIdx he),fun ha => ?_⟩
  have:=hold.2.2 ha
  rw [this] at hi; simp at hi
 ·exact hc.buf t' b hb
theorem startB_is {p:Prog} (hf:formedM p=true):IsB p (startM p):=by
 have h:=is_iff.1 (start_is hf)
 refine ⟨h.lm,h.la,h.lb,h.mem,h.at_,fun t b hb => ?_⟩
 have:=h.buf b (List.mem_of_getElem? hb)
 subst this
 exact ⟨by simp,by simp,fun _=>rfl⟩
theorem isB_of {p:Prog} {c:Config} (h:IsC p c):IsB p c :=
 ⟨h.lm,h.la,h.lb,h.mem,h.at_,fun t b hb=>by
   have:=h.buf b (List.mem_of_getElem? hb)
   subst this
   exact ⟨by simp,by simp,fun _=>rfl⟩⟩
theorem isC_of {p:Prog} {c:Config} (h:IsB p c) (hq : ∀ b∈c.buf,b=[]):IsC p c:=⟨h.lm,h.la,h.lb,h.mem,h.at_,hq⟩
theorem stepsB_mem {p:Prog} {c:Config} {t:Nat} {x:Thread} {n:Nat} {y:Choice}:y∈stepsB p c t x n <-> ∃ i s,i<n/\x.steps[i]? = some s/\enabledB p c t s=true/\y=⟨t,i,0⟩:=by
 unfold stepsB
 rw [List.mem_filterMap]
 constructor
 ·rintro ⟨⟨s,i⟩,hm,h⟩
  rw [List.mem_zipIdx_iff_getElem?] at hm
  simp only at hm
  rw [List.getElem?_take] at hm
  split at hm
  ·rename_i hi
   split at h
   ·rename_i he
    simp only [Option.some.injEq] at h
    exact ⟨i,s,hi,hm,he,h.symm⟩
   ·simp at h
  ·simp at hm
 ·rintro ⟨i,s,hi,hs,he,rfl⟩
  refine ⟨(s,i), ?_,by simp [he]⟩
  rw [List.mem_zipIdx_iff_getElem?]
  simp only
  rw [List.getElem?_take,if_pos hi]; exact hs
theorem entsB_mem {k:Int} {t:Nat} {b:List Entry} {n:Nat} {y:Choice}:y∈entsB k t b n <-> ∃ i e,i<n/\b[i]? = some e/\openM k b i e=true/\y=⟨t, -1,headC e⟩:=by
 unfold entsB
 rw [List.mem_filterMap]
 constructor
 ·rintro ⟨⟨e,i⟩,hm,h⟩
  rw [List.mem_zipIdx_iff_getElem?] at hm
  simp only at hm
  rw [List.getElem?_take] at hm
  split at hm
  ·rename_i hi
   split at h
   ·rename_i he
    simp only [Option.some.injEq] at h
    exact ⟨i,e,hi,hm,he,h.symm⟩
   ·simp at h
  ·simp at hm
 ·rintro ⟨i,e,hi,hs,he,rfl⟩
  refine ⟨(e,i), ?_,by simp [he]⟩
  rw [List.mem_zipIdx_iff_getElem?]
  simp only
  rw [List.getElem?_take,if_pos hi]; exact hs
theorem choicesB_mem {p:Prog} {k:Int} {c:Config} {y:Choice}:y∈choicesB p k c <->
 (∃ (t:Nat) (x:Thread) (i:Nat) (s:Step),p.threads[t]? = some x/\x.steps[i]? = some s/\enabledB p c t s=true/\y=⟨t,i,0⟩) \/
 (∃ (t i:Nat) (e:Entry),t<p.threads.length/\(bufM c t)[i]? = some e/\openM k (bufM c t) i e=true/\y=⟨t, -1,headC e⟩):=by
 unfold choicesB choicesBN
 rw [List.mem_flatMap]
 constructor
 ·rintro ⟨⟨x,t⟩,hm,h⟩
  rw [List.mem_zipIdx_iff_getElem?,List.take_length] at hm
  rcases List.mem_append.1 h with h | h
  ·obtain ⟨i,s,_,hs,he,rfl⟩:=stepsB_mem.1 h
   exact .inl ⟨t,x,i,s,hm,hs,he,rfl⟩
  ·obtain ⟨i,e,_,hs,he,rfl⟩:=entsB_mem.1 h
   exact .inr ⟨t,i,e,(List.getElem?_eq_some_iff.1 hm).1,hs,he,rfl⟩
 ·rintro (⟨t,x,i,s,hx,hs,he,rfl⟩ | ⟨t,i,e,ht,hi,ho,rfl⟩)
  ·refine ⟨(x,t), ?_,List.mem_append_left _ (stepsB_mem.2 ⟨i,s,(List.getElem?_eq_some_iff.1 hs).1,hs,he,rfl⟩)⟩
   rw [List.mem_zipIdx_iff_getElem?,List.take_length]
   exact hx
  ·refine ⟨(p.threads[t],t), ?_,List.mem_append_right _ (entsB_mem.2 ⟨i,e,(List.getElem?_eq_some_iff.1 hi).1,hi,ho,rfl⟩)⟩
   rw [List.mem_zipIdx_iff_getElem?,List.take_length]
   exact List.getElem?_eq_getElem ht
theorem head_mem {p:Prog} {e:Entry} (h:Proper p e):headC e∈e.cells:=by
 have:=h.ne
 unfold headC
 cases hc:e.cells with
 | nil=>exact absurd hc this
 | cons a r=>simp
theorem open_one {p:Prog} {k:Int} {b:List Entry} (hb : ∀ e∈b,Proper p e) {i j:Nat} {e f:Entry} (hi:b[i]? = some e) (hj:b[j]? = some f) (ho:openM k b j f=true) (hij:i<j):headC e≠headC f:=by
 intro he
 unfold openM at ho
 simp only [Bool.or_eq_true,decide_eq_true_eq,Bool.and_eq_true,Bool.not_eq_true'] at ho
 rcases ho with h | ⟨_,h⟩
 ·omega
 ·have hmem:e∈b.take j:=by
   have:(b.take j)[i]? = some e:=by rw [List.getElem?_take,if_pos hij]; exact hi
   exact List.mem_of_getElem? this
  have:blockedM (b.take j) f=true:=by
   rw [blockedM,List.any_eq_true]
   refine ⟨e,hmem, ?_⟩
   rw [meetM,List.any_eq_true]
   refine ⟨headC f,head_mem (hb f (List.mem_of_getElem? hj)), ?_⟩
   rw [<- he]
   simpa using head_mem (hb e (List.mem_of_getElem? hi))
  rw [this] at h; simp at h
theorem findB_some {k:Int} {b:List Entry} {n:Int} {i:Nat} (h:findB k b n=some i) : ∃ e,b[i]? = some e/\openM k b i e=true/\headC e=n:=by
 have:=List.find?_some h
 try simp only at this
 split at this
 ·rename_i e he
  simp only [Bool.and_eq_true,decide_eq_true_eq] at this
  exact ⟨e,he,this.1,this.2⟩
 ·simp at this
theorem findB_of {p:Prog} {k:Int} {b:List Entry} (hb : ∀ e∈b,Proper p e) {i:Nat} {e:Entry} (hi:b[i]? = some e) (ho:openM k b i e=true):findB k b (headC e)=some i:=by
 have hil:=(List.getElem?_eq_some_iff.1 hi).1
 cases hf:findB k b (headC e) with
 | none =>
  unfold findB at hf
  rw [List.find?_eq_none] at hf
  have:=hf i (List.mem_range.2 hil)
  rw [hi] at this
  simp [ho] at this
 | some j =>
  obtain ⟨f,hj,hoj,hh⟩:=findB_some hf
  rcases Nat.lt_trichotomy i j with h | h | h
  ·exact absurd hh.symm (open_one hb hi hj hoj h)
  ·rw [h]
  ·exact absurd hh (open_one hb hj hi ho h)
theorem nextB_step {p:Prog} {k:Int} {c:Config} {t i:Nat} {x:Thread} {s:Step} (hx:p.threads[t]? = some x) (hs:x.steps[i]? = some s) (he:enabledB p c t s=true):nextB p k c ⟨t,i,0⟩=(execB p c t s,0):=by
 have ht:=(List.getElem?_eq_some_iff.1 hx).1
 have e1:stepAt p ⟨t,i,0⟩=some s:=by simp [stepAt,hx,hs]
 rw [nextB,if_neg (by simp only; omega),if_neg (by simp only; omega),e1]
 simp [he]
theorem nextB_commit {p:Prog} {k:Int} {c:Config} (hc:IsB p c) {t i:Nat} {e:Entry} (ht:t<p.threads.length) (hi:(bufM c t)[i]? = some e) (ho:openM k (bufM c t) i e=true):nextB p k c ⟨t, -1,headC e⟩=(commitB c t i,0):=by
 have hb:=(hc.buf t _ (bufM_at (by rw [hc.lb]; exact ht))).2.1
 rw [nextB,if_neg (by simp only; omega),if_pos rfl]
 simp only [Int.toNat_natCast,findB_of hb hi ho]
theorem nextB_no {p:Prog} {k:Int} {c:Config} {y:Choice} (h:y ∉ choicesB p k c):nextB p k c y=(zeroC,110):=by
 unfold nextB
 split
 ·rfl
 ·rename_i h1
  simp only [not_or,Int.not_lt,Int.not_le] at h1
  obtain ⟨h1,h2,h3⟩:=h1
  have ht:((y.thread.toNat:Nat):Int)=y.thread:=by omega
  split
  ·rename_i hs
   split
   ·rename_i i hi
    obtain ⟨e,he,ho,hh⟩:=findB_some hi
    refine absurd (choicesB_mem.2 (.inr ⟨y.thread.toNat,i,e,by omega,he,ho, ?_⟩)) h
    cases y; simp_all
   ·rfl
  ·rename_i hs
   split
   ·rename_i s hsa
    split
    ·rename_i hen
     simp only [Bool.and_eq_true,decide_eq_true_eq] at hen
     simp only [stepAt,Option.bind_eq_some_iff] at hsa
     obtain ⟨x,hx,hsx⟩:=hsa
     refine absurd (choicesB_mem.2 (.inl ⟨y.thread.toNat,x,y.step.toNat,s,hx,hsx,hen.2, ?_⟩)) h
     cases y; simp_all; omega
    ·rfl
   ·rfl
theorem nextB_ok {p:Prog} (hf:formedM p=true) {k:Int} {c:Config} (hc:IsB p c) {y:Choice} (hy:y∈choicesB p k c) : ∃ d,nextB p k c y=(d,0)/\IsB p d:=by
 rcases choicesB_mem.1 hy with ⟨t,x,i,s,hx,hs,he,rfl⟩ | ⟨t,i,e,ht,hi,ho,rfl⟩
 ·exact ⟨_,nextB_step hx hs he,execB_is hf hc hx hs he⟩
 ·exact ⟨_,nextB_commit hc ht hi ho,commitB_is hc hi⟩
def choicesK (p:Prog) (k:Int) (c:Config):List Choice:=if k=0 then choicesM p c else choicesB p k c
def nextK (p:Prog) (k:Int) (c:Config) (x:Choice):Config×Int:=if k=0 then nextM p c x else nextB p k c x
structure IsK (p:Prog) (k:Int) (c:Config):Prop where
 b:IsB p c
 q:k=0 -> ∀ b∈c.buf,b=[]
theorem IsK.c {p:Prog} {c:Config} {k:Int} (h:IsK p k c) (hk:k=0):isM p c=true:=is_iff.2 (isC_of h.b (h.q hk))
theorem nextK_ok {p:Prog} (hf:formedM p=true) {k:Int} {c:Config} (hc:IsK p k c) {y:Choice} (hy:y∈choicesK p k c) : ∃ d,nextK p k c y=(d,0)/\IsK p k d:=by
 unfold choicesK at hy
 unfold nextK
 split at hy
 ·rename_i hk
  obtain ⟨t,x,i,s,hx,hs,he,rfl,hn,hd⟩:=next_ok hf (hc.c hk) hy
  rw [if_pos hk]
  have:=is_iff.1 hd
  exact ⟨_,hn,isB_of this,fun _=>this.buf⟩
 ·rename_i hk
  rw [if_neg hk]
  obtain ⟨d,hn,hd⟩:=nextB_ok hf hc.b hy
  exact ⟨d,hn,hd,fun h=>absurd h hk⟩
theorem nextK_no {p:Prog} (hf:formedM p=true) {k:Int} {c:Config} (hc:IsK p k c) {y:Choice} (hy:y ∉ choicesK p k c):nextK p k c y=(zeroC,110):=by
 unfold choicesK at hy
 unfold nextK
 split at hy
 ·rename_i hk
  rw [if_pos hk]; exact next_no hf (hc.c hk) hy
 ·rename_i hk
  rw [if_neg hk]; exact nextB_no hy
theorem startK_is {p:Prog} (hf:formedM p=true) (k:Int):IsK p k (startM p):=⟨startB_is hf,fun _=>(is_iff.1 (start_is hf)).buf⟩
def walkK (p:Prog) (k:Int):Config->List Int->Config
 | c,[]=>c
 | c,n::r=>if (choicesK p k c).length=0\/200<(choicesK p k c).length then c else walkK p k (nextK p k c (pickAt (choicesK p k c) n)).1 r
def atK (p:Prog) (k:Int) (picks:List Int):Config:=walkK p k (startM p) (picks.take 30)
theorem walkK_is {p:Prog} (hf:formedM p=true) {k:Int} : ∀ (l:List Int) (c:Config),IsK p k c->IsK p k (walkK p k c l)
 | [],c,h=>h
 | n::r,c,h=>by
  rw [walkK]
  split
  ·exact h
  ·rename_i hne
   have hm:pickAt (choicesK p k c) n∈choicesK p k c:=pick_mem (by intro h0; rw [h0] at hne; simp at hne) n
   obtain ⟨d,hn,hd⟩:=nextK_ok hf h hm
   rw [hn]
   exact walkK_is hf r d hd
theorem atK_is {p:Prog} (hf:formedM p=true) (k:Int) (picks:List Int):IsK p k (atK p k picks):=walkK_is hf _ _ (startK_is hf k)
def setsM (m:List Int) (l:List (Int×Int)):List Int:=l.foldl (fun m q=>m.set q.1.toNat q.2) m
theorem putE_sets (m:List Int) (e:Entry):putE m e=setsM m (e.cells.zip e.values):=rfl
theorem sets_cons (m:List Int) (q:Int×Int) (l:List (Int×Int)):setsM m (q::l)=setsM (m.set q.1.toNat q.2) l:=rfl
theorem sets_set {i:Nat} {v:Int} : ∀ {l:List (Int×Int)} {m:List Int},(∀ q∈l,q.1.toNat≠i)->(setsM m l).set i v=setsM (m.set i v) l
 | [],m,_=>rfl
 | q::l,m,h=>by
  rw [sets_cons,sets_cons,sets_set (fun r hr=>h r (List.mem_cons_of_mem _ hr)),List.set_comm _ _ (h q List.mem_cons_self)]
theorem sets_swap : ∀ {l1 l2:List (Int×Int)} {m:List Int},(∀ q∈l1, ∀ r∈l2,q.1.toNat≠r.1.toNat)->setsM (setsM m l1) l2=setsM (setsM m l2) l1
 | l1,[],m,_=>rfl
 | l1,r::l2,m,h=>by
  rw [sets_cons,sets_set (fun q hq=>h q hq r List.mem_cons_self),sets_cons,sets_swap (fun q hq r hr=>h q hq r (List.mem_cons_of_mem _ hr))]
theorem sets_other {i:Nat} : ∀ {l:List (Int×Int)} {m:List Int},(∀ q∈l,q.1.toNat≠i)->(setsM m l)[i]? = m[i]?
 | [],m,_=>rfl
 | q::l,m,h=>by
  rw [sets_cons,sets_other (fun r hr=>h r (List.mem_cons_of_mem _ hr)),List.getElem?_set,if_neg (h q List.mem_cons_self)]
theorem sets_agree {i:Nat} : ∀ {l:List (Int×Int)} {m m' : List Int},m.length=m'.length->m[i]? = m'[i]? -> (setsM m l)[i]? = (setsM m' l)[i]?
 | [],m,m',_,h=>h
 | q::l,m,m',hl,h=>by
  rw [sets_cons,sets_cons]
  refine sets_agree (by simp [hl]) ?_
  rw [List.getElem?_set,List.getElem?_set,hl,h]
theorem zip_fst {l:List Int} {m:List Int} {q:Int×Int} (h:q∈l.zip m):q.1∈l:=(List.of_mem_zip h).1
theorem put_other {e:Entry} {m:List Int} {i:Nat} (h : ∀ n∈e.cells,n.toNat≠i):(putE m e)[i]? = m[i]? := sets_other fun q hq=>h _ (zip_fst hq)
theorem put_set {e:Entry} {m:List Int} {i:Nat} {v:Int} (h : ∀ n∈e.cells,n.toNat≠i):(putE m e).set i v=putE (m.set i v) e:=sets_set fun q hq=>h _ (zip_fst hq)
theorem put_swap {e f:Entry} {m:List Int} (h : ∀ n∈e.cells, ∀ k∈f.cells,n.toNat≠k.toNat):putE (putE m e) f=putE (putE m f) e :=
 sets_swap fun q hq r hr=>h _ (zip_fst hq) _ (zip_fst hr)
theorem puts_set {i:Nat} {v:Int} : ∀ {l:List Entry} {m:List Int},(∀ e∈l, ∀ n∈e.cells,n.toNat≠i)->(l.foldl putE m).set i v=l.foldl putE (m.set i v)
 | [],m,_=>rfl
 | e::l,m,h=>by rw [List.foldl_cons,List.foldl_cons,puts_set (fun f hf=>h f (List.mem_cons_of_mem _ hf)),put_set (h e List.mem_cons_self)]
theorem puts_write {v:List Int} {l:List Entry} : ∀ {set:List Assign} {m:List Int},(∀ e∈l, ∀ n∈e.cells, ∀ a∈set,n.toNat≠a.cell.toNat)->writeM (l.foldl putE m) v set=l.foldl putE (writeM m v set)
 | [],m,_=>rfl
 | a::r,m,h=>by
  have e1 : ∀ m:List Int,writeM m v (a::r)=writeM (m.set a.cell.toNat (a.to.eval v v)) v r:=fun _=>rfl
  rw [e1,e1,puts_set (fun e he n hn=>h e he n hn a List.mem_cons_self),puts_write (fun e he n hn b hb=>h e he n hn b (List.mem_cons_of_mem _ hb))]
theorem puts_swap {e:Entry} : ∀ {l:List Entry} {m:List Int},(∀ f∈l, ∀ n∈e.cells, ∀ k∈f.cells,n.toNat≠k.toNat)->l.foldl putE (putE m e)=putE (l.foldl putE m) e
 | [],m,_=>rfl
 | f::l,m,h=>by
  rw [List.foldl_cons,List.foldl_cons,put_swap (h f List.mem_cons_self),puts_swap (fun g hg=>h g (List.mem_cons_of_mem _ hg))]
theorem puts_agree {i:Nat} : ∀ {l:List Entry} {m m' : List Int},m.length=m'.length->m[i]? = m'[i]? -> (l.foldl putE m)[i]? = (l.foldl putE m')[i]?
 | [],m,m',_,h=>h
 | e::l,m,m',hl,h=>by
  rw [List.foldl_cons,List.foldl_cons]
  exact puts_agree (by rw [putE_len,putE_len,hl]) (sets_agree hl h)
theorem write_other {v:List Int} {i:Nat} : ∀ {set:List Assign} {m:List Int},(∀ a∈set,a.cell.toNat≠i)->(writeM m v set)[i]? = m[i]?
 | [],m,_=>rfl
 | a::r,m,h=>by
  have e1:writeM m v (a::r)=writeM (m.set a.cell.toNat (a.to.eval v v)) v r:=rfl
  rw [e1,write_other (fun b hb=>h b (List.mem_cons_of_mem _ hb)),List.getElem?_set,if_neg (h a List.mem_cons_self)]
theorem put_entry (p:Prog) (m v:List Int) (set:List Assign):putE m (entryOf p v set)=writeM m v (set.filter (sharedA p)):=by
 unfold entryOf
 generalize set.filter (sharedA p)=l
 rw [putE_sets]
 simp only
 induction l generalizing m with
 | nil=>rfl
 | cons a r ih =>
  have e1:writeM m v (a::r)=writeM (m.set a.cell.toNat (a.to.eval v v)) v r:=rfl
  rw [List.map_cons,List.map_cons,List.zip_cons_cons,sets_cons,ih,e1]
theorem write_split {f:Assign->Bool} {v:List Int} : ∀ {set:List Assign} {m:List Int},(set.map fun a=>a.cell.toNat).Nodup ->
 writeM (writeM m v (set.filter fun a => !f a)) v (set.filter f)=writeM m v set
 | [],m,_=>rfl
 | a::r,m,h=>by
  have e1 : ∀ (m:List Int) (r:List Assign),writeM m v (a::r)=writeM (m.set a.cell.toNat (a.to.eval v v)) v r:=fun _ _=>rfl
  rw [List.map_cons,List.nodup_cons] at h
  obtain ⟨h1,h2⟩:=h
  cases hfa:f a
  ·rw [List.filter_cons,if_pos (by simp [hfa]),List.filter_cons,if_neg (by simp [hfa]),e1,e1]
   exact write_split h2
  ·have hsw : ∀ b∈r.filter (fun a => !f a),b.cell.toNat≠a.cell.toNat:=fun b hb he=>h1 (List.mem_map.2 ⟨b,(List.mem_filter.1 hb).1,he⟩)
   rw [List.filter_cons,if_neg (by simp [hfa]),List.filter_cons,if_pos (by simp [hfa]),e1,e1,set_swap (view' := v) hsw]
   exact write_split h2
theorem dif_toNat {p:Prog} {s:Step} (h:SetOk p s.set):(s.set.map fun a=>a.cell.toNat).Nodup:=by
 rw [List.nodup_iff_pairwise_ne,List.pairwise_iff_getElem]
 intro i j hi hj hij he
 simp only [List.length_map] at hi hj
 simp only [List.getElem_map] at he
 have h1:=(h.rng _ (List.getElem_mem hi)).1
 have h2:=(h.rng _ (List.getElem_mem hj)).1
 simp only [inR,decide_eq_true_eq] at h1 h2
 have:=h.dif i j _ _ (List.getElem?_eq_getElem hi) (List.getElem?_eq_getElem hj) (by omega)
 omega
theorem own_apart {p:Prog} {t:Nat} {b:List Entry} (hb : ∀ e∈b,Proper p e) {set:List Assign} (hs : ∀ a∈set,0<=a.cell/\sharedA p a=false) : ∀ e∈b, ∀ n∈e.cells, ∀ a∈set,n.toNat≠a.cell.toNat:=by
 intro e he n hn a ha heq
 obtain ⟨h0,_,y,hy,ht⟩:=proper_lt (hb e he) hn
 have:=(hs a ha).2
 rw [sharedA,cellIs_at (by rw [<- heq]; exact hy)] at this
 simp [ht] at this
theorem own_not_shared {p:Prog} {t:Nat} {a:Assign} (h:ofThread p t a.cell=true):0<=a.cell/\sharedA p a=false:=by
 obtain ⟨h0,y,hy,ht⟩:=ofThread_in h
 refine ⟨h0, ?_⟩
 rw [sharedA,cellIs_at hy]
 simp; omega
theorem kind12_own {p:Prog} {t:Nat} {s:Step} (h:kindOk p t s=true) (hk:s.kind=1\/s.kind=2) : ∀ a∈s.set,ofThread p t a.cell=true:=by
 rcases hk with hk | hk
 ·rw [kindOk,if_pos hk] at h
  simp only [Bool.and_eq_true,List.all_eq_true] at h
  exact h.2
 ·rw [kindOk,if_neg (by omega),if_pos hk,loadOk] at h
  split at h
  ·simp at h
  ·rename_i a r hs
   simp only [Bool.and_eq_true,List.all_eq_true] at h
   intro b hb
   rw [hs] at hb
   rcases List.mem_cons.1 hb with rfl | hb
   ·exact h.1.1.1.1.1.2
   ·exact (h.2 b hb).1.1
theorem enabled_empty {p:Prog} {c:Config} {t:Nat} {s:Step} (h:enabledB p c t s=true) (hk:4<=s.kind/\s.kind<=7):bufM c t=[]:=by
 simp only [enabledB,Bool.and_eq_true] at h
 have h3:=h.2
 rw [if_neg (by omega)] at h3
 split at h3
 ·simpa using h3
 ·split at h3
  ·simp only [Bool.and_eq_true,decide_eq_true_eq] at h3; simpa using h3.1
  ·split at h3
   ·simp only [Bool.and_eq_true,decide_eq_true_eq] at h3; simpa using h3.1
   ·omega
theorem buf_set_same {c:Config} {t:Nat} {b:List Entry} {m a:List Int} (h:t<c.buf.length):bufM ⟨m,a,c.buf.set t b⟩ t=b:=by
 simp [bufM,List.getD,h]
theorem buf_set_other {c:Config} {t u:Nat} {b:List Entry} {m a:List Int} (h:u≠t):bufM ⟨m,a,c.buf.set t b⟩ u=bufM c u:=by
 simp [bufM,List.getD,List.getElem?_set,Ne.symm h]
theorem view_step {p:Prog} {c:Config} (hc:IsB p c) {t:Nat} {x:Thread} {s:Step} (hx:p.threads[t]? = some x) (hok:StepOk p t x s) (he:enabledB p c t s=true) :
 viewM (execB p c t s) t=writeM (viewM c t) (viewM c t) s.set:=by
 have htl:t<c.buf.length:=by rw [hc.lb]; exact (List.getElem?_eq_some_iff.1 hx).1
 have hb:=(hc.buf t _ (bufM_at htl)).2.1
 by_cases hk:s.kind=3
 ·have e1:viewM (execB p c t s) t=(bufM c t++[entryOf p (viewM c t) s.set]).foldl putE (writeM c.mem (viewM c t) (s.set.filter fun a => !sharedA p a)):=by
   simp only [viewM,execB,hk,if_true]
   rw [buf_set_same htl]
  rw [e1,List.foldl_append, <- puts_write (v:=viewM c t) (l:=bufM c t) (m:=c.mem)]
  ·show putE (writeM (viewM c t) (viewM c t) _) _=_
   rw [put_entry,write_split (dif_toNat hok.set)]
  ·refine own_apart (t:=t) hb fun a ha => ?_
   obtain ⟨h1,h2⟩:=List.mem_filter.1 ha
   have:=(hok.rng.2 a h1).1
   simp only [inR,decide_eq_true_eq] at this
   exact ⟨this.1,by simpa using h2⟩
 ·have e1:viewM (execB p c t s) t=(bufM c t).foldl putE (writeM c.mem (viewM c t) s.set):=by
   simp only [viewM,execB,if_neg hk,bufM]
  rw [e1]
  by_cases hk12:s.kind=1\/s.kind=2
  ·rw [<- puts_write (v:=viewM c t)]
   ·rfl
   ·exact own_apart (t:=t) hb fun a ha=>own_not_shared (kind12_own hok.row hk12 a ha)
  ·have:=enabled_empty he (by have:=hok.kind; omega)
   have hv:viewM c t=c.mem:=by simp [viewM,this]
   rw [this,hv]; rfl
theorem erase_parts {α:Type} {b:List α} {i:Nat} {e:α} (h:b[i]? = some e):b=b.take i++e::b.drop (i+1)/\b.eraseIdx i=b.take i++b.drop (i+1):=by
 have hl:=(List.getElem?_eq_some_iff.1 h).1
 refine ⟨?_,List.eraseIdx_eq_take_drop_succ b i⟩
 have:=List.take_append_drop i b
 rw [<- drop_of h]; exact this.symm
theorem view_commit {p:Prog} {k:Int} {c:Config} (hc:IsB p c) {t i:Nat} {e:Entry} (hi:(bufM c t)[i]? = some e) (ho:openM k (bufM c t) i e=true):viewM (commitB c t i) t=viewM c t:=by
 have htl:t<c.buf.length:=by
  rcases Nat.lt_or_ge t c.buf.length with h | h
  ·exact h
  ·simp [bufM,List.getD,List.getElem?_eq_none h] at hi
 have hb:=(hc.buf t _ (bufM_at htl)).2.1
 obtain ⟨e1,e2⟩:=erase_parts hi
 have e3:viewM (commitB c t i) t=((bufM c t).eraseIdx i).foldl putE (putE c.mem e):=by
  simp only [viewM,commitB,hi]
  rw [buf_set_same htl]
 have e4:viewM c t=((bufM c t).take i++e::(bufM c t).drop (i+1)).foldl putE c.mem:=by rw [<- e1]; rfl
 rw [e3,e2,e4,List.foldl_append,List.foldl_append,List.foldl_cons]
 congr 1
 refine puts_swap fun f hf n hn m hm heq => ?_
 have hfb:f∈bufM c t:=List.mem_of_mem_take hf
 have h1:=proper_lt (hb e (List.mem_of_getElem? hi)) hn
 have h2:=proper_lt (hb f hfb) hm
 have hnm:n=m:=by omega
 subst hnm
 unfold openM at ho
 simp only [Bool.or_eq_true,decide_eq_true_eq,Bool.and_eq_true,Bool.not_eq_true'] at ho
 rcases ho with h | ⟨_,h⟩
 ·subst h; simp at hf
 ·have:blockedM ((bufM c t).take i) e=true:=by
   rw [blockedM,List.any_eq_true]
   exact ⟨f,hf,by rw [meetM,List.any_eq_true]; exact ⟨n,hn,by simpa using hm⟩⟩
  rw [this] at h; simp at h
theorem view_store {p:Prog} {c:Config} (hc:IsB p c) {t u:Nat} {s:Step} (hk:s.kind=3) (hset : ∀ a∈s.set,0<=a.cell) (hu:u≠t) {i:Nat} {y:Cell} (hy:p.cells[i]? = some y) (hs:y.thread = -1) :
 (viewM (execB p c t s) u)[i]? = (viewM c u)[i]? := by
 have e1:viewM (execB p c t s) u=(bufM c u).foldl putE (writeM c.mem (viewM c t) (s.set.filter fun a => !sharedA p a)):=by
  simp only [viewM,execB,hk,if_true]
  rw [buf_set_other hu]
 rw [e1]
 refine puts_agree (write_len _ _ _) (write_other fun a ha heq => ?_)
 obtain ⟨h1,h2⟩:=List.mem_filter.1 ha
 rw [sharedA,cellIs_at (by rw [heq]; exact hy)] at h2
 simp [hs] at h2
end Rg
end
