/- Part of the proof of the laws of the package relyguardlaw36: an abstract machine for the program's functions, what they compute, and that the machine is the program's. No condition. (RhA RgBa RgBb RgBc RgBd RgBe) -/
import Derived.Test.YtaiokglcgiemnaaGreatDoorPartAN
import Derived.ChangeArms
import GoSem.ClaimJoined
import Derived.ChangeSame
import Derived.WideKeyArgs
import Derived.RowKit
import Derived.LaidLaws
import Derived.Stop.Joined
import Derived.OpenShut
import Derived.MakeChecks
import Derived.FnData
set_option linter.unusedSimpArgs false
section
namespace Rg
open Go
abbrev ti (n:Int):T:=.int .i64 n
abbrev tb (b:Bool):T:=.bool b
abbrev ints (l:List Int):T:=.sl (l.map fun n=>[ti n])
@[go_sem]theorem beqI (a b:Int):(a==b)=decide (a=b):=by by_cases h:a=b<;>simp[h]
@[go_sem]theorem bneI (a b:Int):(a != b)=decide (¬a=b):=by by_cases h:a=b<;>simp[h]
@[go_sem]theorem wl_0:IntKind.i64.wrap 0=0:=by rw[IntKind.wrap_i64];rfl
@[go_sem]theorem wl_1:IntKind.i64.wrap 1=1:=by rw[IntKind.wrap_i64];rfl
@[go_sem]theorem wl_2:IntKind.i64.wrap 2=2:=by rw[IntKind.wrap_i64];rfl
@[go_sem]theorem wl_3:IntKind.i64.wrap 3=3:=by rw[IntKind.wrap_i64];rfl
inductive Expr where
 | mk (op w n:Int) (kids:List Expr)
 deriving Inhabited
namespace Expr
def op:Expr->Int | .mk o _ _ _=>o
def w:Expr->Int | .mk _ w _ _=>w
def n:Expr->Int | .mk _ _ n _=>n
def kids:Expr->List Expr | .mk _ _ _ k=>k
@[go_sem]theorem op_mk (o w n:Int) (k:List Expr):(Expr.mk o w n k).op=o:=rfl
@[go_sem]theorem w_mk (o w n:Int) (k:List Expr):(Expr.mk o w n k).w=w:=rfl
@[go_sem]theorem n_mk (o w n:Int) (k:List Expr):(Expr.mk o w n k).n=n:=rfl
@[go_sem]theorem kids_mk (o w n:Int) (k:List Expr):(Expr.mk o w n k).kids=k:=rfl
mutual
def enc:Expr->List T
 | .mk o w n k=>[ti o,ti w,ti n,.sl (encs k)]
def encs:List Expr->List (List T)
 | []=>[]
 | e::r=>enc e::encs r
end
theorem encs_eq: ∀l:List Expr,encs l=l.map enc
 | []=>rfl
 | e::r=>by rw[encs,encs_eq r];rfl
theorem enc_eq (e:Expr):e.enc=[ti e.op,ti e.w,ti e.n,.sl (e.kids.map enc)]:=by
 cases e;simp only[enc,encs_eq,op,w,n,kids]
mutual
def size:Expr->Nat
 | .mk _ _ _ k=>sizes k+1
def sizes:List Expr->Nat
 | []=>0
 | e::r=>size e+sizes r
end
theorem sizes_eq: ∀l:List Expr,sizes l=(l.map size).sum
 | []=>rfl
 | e::r=>by rw[sizes,sizes_eq r];rfl
theorem size_eq (e:Expr):e.size=(e.kids.map size).sum+1:=by
 cases e;simp only[size,sizes_eq,kids]
theorem size_pos (e:Expr):0<e.size:=by rw[size_eq];omega
theorem size_kid {e k:Expr} (h:k∈e.kids):k.size<e.size:=by
 rw[size_eq e]
 have:k.size<=(e.kids.map size).sum:=by
  generalize e.kids=l at h
  induction l with
  | nil=>simp at h
  | cons x r ih=>
    simp only[List.map_cons,List.sum_cons]
    rcases List.mem_cons.1 h with rfl | h
    ·omega
    ·have:=ih h;omega
 omega
theorem ind {P:Expr->Prop} (h: ∀e:Expr,(∀k∈e.kids,P k)->P e): ∀e,P e:=by
 intro e
 generalize hn:e.size=n
 induction n using Nat.strongRecOn generalizing e with
 | _ n ih=>exact h e fun k hk=>ih k.size (by have:=size_kid hk;omega) k rfl
mutual
def allE (f:Expr->Bool):Expr->Bool
 | .mk o w n k=>f (.mk o w n k)&&allEs f k
def allEs (f:Expr->Bool):List Expr->Bool
 | []=>true
 | e::r=>allE f e&&allEs f r
end
theorem allEs_eq (f:Expr->Bool): ∀l:List Expr,allEs f l=l.all (allE f)
 | []=>rfl
 | e::r=>by rw[allEs,allEs_eq f r];rfl
theorem allE_eq (f:Expr->Bool) (e:Expr):allE f e=(f e&&e.kids.all (allE f)):=by
 cases e;simp only[allE,allEs_eq,kids]
theorem allE_self {f:Expr->Bool} {e:Expr} (h:allE f e=true):f e=true:=by
 rw[allE_eq]at h;simp only[Bool.and_eq_true]at h;exact h.1
theorem allE_kid {f:Expr->Bool} {e k:Expr} (h:allE f e=true) (hk:k∈e.kids):allE f k=true:=by
 rw[allE_eq]at h;simp only[Bool.and_eq_true,List.all_eq_true]at h;exact h.2 k hk
theorem len_le_size (ks:List Expr):ks.length<=(ks.map size).sum:=by
 induction ks with
 | nil=>simp
 | cons x r ih=>have:=size_pos x;simp only[List.length_cons,List.map_cons,List.sum_cons];omega
theorem take_le_size (ks:List Expr) (i:Nat):((ks.take i).map size).sum<=(ks.map size).sum:=by
 induction ks generalizing i with
 | nil=>simp
 | cons x r ih=>cases i with
   | zero=>simp
   | succ i=>have:=ih i;simp only[List.take_succ_cons,List.map_cons,List.sum_cons];omega
def kw (e:Expr) (i:Nat):Int:=(e.kids.getD i (.mk 0 0 0 [])).w
end Expr
structure Cell where
 name:ByteArray
 w:Int
 init:Int
 thread:Int
 ghost:Bool
 module:Int
 deriving Inhabited
def Cell.enc (c:Cell):List T:=[.str c.name,ti c.w,ti c.init,ti c.thread,tb c.ghost,ti c.module]
structure Assign where
 cell:Int
 to:Expr
 deriving Inhabited
def Assign.enc (a:Assign):List T:=ti a.cell::a.to.enc
structure Step where
 kind:Int
 fr:Int
 to:Int
 guard:Expr
 set:List Assign
 release:Bool
 target:Int
 module:Int
 deriving Inhabited
def Step.enc (s:Step):List T:=[ti s.kind,ti s.fr,ti s.to]++s.guard.enc++[.sl (s.set.map Assign.enc),tb s.release,ti s.target,ti s.module]
structure Loop where
 head:Int
 body:List Int
 variant:Expr
 deriving Inhabited
def Loop.enc (l:Loop):List T:=[ti l.head,ints l.body]++l.variant.enc
structure Thread where
 name:ByteArray
 points:Int
 asserts:List Expr
 modules:List Int
 steps:List Step
 loops:List Loop
 asleep:Bool
 deriving Inhabited
def Thread.enc (t:Thread):List T:=
 [.str t.name,ti t.points,.sl (t.asserts.map Expr.enc),ints t.modules,.sl (t.steps.map Step.enc),.sl (t.loops.map Loop.enc),tb t.asleep]
structure Contract where
 name:ByteArray
 owner:ByteArray
 rely:Expr
 guar:Expr
 frame:List Int
 deriving Inhabited
def Contract.enc (c:Contract):List T:=[.str c.name,.str c.owner]++c.rely.enc++c.guar.enc++[ints c.frame]
structure Lock where
 cell:Int
 inv:Expr
 module:Int
 deriving Inhabited
def Lock.enc (l:Lock):List T:=[ti l.cell]++l.inv.enc++[ti l.module]
structure Prog where
 cells:List Cell
 modules:List Contract
 locks:List Lock
 threads:List Thread
 deriving Inhabited
def Prog.enc (p:Prog):List T:=[.sl (p.cells.map Cell.enc),.sl (p.modules.map Contract.enc),.sl (p.locks.map Lock.enc),.sl (p.threads.map Thread.enc)]
structure Entry where
 cells:List Int
 values:List Int
 deriving Inhabited,DecidableEq
def Entry.enc (e:Entry):List T:=[ints e.cells,ints e.values]
structure Config where
 mem:List Int
 at_:List Int
 buf:List (List Entry)
 deriving Inhabited,DecidableEq
def Config.enc (c:Config):List T:=[ints c.mem,ints c.at_,.sl (c.buf.map fun b=>[.sl (b.map Entry.enc)])]
structure Choice where
 thread:Int
 step:Int
 cell:Int
 deriving Inhabited,DecidableEq
def Choice.enc (c:Choice):List T:=[ti c.thread,ti c.step,ti c.cell]
attribute [go_sem] Expr.enc_eq Cell.enc Assign.enc Step.enc Loop.enc Thread.enc Contract.enc Lock.enc Prog.enc Entry.enc Config.enc Choice.enc
def ag (l:List T):V:=.agg (l.map V.t)
theorem wrapS (i:Nat) (h:i<2^62):IntKind.i64.wrap ((i:Int)+1)=((i+1:Nat):Int):=by rw[wrap64 (by omega)];omega
theorem take_succ_of {α:Type} {l:List α} {i:Nat} {x:α} (h:l[i]? =some x):l.take (i+1)=l.take i++[x]:=by
 rw[List.take_add_one,h];rfl
theorem pow2_le {i k:Nat} (h:i<=k):(2:Int)^i<=2^k:=by
 have:=Nat.pow_le_pow_right (n:=2) (by omega) h
 exact_mod_cast this
theorem pow2_pos (i:Nat):0<(2:Int)^i:=Int.pow_pos (by omega)
theorem get_of {α:Type} {l:List α} {i:Nat} (h:i<l.length): ∃x,l[i]? =some x/\x∈l:=⟨l[i],List.getElem?_eq_getElem h,List.getElem_mem h⟩
end Rg
end
section
namespace Rg
open Go
section
variable {H:Type} (enc:TypeId×Value->H) (P:Program) (W:World) (nm:Nat->Nat)
def Reps (cs:List Value) (xs:List T):Prop:=
 cs.length=xs.length/\ ∀(j:Nat) (x:T),xs[j]? =some x-> ∃v,cs[j]? =some v/\RepT W (fun r=>r<W.heap.size) nm v x
def Rd {α:Type} (n:Nat) (t:TypeId) (f:α->List T) (good:α->Prop):Prop:=
 ∀(cs:List Value) (x:DataW H×List MemPlace),DataW.trod enc P W 0 (fun _=>true) true n t cs=some x->(x.1.weights P t).all (· <=reachBytes)=true-> ∃a,good a/\Reps W nm cs (f a)
def RdF {α:Type} (n tot:Nat) (fs:List (TypeId×Nat)) (off:Nat) (f:α->List T) (good:α->Prop):Prop:=
 ∀(cs:List Value) (xs:List (DataW H×List MemPlace)),cs.length=tot->xs.length=fs.length->
  (∀(i:Nat) (fd:TypeId×Nat),fs[i]? =some fd->DataW.trod enc P W 0 (fun _=>true) true n fd.1 ((cs.drop fd.2).take (P.cellsOf fd.1))=xs[i]?)->
  (DataW.weightsEach P (fs.map (·.1)) (xs.map (·.1))).all (· <=reachBytes)=true-> ∃a,good a/\Reps W nm (cs.drop off) (f a)
end
section
variable {H:Type} {enc:TypeId×Value->H} {P:Program} {W:World} {nm:Nat->Nat}
theorem Reps.one {v:Value} {x:T} (h:RepT W (fun r=>r<W.heap.size) nm v x):Reps W nm [v] [x]:=
 ⟨rfl,fun j y hj=>by
   cases j with
   | zero=>simp at hj;subst hj;exact⟨v,rfl,h⟩
   | succ j=>simp at hj⟩
theorem Reps.append {cs ds:List Value} {xs ys:List T} (h:Reps W nm cs xs) (h':Reps W nm ds ys):Reps W nm (cs++ds) (xs++ys):=by
 refine⟨by simp[h.1,h'.1],fun j x hj=> ?_⟩
 rw[List.getElem?_append]at hj⊢
 rw[h.1]
 split at hj
 ·rename_i hlt;rw[if_pos hlt];exact h.2 j x hj
 ·rename_i hlt;rw[if_neg hlt];exact h'.2 _ x hj
theorem rd_int {k:IntKind} {t:TypeId} (ht:P.underlying t=some (.int k)) (n:Nat):Rd enc P W nm n t (fun i:Int=>[.int k i]) (fun i=>(Lit.int k i).wf=true):=by
 intro cs x h _
 obtain⟨i,rfl,_,hw⟩:=DataW.trod_int ht h
 exact⟨i,hw,.one (.int k i)⟩
theorem rd_bool {t:TypeId} (ht:P.underlying t=some .bool) (n:Nat):Rd enc P W nm n t (fun b:Bool=>[.bool b]) (fun _=>True):=by
 intro cs x h _
 obtain⟨b,rfl,_⟩:=DataW.trod_bool ht h
 exact⟨b,trivial,.one (.bool b)⟩
theorem rd_str {t:TypeId} (ht:P.underlying t=some .string) (n:Nat):Rd enc P W nm n t (fun s:ByteArray=>[.str s]) (fun s=>s.size<=reachBytes):=by
 intro cs x h hw
 obtain⟨s,rfl,rfl,_⟩:=DataW.trod_string ht h
 refine⟨s,?_,.one (.str s)⟩
 simp only[DataW.weights,List.all_cons,List.all_nil,Bool.and_true,decide_eq_true_eq]at hw
 rw[Array.length_toList]at hw
 exact hw
theorem weightsAll_mem {e:TypeId}: ∀{l:List (DataW H)},(DataW.weightsAll P e l).all (· <=reachBytes)=true-> ∀d∈l,(d.weights P e).all (· <=reachBytes)=true
 | [],_,d,hd=>by simp at hd
 | x::r,h,d,hd=>by
   rw[DataW.weightsAll,List.all_append,Bool.and_eq_true]at h
   rcases List.mem_cons.1 hd with rfl | hd
   ·exact h.1
   ·exact weightsAll_mem h.2 d hd
theorem cells?_get {base:Nat} {a:Addr} {n:Nat} {cs:List Value} (h:W.cells? base a n=some cs):cs.length=n/\ ∀j,j<n->W.cell? (a.add j)=cs[j]? :=by
 unfold World.cells? at h
 split at h
 ·exact⟨by simpa using mapM_some_length h,fun j hj=>by simpa using mapM_some_get h j j (by simp[hj])⟩
 ·simp at h
theorem cell?_spot {a:Addr} {v:Value} (h:W.cell? a=some v):a.spot=none/\a.block<W.heap.size:=by
 unfold World.cell? at h
 split at h
 ·rename_i hb
  split at h
  ·simp at h
  ·rename_i hs
   refine⟨by cases hsp:a.spot<;>simp_all,?_⟩
   have:=Array.getElem?_eq_some_iff.1 hb
   exact this.1
 ·simp at h
theorem choose_list {α:Type} {Q:Nat->α->Prop}: ∀(n:Nat),(∀i,i<n-> ∃a,Q i a)-> ∃l:List α,l.length=n/\ ∀(i:Nat) (a:α),l[i]? =some a->Q i a
 | 0,_=>⟨[],rfl,fun i a h=>by simp at h⟩
 | n+1,h=>by
   obtain⟨l,hl,hq⟩:=choose_list n (fun i hi=>h i (by omega))
   obtain⟨a,ha⟩:=h n (by omega)
   refine⟨l++[a],by simp[hl],fun i b hb=> ?_⟩
   rw[List.getElem?_append]at hb
   split at hb
   ·exact hq i b hb
   ·rename_i hlt
    have:i=n:=by
     have:=(List.getElem?_eq_some_iff.1 hb).1
     simp at this;omega
    subst this
    simp[hl]at hb
    exact hb▸ha
theorem rd_slice {α:Type} {t e:TypeId} {f:α->List T} {good:α->Prop} (ht:P.underlying t=some (.slice e)) (hb:0<P.bytesOf e) (hc:0<P.cellsOf e) (n:Nat) (h: ∀m,m<n->Rd enc P W nm m e f good):
 Rd enc P W nm n t (fun l:List α=>[.sl (l.map f)]) (fun l=>l.length<=reachBytes/\ ∀a∈l,good a):=by
 intro cs x htr hw
 rcases DataW.trod_slice ht htr with⟨rfl,_⟩ | ⟨a,len,cap,elems,rest,m,rfl,rfl,rfl,_,hlc,_,hel,hread,_,_⟩
 ·exact⟨[],⟨by simp,by simp⟩,.one (.sl0 none 0)⟩
 ·simp only[DataW.weights,ht,List.all_cons,List.all_append,Bool.and_eq_true,decide_eq_true_eq,List.length_map]at hw
  have hpt: ∀i,i<len-> ∃b:α,good b/\ ∃ci,W.cells? 0 (a.add (i*P.cellsOf e)) (P.cellsOf e)=some ci/\Reps W nm ci (f b):=by
   intro i hi
   have h1:=hread i hi
   obtain⟨z,hz⟩: ∃z,elems[i]? =some z:=⟨_,List.getElem?_eq_getElem (by omega)⟩
   rw[hz,Option.bind_eq_some_iff]at h1
   obtain⟨ci,hci,htz⟩:=h1
   have hwz:=weightsAll_mem hw.2.1 z.1 (List.mem_map.2 ⟨z,List.mem_of_getElem? hz,rfl⟩)
   obtain⟨b,hg,hr⟩:=h m (by omega) ci z htz hwz
   exact⟨b,hg,ci,hci,hr⟩
  obtain⟨l,hl,hq⟩:=choose_list len hpt
  refine⟨l,⟨?_,fun b hb=> ?_⟩,.one ?_⟩
  ·have:elems.length*1<=(elems.length+rest.length)*P.bytesOf e:=Nat.mul_le_mul (by omega) hb
   omega
  ·obtain⟨i,hi⟩:=List.getElem?_of_mem hb
   exact(hq i b hi).1
  ·by_cases h0:len=0
   ·subst h0
    have:l=[]:=List.length_eq_zero_iff.1 hl
    subst this
    exact .sl0 _ _
   ·have hfl: ∀(i:Nat) (b:α),l[i]? =some b->(f b).length=P.cellsOf e:=by
     intro i b hi
     obtain⟨_,ci,hci,hr⟩:=hq i b hi
     rw[<- hr.1,(cells?_get hci).1]
    have hcell: ∀(i j:Nat) (b:α),l[i]? =some b->j<P.cellsOf e-> ∃v,W.cell? ((a.add (i*P.cellsOf e)).add j)=some v/\ ∀x,(f b)[j]? =some x->RepT W (fun r=>r<W.heap.size) nm v x:=by
     intro i j b hi hj
     obtain⟨_,ci,hci,hr⟩:=hq i b hi
     have hg:=cells?_get hci
     obtain⟨v,hv⟩: ∃v,ci[j]? =some v:=⟨_,List.getElem?_eq_getElem (by omega)⟩
     refine⟨v,by rw[hg.2 j hj,hv],fun x hx=> ?_⟩
     obtain⟨u,hu,hru⟩:=hr.2 j x hx
     rw[hv]at hu;cases hu;exact hru
    obtain⟨b0,hb0⟩: ∃b,l[0]? =some b:=⟨_,List.getElem?_eq_getElem (by omega)⟩
    obtain⟨v0,hv0,_⟩:=hcell 0 0 b0 hb0 hc
    have ha0:(a.add (0*P.cellsOf e)).add 0=a:=by simp[Addr.add]
    rw[ha0]at hv0
    obtain⟨hsp,hblk⟩:=cell?_spot hv0
    obtain⟨r,off,spot⟩:=a
    simp only at hsp hblk
    subst hsp
    have hadd: ∀i j,((⟨r,off,none⟩:Addr).add (i*P.cellsOf e)).add j=⟨r,off+i*P.cellsOf e+j,none⟩:=by
     intro i j
     unfold Addr.add
     split<;>split<;>simp_all
    have hlen:(l.map f).length=len:=by simp[hl]
    rw[show Value.slice (some ⟨r,off,none⟩) len cap=Value.slice (some ⟨r,off,none⟩) (l.map f).length cap by rw[hlen]]
    refine .sl r off cap (P.cellsOf e) (l.map f) (fun i j=>(W.cell? ⟨r,off+i*P.cellsOf e+j,none⟩).getD .nilFunc) (by omega) (by omega) hblk ?_ ?_ ?_
    ·intro i y hy
     rw[List.getElem?_map,Option.map_eq_some_iff]at hy
     obtain⟨b,hb,rfl⟩:=hy
     exact hfl i b hb
    ·intro i y j x hy hx
     rw[List.getElem?_map,Option.map_eq_some_iff]at hy
     obtain⟨b,hb,rfl⟩:=hy
     have hj:=(List.getElem?_eq_some_iff.1 hx).1
     rw[hfl i b hb]at hj
     obtain⟨v,hv,_⟩:=hcell i j b hb hj
     rw[hadd]at hv
     rw[hv];rfl
    ·intro i y j x hy hx
     rw[List.getElem?_map,Option.map_eq_some_iff]at hy
     obtain⟨b,hb,rfl⟩:=hy
     have hj:=(List.getElem?_eq_some_iff.1 hx).1
     rw[hfl i b hb]at hj
     obtain⟨v,hv,hr⟩:=hcell i j b hb hj
     rw[hadd]at hv
     rw[hv];exact hr x hx
theorem rdF_nil {n tot:Nat}:RdF enc P W nm n tot [] tot (fun _:Unit=>[]) (fun _=>True):=by
 intro cs xs hl _ _ _
 refine⟨(),trivial,?_⟩
 rw[List.drop_of_length_le (by omega)]
 exact⟨rfl,fun j x h=>by simp at h⟩
theorem rdF_cons {α β:Type} {n tot off sz:Nat} {t:TypeId} {fs:List (TypeId×Nat)} {f:α->List T} {good:α->Prop} {g:β->List T} {good':β->Prop}
 (hsz:P.cellsOf t=sz) (h:Rd enc P W nm n t f good) (h':RdF enc P W nm n tot fs (off+sz) g good'):
 RdF enc P W nm n tot ((t,off)::fs) off (fun q:α×β=>f q.1++g q.2) (fun q=>good q.1/\good' q.2):=by
 intro cs xs hl hxl hx hw
 cases xs with
 | nil=>simp at hxl
 | cons x r=>
   have h0:=hx 0 (t,off) rfl
   simp only[List.getElem?_cons_zero,hsz]at h0
   rw[List.map_cons,List.map_cons,DataW.weightsEach,List.all_append,Bool.and_eq_true]at hw
   obtain⟨a,ha,hra⟩:=h _ x h0 hw.1
   obtain⟨b,hb,hrb⟩:=h' cs r hl (by simpa using hxl) (fun i fd hi=>by simpa using hx (i+1) fd (by simpa using hi)) hw.2
   refine⟨(a,b),⟨ha,hb⟩,?_⟩
   have:cs.drop off=(cs.drop off).take sz++cs.drop (off+sz):=by rw[<- List.drop_drop,List.take_append_drop]
   rw[this]
   exact hra.append hrb
theorem rd_struct {α:Type} {t:TypeId} {fs:List (TypeId×Nat)} {tot:Nat} {f:α->List T} {good:α->Prop}
 (ht:(match P.underlying t with | some (.struct a)=>decide (a.toList.map (fun x=>(x.type,x.offset))=fs) | _=>false)=true) (htot:P.cellsOf t=tot) (n:Nat)
 (h: ∀m,m<n->RdF enc P W nm m tot fs 0 f good):Rd enc P W nm n t f good:=by
 intro cs x htr hw
 split at ht
 ·rename_i a hu
  rw[decide_eq_true_eq]at ht
  obtain⟨xs,m,rfl,rfl,hl,hxl,hx⟩:=DataW.trod_struct hu htr
  subst ht
  have:=h m (by omega) cs xs (by omega) (by simp[hxl]) (fun i fd hi=>by
   rw[List.getElem?_map,Option.map_eq_some_iff]at hi
   obtain⟨f',hf',rfl⟩:=hi
   exact hx i f' (by simpa using hf')) (by
   simp only[DataW.weights,hu]at hw
   rw[List.map_map]
   exact hw)
  simpa using this
 ·simp at ht
theorem Rd.conv {α β:Type} {t:TypeId} {n:Nat} {f:α->List T} {good:α->Prop} {g:β->List T} {good':β->Prop} (h:Rd enc P W nm n t f good) (hc: ∀a,good a-> ∃b,good' b/\f a=g b):Rd enc P W nm n t g good':=by
 intro cs x htr hw
 obtain⟨a,ha,hr⟩:=h cs x htr hw
 obtain⟨b,hb,he⟩:=hc a ha
 exact⟨b,hb,he▸hr⟩
end
end Rg
end
section
namespace Rg
open Go
structure Tys where
 int:Nat
 bool:Nat
 str:Nat
 u8:Nat
 ints:Nat
 bytes:Nat
 expr:Nat
 exprs:Nat
 cell:Nat
 cells:Nat
 assign:Nat
 assigns:Nat
 step:Nat
 steps:Nat
 loop:Nat
 loops:Nat
 thread:Nat
 threads:Nat
 contract:Nat
 contracts:Nat
 lock:Nat
 locks:Nat
 prog:Nat
 entry:Nat
 entries:Nat
 bufs:Nat
 config:Nat
 choice:Nat
def isInt (P:Program) (t:TypeId) (k:IntKind):Bool:=(match P.underlying t with | some (.int k')=>decide (k'=k) | _=>false)&&decide (P.cellsOf t=1)
def isBool (P:Program) (t:TypeId):Bool:=(match P.underlying t with | some .bool=>true | _=>false)&&decide (P.cellsOf t=1)
def isStr (P:Program) (t:TypeId):Bool:=(match P.underlying t with | some .string=>true | _=>false)&&decide (P.cellsOf t=1)
def isSl (P:Program) (t e:TypeId):Bool:=(match P.underlying t with | some (.slice e')=>decide (e'=e) | _=>false)&&decide (0<P.bytesOf e)&&decide (0<P.cellsOf e)&&decide (P.cellsOf t=1)
def isSt (P:Program) (t:TypeId) (tot:Nat) (fs:List (TypeId×Nat)):Bool:=
 (match P.underlying t with | some (.struct a)=>decide (a.toList.map (fun x=>(x.type,x.offset))=fs) | _=>false)&&decide (P.cellsOf t=tot)
structure Tys.Ok0 (P:Program) (y:Tys):Prop where
 int:isInt P y.int .i64=true
 bool:isBool P y.bool=true
 str:isStr P y.str=true
 u8:isInt P y.u8 .u8=true
 ints:isSl P y.ints y.int=true
 expr:isSt P y.expr 4 [(y.int,0),(y.int,1),(y.int,2),(y.exprs,3)]=true
 exprs:isSl P y.exprs y.expr=true
 cell:isSt P y.cell 6 [(y.str,0),(y.int,1),(y.int,2),(y.int,3),(y.bool,4),(y.int,5)]=true
 cells:isSl P y.cells y.cell=true
 assign:isSt P y.assign 5 [(y.int,0),(y.expr,1)]=true
 assigns:isSl P y.assigns y.assign=true
 step:isSt P y.step 11 [(y.int,0),(y.int,1),(y.int,2),(y.expr,3),(y.assigns,7),(y.bool,8),(y.int,9),(y.int,10)]=true
 steps:isSl P y.steps y.step=true
 loop:isSt P y.loop 6 [(y.int,0),(y.ints,1),(y.expr,2)]=true
 loops:isSl P y.loops y.loop=true
 thread:isSt P y.thread 7 [(y.str,0),(y.int,1),(y.exprs,2),(y.ints,3),(y.steps,4),(y.loops,5),(y.bool,6)]=true
 threads:isSl P y.threads y.thread=true
 contract:isSt P y.contract 11 [(y.str,0),(y.str,1),(y.expr,2),(y.expr,6),(y.ints,10)]=true
 contracts:isSl P y.contracts y.contract=true
 lock:isSt P y.lock 6 [(y.int,0),(y.expr,1),(y.int,5)]=true
 locks:isSl P y.locks y.lock=true
 prog:isSt P y.prog 4 [(y.cells,0),(y.contracts,1),(y.locks,2),(y.threads,3)]=true
structure Tys.OkP (P:Program) (y:Tys):Prop extends y.Ok0 P where
 bytes:isSl P y.bytes y.u8=true
structure Tys.Ok (P:Program) (y:Tys):Prop extends y.OkP P where
 entry:isSt P y.entry 2 [(y.ints,0),(y.ints,1)]=true
 entries:isSl P y.entries y.entry=true
 bufs:isSl P y.bufs y.entries=true
 config:isSt P y.config 3 [(y.ints,0),(y.ints,1),(y.bufs,2)]=true
 choice:isSt P y.choice 3 [(y.int,0),(y.int,1),(y.int,2)]=true
section
variable {P:Program} {t e:TypeId} {k:IntKind}
theorem isInt.u (h:isInt P t k=true):P.underlying t=some (.int k):=by
 simp only[isInt,Bool.and_eq_true]at h
 have h:=h.1
 split at h
 ·rename_i hu;rw[hu,of_decide_eq_true h]
 ·simp at h
theorem isInt.c (h:isInt P t k=true):P.cellsOf t=1:=by
 simp only[isInt,Bool.and_eq_true,decide_eq_true_eq]at h;exact h.2
theorem isBool.u (h:isBool P t=true):P.underlying t=some .bool:=by
 simp only[isBool,Bool.and_eq_true]at h
 have h:=h.1
 split at h
 ·rename_i hu;exact hu
 ·simp at h
theorem isBool.c (h:isBool P t=true):P.cellsOf t=1:=by
 simp only[isBool,Bool.and_eq_true,decide_eq_true_eq]at h;exact h.2
theorem isStr.u (h:isStr P t=true):P.underlying t=some .string:=by
 simp only[isStr,Bool.and_eq_true]at h
 have h:=h.1
 split at h
 ·rename_i hu;exact hu
 ·simp at h
theorem isStr.c (h:isStr P t=true):P.cellsOf t=1:=by
 simp only[isStr,Bool.and_eq_true,decide_eq_true_eq]at h;exact h.2
theorem isSl.u (h:isSl P t e=true):P.underlying t=some (.slice e):=by
 simp only[isSl,Bool.and_eq_true]at h
 have h:=h.1.1.1
 split at h
 ·rename_i hu;rw[hu,of_decide_eq_true h]
 ·simp at h
theorem isSl.p (h:isSl P t e=true):0<P.bytesOf e/\0<P.cellsOf e/\P.cellsOf t=1:=by
 simp only[isSl,Bool.and_eq_true,decide_eq_true_eq]at h;exact⟨h.1.1.2,h.1.2,h.2⟩
theorem isSl.c (h:isSl P t e=true):P.cellsOf t=1:=(isSl.p h).2.2
theorem isSt.c {tot:Nat} {fs:List (TypeId×Nat)} (h:isSt P t tot fs=true):P.cellsOf t=tot:=by
 simp only[isSt,Bool.and_eq_true,decide_eq_true_eq]at h;exact h.2
end
section
variable {H:Type} {enc:TypeId×Value->H} {P:Program} {W:World} {nm:Nat->Nat} {y:Tys}
theorem rd_sl {α:Type} {t e:TypeId} {f:α->List T} {good:α->Prop} (h:isSl P t e=true) (n:Nat) (hr: ∀m,m<n->Rd enc P W nm m e f good):
 Rd enc P W nm n t (fun l:List α=>[.sl (l.map f)]) (fun l=>l.length<=reachBytes/\ ∀a∈l,good a):=rd_slice (isSl.u h) (isSl.p h).1 (isSl.p h).2.1 n hr
theorem rd_st {α:Type} {t:TypeId} {fs:List (TypeId×Nat)} {tot:Nat} {f:α->List T} {good:α->Prop} (h:isSt P t tot fs=true) (n:Nat)
 (hr: ∀m,m<n->RdF enc P W nm m tot fs 0 f good):Rd enc P W nm n t f good:=by
 have hc:=isSt.c h
 simp only[isSt,Bool.and_eq_true]at h
 exact rd_struct h.1 hc n hr
theorem rd_i (hy:y.Ok0 P) (n:Nat):Rd enc P W nm n y.int (fun i:Int=>[ti i]) (fun _=>True):=
 (rd_int (isInt.u hy.int) n).conv fun i _=>⟨i,trivial,rfl⟩
theorem rd_b (hy:y.Ok0 P) (n:Nat):Rd enc P W nm n y.bool (fun b:Bool=>[tb b]) (fun _=>True):=rd_bool (isBool.u hy.bool) n
theorem rd_s (hy:y.Ok0 P) (n:Nat):Rd enc P W nm n y.str (fun s:ByteArray=>[.str s]) (fun s=>s.size<=reachBytes):=rd_str (isStr.u hy.str) n
theorem rd_ints (hy:y.Ok0 P) (n:Nat):Rd enc P W nm n y.ints (fun l:List Int=>[ints l]) (fun l=>l.length<=reachBytes):=
 (rd_sl hy.ints n fun m _=>rd_i hy m).conv fun l h=>⟨l,h.1,rfl⟩
theorem rd_expr (hy:y.Ok0 P) (n:Nat):Rd enc P W nm n y.expr Expr.enc (fun _=>True):=by
 induction n using Nat.strongRecOn with
 | _ n ih=>
   refine(rd_st hy.expr n fun m hm=>rdF_cons (isInt.c hy.int) (rd_i hy m) (rdF_cons (isInt.c hy.int) (rd_i hy m) (rdF_cons (isInt.c hy.int) (rd_i hy m) (rdF_cons (isSl.c hy.exprs) (rd_sl hy.exprs m fun j hj=>ih j (by omega)) rdF_nil)))).conv ?_
   rintro⟨op,w,k,ks,u⟩ _
   exact⟨.mk op w k ks,trivial,(Expr.enc_eq (.mk op w k ks)).symm⟩
theorem rd_exprs (hy:y.Ok0 P) (n:Nat):Rd enc P W nm n y.exprs (fun l:List Expr=>[.sl (l.map Expr.enc)]) (fun l=>l.length<=reachBytes):=
 (rd_sl hy.exprs n fun m _=>rd_expr hy m).conv fun l h=>⟨l,h.1,rfl⟩
theorem rd_cell (hy:y.Ok0 P) (n:Nat):Rd enc P W nm n y.cell Cell.enc (fun c=>c.name.size<=reachBytes):=by
 refine(rd_st hy.cell n fun m hm=>rdF_cons (isStr.c hy.str) (rd_s hy m) (rdF_cons (isInt.c hy.int) (rd_i hy m) (rdF_cons (isInt.c hy.int) (rd_i hy m) (rdF_cons (isInt.c hy.int) (rd_i hy m) (rdF_cons (isBool.c hy.bool) (rd_b hy m) (rdF_cons (isInt.c hy.int) (rd_i hy m) rdF_nil)))))).conv ?_
 rintro⟨a,b,c,d,e,f,u⟩ h
 exact⟨⟨a,b,c,d,e,f⟩,h.1,rfl⟩
theorem rd_assign (hy:y.Ok0 P) (n:Nat):Rd enc P W nm n y.assign Assign.enc (fun _=>True):=by
 refine(rd_st hy.assign n fun m hm=>rdF_cons (isInt.c hy.int) (rd_i hy m) (rdF_cons (isSt.c hy.expr) (rd_expr hy m) rdF_nil)).conv ?_
 rintro⟨a,b,u⟩ h
 exact⟨⟨a,b⟩,trivial,by simp[Assign.enc]⟩
theorem rd_assigns (hy:y.Ok0 P) (n:Nat):Rd enc P W nm n y.assigns (fun l:List Assign=>[.sl (l.map Assign.enc)]) (fun l=>l.length<=reachBytes):=
 (rd_sl hy.assigns n fun m _=>rd_assign hy m).conv fun l h=>⟨l,h.1,rfl⟩
theorem rd_step (hy:y.Ok0 P) (n:Nat):Rd enc P W nm n y.step Step.enc (fun s=>s.set.length<=reachBytes):=by
 refine(rd_st hy.step n fun m hm=>rdF_cons (isInt.c hy.int) (rd_i hy m) (rdF_cons (isInt.c hy.int) (rd_i hy m) (rdF_cons (isInt.c hy.int) (rd_i hy m) (rdF_cons (isSt.c hy.expr) (rd_expr hy m) (rdF_cons (isSl.c hy.assigns) (rd_assigns hy m) (rdF_cons (isBool.c hy.bool) (rd_b hy m)
  (rdF_cons (isInt.c hy.int) (rd_i hy m) (rdF_cons (isInt.c hy.int) (rd_i hy m) rdF_nil)))))))).conv ?_
 rintro⟨a,b,c,d,e,f,g,i,u⟩ h
 exact⟨⟨a,b,c,d,e,f,g,i⟩,h.2.2.2.2.1,by simp[Step.enc]⟩
theorem rd_loop (hy:y.Ok0 P) (n:Nat):Rd enc P W nm n y.loop Loop.enc (fun x=>x.body.length<=reachBytes):=by
 refine(rd_st hy.loop n fun m hm=>rdF_cons (isInt.c hy.int) (rd_i hy m) (rdF_cons (isSl.c hy.ints) (rd_ints hy m) (rdF_cons (isSt.c hy.expr) (rd_expr hy m) rdF_nil))).conv ?_
 rintro⟨a,b,c,u⟩ h
 exact⟨⟨a,b,c⟩,h.2.1,by simp[Loop.enc]⟩
structure Thread.inMem (x:Thread):Prop where
 name:x.name.size<=reachBytes
 steps:x.steps.length<=reachBytes
 asserts:x.asserts.length<=reachBytes
 modules:x.modules.length<=reachBytes
 loops:x.loops.length<=reachBytes
 sets: ∀s∈x.steps,s.set.length<=reachBytes
 bodies: ∀l∈x.loops,l.body.length<=reachBytes
theorem rd_thread (hy:y.Ok0 P) (n:Nat):Rd enc P W nm n y.thread Thread.enc Thread.inMem:=by
 refine(rd_st hy.thread n fun m hm=>rdF_cons (isStr.c hy.str) (rd_s hy m) (rdF_cons (isInt.c hy.int) (rd_i hy m) (rdF_cons (isSl.c hy.exprs) (rd_exprs hy m) (rdF_cons (isSl.c hy.ints) (rd_ints hy m)
  (rdF_cons (isSl.c hy.steps) (rd_sl hy.steps m fun j _=>rd_step hy j) (rdF_cons (isSl.c hy.loops) (rd_sl hy.loops m fun j _=>rd_loop hy j) (rdF_cons (isBool.c hy.bool) (rd_b hy m) rdF_nil))))))).conv ?_
 rintro⟨a,b,c,d,e,f,g,u⟩ h
 exact⟨⟨a,b,c,d,e,f,g⟩,⟨h.1,h.2.2.2.2.1.1,h.2.2.1,h.2.2.2.1,h.2.2.2.2.2.1.1,h.2.2.2.2.1.2,h.2.2.2.2.2.1.2⟩,rfl⟩
theorem rd_contract (hy:y.Ok0 P) (n:Nat):Rd enc P W nm n y.contract Contract.enc (fun x=>x.name.size<=reachBytes/\x.owner.size<=reachBytes/\x.frame.length<=reachBytes):=by
 refine(rd_st hy.contract n fun m hm=>rdF_cons (isStr.c hy.str) (rd_s hy m) (rdF_cons (isStr.c hy.str) (rd_s hy m) (rdF_cons (isSt.c hy.expr) (rd_expr hy m) (rdF_cons (isSt.c hy.expr) (rd_expr hy m) (rdF_cons (isSl.c hy.ints) (rd_ints hy m) rdF_nil))))).conv ?_
 rintro⟨a,b,c,d,e,u⟩ h
 exact⟨⟨a,b,c,d,e⟩,⟨h.1,h.2.1,h.2.2.2.2.1⟩,by simp[Contract.enc]⟩
theorem rd_lock (hy:y.Ok0 P) (n:Nat):Rd enc P W nm n y.lock Lock.enc (fun _=>True):=by
 refine(rd_st hy.lock n fun m hm=>rdF_cons (isInt.c hy.int) (rd_i hy m) (rdF_cons (isSt.c hy.expr) (rd_expr hy m) (rdF_cons (isInt.c hy.int) (rd_i hy m) rdF_nil))).conv ?_
 rintro⟨a,b,c,u⟩ h
 exact⟨⟨a,b,c⟩,trivial,by simp[Lock.enc]⟩
structure Prog.inMem (p:Prog):Prop where
 cells: ∀c∈p.cells,c.name.size<=reachBytes
 modules: ∀m∈p.modules,m.name.size<=reachBytes/\m.owner.size<=reachBytes/\m.frame.length<=reachBytes
 threads: ∀x∈p.threads,x.inMem
 nCells:p.cells.length<=reachBytes
 nModules:p.modules.length<=reachBytes
 nLocks:p.locks.length<=reachBytes
 nThreads:p.threads.length<=reachBytes
theorem rd_prog (hy:y.Ok0 P) (n:Nat):Rd enc P W nm n y.prog Prog.enc Prog.inMem:=by
 refine(rd_st hy.prog n fun m hm=>rdF_cons (isSl.c hy.cells) (rd_sl hy.cells m fun j _=>rd_cell hy j) (rdF_cons (isSl.c hy.contracts) (rd_sl hy.contracts m fun j _=>rd_contract hy j)
  (rdF_cons (isSl.c hy.locks) (rd_sl hy.locks m fun j _=>rd_lock hy j) (rdF_cons (isSl.c hy.threads) (rd_sl hy.threads m fun j _=>rd_thread hy j) rdF_nil)))).conv ?_
 rintro⟨a,b,c,d,u⟩ h
 exact⟨⟨a,b,c,d⟩,⟨h.1.2,h.2.1.2,h.2.2.2.1.2,h.1.1,h.2.1.1,h.2.2.1.1,h.2.2.2.1.1⟩,rfl⟩
end
end Rg
end
section
namespace Rg
open Go Go.ChangeShapes
section
variable {H:Type} {enc:TypeId×Value->H} {P:Program}
theorem trodAll_stays {W W':World} {sp:Nat->Bool} (hl:laidOutB P=true): ∀{ts:List TypeId} {vs:List Value} {ds:List (DataW H)} {ps:List MemPlace},
 (∀t∈ts,P.readableRec t=true/\t<P.types.size)->DataW.TrodAll enc P W 0 (fun _=>true) true ts vs ds ps->(∀p∈ps,W.sameAt W' p)->(∀p∈ps,sp p.block=true)->DataW.TrodAll enc P W' 0 sp true ts vs ds ps
 | [],[],[],ps,_,h,_,_=>h
 | t::ts,v::vs,d::ds,ps,hr,h,hs,hp=>by
   obtain⟨p,q,h1,h2,rfl⟩:=h
   exact⟨p,q,WideElems.Trod_stays hl (hr t List.mem_cons_self).1 (hr t List.mem_cons_self).2 h1 (fun x hx=>hs x (List.mem_append_left _ hx)) (fun x hx=>hp x (List.mem_append_left _ hx)),
    trodAll_stays hl (fun t ht=>hr t (List.mem_cons_of_mem _ ht)) h2 (fun x hx=>hs x (List.mem_append_right _ hx)) (fun x hx=>hp x (List.mem_append_right _ hx)),rfl⟩
 | [],[],_::_,_,_,h,_,_=>by cases h
 | [],_::_,_,_,_,h,_,_=>by cases h
 | _::_,[],_,_,_,h,_,_=>by cases h
 | _::_,_::_,[],_,_,h,_,_=>by cases h
theorem same_of_heap {W W':World} (h: ∀q,q<W.heap.size->W'.heap[q]? =W.heap[q]?) {p:MemPlace} (hp:p.block<W.heap.size):W.sameAt W' p:=by
 cases p with
 | cell b off=>exact cell?_eq (h b hp)
 | map b=>exact h b hp
theorem kept_of_heap {W W':World} (ho:W'.os=W.os) (hu:W'.output=W.output) (h: ∀q,q<W.heap.size->W'.heap[q]? =W.heap[q]?) (may:MemPlace->Prop):W.keptBut W' may:=by
 refine⟨ho,hu,fun i hi=> ?_⟩
 rw[h i hi]
 split
 ·rename_i h1 h2
  rw[h1]at h2;cases h2
  exact⟨rfl,rfl,rfl,fun _ _=>rfl⟩
 ·rename_i h1 h2
  rw[h1]at h2;cases h2
  exact .inr ⟨rfl,rfl⟩
 ·rfl
theorem calls_true {N:Nam} {g f:Nat} {fn:Func} {s:ChangeSpec} {W:World} {args:Array Value} {ds gs:List (DataW H)} {before:List MemPlace} {av:List V} {tb:TypeId}
 (hp:PureOK P N g av (vb true)) (hg:N.nm g=f) (hG:GlobOK N (fun r=>r<W.heap.size) W) (ha:RepArgs W (fun r=>r<W.heap.size) N.nm (fun _=>0) (fun _=>none) args av)
 (hl:laidOutB P=true) (hr: ∀t∈fn.params.toList,P.readableRec t=true/\t<P.types.size) (hrt:fn.resultTypes= #[tb]) (htb:P.underlying tb=some .bool)
 (hv:s.vars=[]) (hW:DataW.Whole enc P fn.params.toList s.vars false W args.toList ds gs before)
 (hs:gs=[]->s.fn H (ds++gs)= { results:=[.lit (.bool true)],args:=ds }):
 Calls P f args W fun e W'=> ∃v,e= .returned v/\s.post enc P fn false true false false W args v W':=by
 subst hg
 refine(hp _ W args (fun r h=>h) hG ha).mono fun e W' ⟨v,he,⟨ho,hu⟩,hsz,hhp,hrv⟩=>⟨v,he,?_⟩
 have hvt:v= .bool true:=by
  have h1:RepT W' _ N.nm v (.bool true):=RepV.t_inv hrv
  cases h1;rfl
 subst hvt
 have hlt:=hW.lt
 have hW':=hW
 obtain⟨p,q,hA,hV,rfl,hfz,hnd⟩:=hW'
 have hgs:gs=[]/\q=[]:=by rw[hv]at hV;exact trodVars_none hV
 obtain⟨rfl,rfl⟩:=hgs
 refine⟨ds,[],p++[],[],p,[],hW,?_,?_,?_,kept_of_heap ho hu hhp _,fun h=>by cases h⟩
 ·rw[hs rfl,hrt]
  exact trodAll_mk1 ⟨1,by simp[DataW.trod,htb,Value.cells]⟩
 ·rw[hs rfl]
  refine trodAll_stays hl hr hA (fun x hx=>same_of_heap hhp (hlt x (by simpa using hx))) (fun x hx=> ?_)
  simpa using hlt x (by simpa using hx)
 ·rw[hs rfl,hv];rfl
end
section
variable {W:World} {nm:Nat->Nat} {A:Nat->Prop} {μ:Nat->Nat} {HO:Nat->Option O}
theorem repArgs_list: ∀{vs:List Value} {xs:List V},vs.length=xs.length->(∀(i:Nat) (x:V) (v:Value),xs[i]? =some x->vs[i]? =some v->RepV W A nm μ HO v x)->RepArgs W A nm μ HO vs.toArray xs
 | vs,xs,hl,h=>⟨by simpa using hl,fun i x hx=>by
    have:i<vs.length:=by rw[hl];exact(List.getElem?_eq_some_iff.1 hx).1
    exact⟨vs[i],by simp,h i x _ hx (by simp)⟩⟩
theorem reps_agg {cs:Array Value} {xs:List T} (h:Reps W nm cs.toList xs):RepV W (fun r=>r<W.heap.size) nm μ HO (.agg cs) (.agg (xs.map V.t)):=by
 refine⟨cs,rfl,by rw[List.length_map];exact h.1,fun i c hc=> ?_⟩
 rw[List.getElem?_map,Option.map_eq_some_iff]at hc
 obtain⟨x,hx,rfl⟩:=hc
 obtain⟨v,hv,hr⟩:=h.2 i x hx
 exact⟨v,hv,.t hr⟩
theorem reps_one {v:Value} {x:T} (h:Reps W nm [v] [x]):RepV W (fun r=>r<W.heap.size) nm μ HO v (.t x):=by
 obtain⟨u,hu,hr⟩:=h.2 0 x rfl
 simp at hu;subst hu
 exact RepC.toV (.t hr)
end
end Rg
end
section
namespace Rg
open Go
def litT:Lit->T
 | .int k n=> .int k n
 | .string s=> .str ⟨s.toArray⟩
 | .bool b=> .bool b
 | _=> .nilp
theorem laidVars_mem {P:Program} {W:World}: ∀{laid:List (String×DataW Unit)} {ps:List MemPlace},DataW.LaidVars P W laid ps-> ∀{nm:String} {d:DataW Unit},(nm,d)∈laid->
 ∃g t cs f q,P.globalNamed nm=some g/\(P.globals[g]?).map (·.type)=some t/\W.var? P nm=some cs/\DataW.trod (fun _=>()) P W 0 (fun _=>true) false f t cs.toList=some (d,q)
 | [],_,_,_,_,hm=>by cases hm
 | (a,b)::r,ps,h,nm,d,hm=>by
   obtain⟨g,t,cs,f,p0,q0,h1,h2,h3,h4,h5,h6⟩:=h
   rcases List.mem_cons.1 hm with hm | hm
   ·cases hm
    exact⟨g,t,cs,f,p0,h1,h2,h3,h4⟩
   ·exact laidVars_mem h5 hm
theorem glob_one {P:Program} {W:World} {N:Nam} {laid:List (String×DataW Unit)} {nm:String} {g k:Nat} {t e:TypeId} {ls:List Lit}
 (hpl:(laid.all fun x=>x.2.handleName?.isNone)=true) (h:laidMetH P laid W) (hmem:(nm,.agg (ls.map DataW.lit))∈laid)
 (hg:P.globalNamed nm=some g) (ht:(P.globals[g]?).map (·.type)=some t) (hu:P.underlying t=some (.array ls.length e)) (he:P.underlying e=some .string\/ ∃k,P.underlying e=some (.int k)) (hc:P.cellsOf e=1) (hn:P.cellsOf t=ls.length)
 (hgm:N.gm k=g) (hG:N.G k=ls.map litT) (j:Nat) (x:T) (hx:(N.G k)[j]? =some x):
 N.gm k<W.heap.size/\(∃e,W.shape? (N.gm k)=some (e,(N.G k).length))/\ ∃v,W.cell? ⟨N.gm k,j,none⟩=some v/\RepT W (fun r=>r<W.heap.size) N.nm v x:=by
 rw[MakeChecks.laidMetH_plain _ _ _ hpl]at h
 obtain⟨ps,hv,_⟩:=h
 obtain⟨g0,t0,cs0,f0,q0,hg0,ht0,hv0,hd0⟩:=laidVars_mem hv hmem
 obtain rfl:=Option.some.inj (hg.symm.trans hg0)
 obtain rfl:=Option.some.inj (ht.symm.trans ht0)
 obtain⟨xs,m1,rfl,hx1,hlen,hxl,hel⟩:=DataW.trod_array hu hd0
 simp only[Prod.mk.injEq,DataW.agg.injEq]at hx1
 rw[hG,List.getElem?_map,Option.map_eq_some_iff]at hx
 obtain⟨m,hm,rfl⟩:=hx
 have hj:j<ls.length:=(List.getElem?_eq_some_iff.1 hm).1
 obtain⟨y,hy⟩: ∃y,xs[j]? =some y:=⟨_,List.getElem?_eq_getElem (by omega)⟩
 have hy1:y.1= .lit m:=by
  have h2:=congrArg (·[j]?) hx1.1
  simp only[List.getElem?_map,hm,hy,Option.map_some,Option.some.injEq]at h2
  exact h2.symm
 have h3:=hel j hj
 rw[hy,hc,Nat.mul_one]at h3
 have hfirst: ∀v:Value,(cs0.toList.drop j).take 1=[v]->cs0[j]? =some v:=by
  intro v hq
  have h4:=congrArg (·[0]?) hq
  simp only[List.getElem?_take,List.getElem?_drop,Nat.add_zero]at h4
  simpa using h4
 have hval: ∃v,cs0[j]? =some v/\RepT W (fun r=>r<W.heap.size) N.nm v (litT m):=by
  rcases he with he | ⟨kk,he⟩
  ·obtain⟨s,hs,hys,_⟩:=DataW.trod_string he h3
   have:m= .string s.data.toList:=by rw[hys]at hy1;simpa using hy1.symm
   subst this
   refine⟨.string s,hfirst _ hs,?_⟩
   have:litT (.string s.data.toList)= .str s:=by simp[litT]
   rw[this]
   exact .str s
  ·obtain⟨q,hq,hyq,_⟩:=DataW.trod_int he h3
   have:m= .int kk q:=by rw[hyq]at hy1;simpa using hy1.symm
   subst this
   exact⟨.int kk q,hfirst _ hq,.int kk q⟩
 obtain⟨v,hvj,hrep⟩:=hval
 have hcell:W.cell? ⟨g,j,none⟩=some v:=by rw[World.var?_cell hg0 hv0 j];exact hvj
 rw[hgm]
 refine⟨(cell?_spot hcell).2,?_,v,hcell,hrep⟩
 unfold World.var? at hv0
 rw[hg]at hv0
 simp only[Option.bind_some]at hv0
 unfold World.shape?
 split at hv0
 ·rename_i cs e0 z hb
  simp only[Option.some.injEq]at hv0
  subst hv0
  rw[hb]
  refine⟨e0,?_⟩
  simp only[Option.some.injEq,Prod.mk.injEq,true_and]
  have h5:=hlen
  rw[Array.length_toList]at h5
  rw[h5,hG,List.length_map,hn]
 ·cases hv0
theorem inv_ok {tbl:List Nat} {gi:Nat->Option Nat} {gm:Nat->Nat} {G:Nat->List T} {cr:Code->Nat->C->Prop} {tB tU:Nat} (hg: ∀q k,gi q=some k->gm k=q/\G k≠[]):
 Inv.Ok ⟨fun f=>tbl.findIdx? (· ==f),gi,some tB⟩ ⟨fun k=>tbl.getD k 0,gm,G,cr,tB,tU⟩:=by
 refine⟨fun f k h=> ?_,hg,fun t h=>by cases h;rfl⟩
 obtain⟨hlt,he,_⟩:=List.findIdx?_eq_some_iff_getElem.1 h
 show tbl.getD k 0=f
 rw[List.getD_eq_getElem?_getD,List.getElem?_eq_getElem hlt]
 simpa using he
theorem lookup_mem {α:Type} {k:Nat} {v:α}: ∀{l:List (Nat×α)},l.lookup k=some v->(k,v)∈l
 | [],h=>by simp at h
 | (a,b)::r,h=>by
   rw[List.lookup_cons]at h
   split at h
   ·rename_i hk
    simp only[beq_iff_eq]at hk
    cases h;subst hk
    exact List.mem_cons_self
   ·exact List.mem_cons_of_mem _ (lookup_mem h)
end Rg
end
section
namespace Rg
open Go
section
variable {H:Type} {enc:TypeId×Value->H} {P:Program} {W:World} {nm μ:Nat->Nat} {HO:Nat->Option O} {y:Tys}
theorem trodAll_nil {sp:Nat->Bool} {vs:List Value} {ds:List (DataW H)} {ps:List MemPlace} (h:DataW.TrodAll enc P W 0 sp true [] vs ds ps):vs=[]/\ds=[]:=by
 cases vs<;>cases ds<;>first | exact⟨rfl,rfl⟩ | cases h
theorem trodAll_cons {sp:Nat->Bool} {t:TypeId} {ts:List TypeId} {vs:List Value} {ds:List (DataW H)} {ps:List MemPlace} (h:DataW.TrodAll enc P W 0 sp true (t::ts) vs ds ps):
 ∃v vs' d ds' p q,vs=v::vs'/\ds=d::ds'/\DataW.Trod enc P W 0 sp true t v d p/\DataW.TrodAll enc P W 0 sp true ts vs' ds' q:=by
 cases vs with
 | nil=>cases h
 | cons v vs=>
   cases ds with
   | nil=>cases h
   | cons d ds=>
     obtain⟨p,q,h1,h2,_⟩:=h
     exact⟨v,vs,d,ds,p,q,rfl,rfl,h1,h2⟩
theorem weights_cons {t:TypeId} {ts:List TypeId} {d:DataW H} {ds:List (DataW H)} (h:(DataW.weightsEach P (t::ts) (d::ds)).all (· <=reachBytes)=true):
 (d.weights P t).all (· <=reachBytes)=true/\(DataW.weightsEach P ts ds).all (· <=reachBytes)=true:=by
 rw[DataW.weightsEach,List.all_append,Bool.and_eq_true]at h;exact h
theorem arg_st {α:Type} {t:TypeId} {tot:Nat} {fs:List (TypeId×Nat)} {f:α->List T} {good:α->Prop} {v:Value} {d:DataW H} {p:List MemPlace} {base:Nat} (hs:isSt P t tot fs=true) (hr: ∀n,Rd enc P W nm n t f good)
 (hv:Value.okWide P W .any base t v) (ht:DataW.Trod enc P W 0 (fun _=>true) true t v d p) (hw:(d.weights P t).all (· <=reachBytes)=true):
 ∃a,good a/\RepV W (fun r=>r<W.heap.size) nm μ HO v (.agg ((f a).map V.t)):=by
 obtain⟨n,hn⟩:=ht
 obtain⟨a,ha,hra⟩:=hr n _ _ hn hw
 refine⟨a,ha,?_⟩
 simp only[isSt,Bool.and_eq_true]at hs
 have h1:=hs.1
 split at h1
 ·rename_i u hu
  unfold Value.okWide at hv
  rw[hu]at hv
  obtain⟨cs,rfl,_⟩:=hv
  exact reps_agg (by simpa[Value.cells]using hra)
 ·simp at h1
theorem arg_sl {α:Type} {t e:TypeId} {f:α->T} {good:α->Prop} {v:Value} {d:DataW H} {p:List MemPlace} {base:Nat} (hs:isSl P t e=true) (hr: ∀n,Rd enc P W nm n t (fun a=>[f a]) good)
 (hv:Value.okWide P W .any base t v) (ht:DataW.Trod enc P W 0 (fun _=>true) true t v d p) (hw:(d.weights P t).all (· <=reachBytes)=true):
 ∃a,good a/\RepV W (fun r=>r<W.heap.size) nm μ HO v (.t (f a)):=by
 obtain⟨n,hn⟩:=ht
 obtain⟨a,ha,hra⟩:=hr n _ _ hn hw
 refine⟨a,ha,?_⟩
 have hu:=isSl.u hs
 unfold Value.okWide Cell.okWide Cell.ok at hv
 rw[hu]at hv
 cases v<;>first | exact reps_one (by simpa[Value.cells]using hra) | exact absurd hv (by simp)
theorem arg_int {α:Type} {t:TypeId} {k:IntKind} {f:α->T} {good:α->Prop} {v:Value} {d:DataW H} {p:List MemPlace} {base:Nat} (hs:isInt P t k=true) (hr: ∀n,Rd enc P W nm n t (fun a=>[f a]) good)
 (hv:Value.okWide P W .any base t v) (ht:DataW.Trod enc P W 0 (fun _=>true) true t v d p) (hw:(d.weights P t).all (· <=reachBytes)=true):
 ∃a,good a/\RepV W (fun r=>r<W.heap.size) nm μ HO v (.t (f a)):=by
 obtain⟨n,hn⟩:=ht
 obtain⟨a,ha,hra⟩:=hr n _ _ hn hw
 refine⟨a,ha,?_⟩
 have hu:=isInt.u hs
 unfold Value.okWide Cell.okWide Cell.ok at hv
 rw[hu]at hv
 cases v<;>first | exact reps_one (by simpa[Value.cells]using hra) | exact absurd hv (by simp)
theorem Prog.inMem.lite {p:Prog} (h:p.inMem):(∀x∈p.threads,x.steps.length<2^50)/\(∀c∈p.cells,c.name.size<2^50)/\(∀m∈p.modules,m.name.size<2^50/\m.owner.size<2^50)/\(∀t∈p.threads,t.name.size<2^50):=by
 have hb:reachBytes<2^50:=by decide
 exact⟨fun x hx=>Nat.lt_of_le_of_lt (h.threads x hx).steps hb,fun c hc=>Nat.lt_of_le_of_lt (h.cells c hc) hb,
  fun m hm=>⟨Nat.lt_of_le_of_lt (h.modules m hm).1 hb,Nat.lt_of_le_of_lt (h.modules m hm).2.1 hb⟩,fun x hx=>Nat.lt_of_le_of_lt (h.threads x hx).name hb⟩
end
end Rg
end
