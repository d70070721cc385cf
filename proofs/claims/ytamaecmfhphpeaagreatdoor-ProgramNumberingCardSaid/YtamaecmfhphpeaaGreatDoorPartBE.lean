/- Part of the proof of the laws of the package relyguardlaw07: an abstract machine for the program's functions, what they compute, and that the machine is the program's. No condition. (H35a H35b) -/
import Derived.Test.YtamaecmfhphpeaaGreatDoorPartBD
set_option linter.unusedSimpArgs false
set_option linter.unusedVariables false
section
set_option maxRecDepth 100000
namespace Rg
open Go
def tau (to:List Int) (n:Int):Int:=if 0<=n/\n<to.length then to.getD n.toNat 0 else n
namespace Expr
mutual
def mv (to:List Int):Expr->Expr
 | .mk op w n k => .mk op w (if op=2\/op=3 then tau to n else n) (mvs to k)
def mvs (to:List Int):List Expr->List Expr
 | []=>[]
 | e::r=>mv to e::mvs to r
end
theorem mvs_eq (to:List Int) : ∀ l:List Expr,mvs to l=l.map (mv to)
 | []=>rfl
 | e::r=>by rw [mvs,mvs_eq to r]; rfl
theorem mv_op (to:List Int) (e:Expr):(e.mv to).op=e.op:=by cases e; rfl
theorem mv_w (to:List Int) (e:Expr):(e.mv to).w=e.w:=by cases e; rfl
theorem mv_n (to:List Int) (e:Expr):(e.mv to).n=if e.op=2\/e.op=3 then tau to e.n else e.n:=by cases e; rfl
theorem mv_kids (to:List Int) (e:Expr):(e.mv to).kids=e.kids.map (mv to):=by cases e; simp only [mv,kids,mvs_eq]
theorem mv_size (to:List Int) (e:Expr):(e.mv to).size=e.size:=by
 induction e using Expr.ind with
 | _ e ih =>
 rw [size_eq,size_eq e,mv_kids,List.map_map]
 congr 2
 exact List.map_congr_left ih
theorem mv_kw (to:List Int) (e:Expr) (i:Nat):(e.mv to).kw i=e.kw i:=by
 unfold kw
 rw [mv_kids]
 simp only [List.getD_eq_getElem?_getD,List.getElem?_map]
 cases e.kids[i]? with
 | none=>rfl
 | some k=>exact mv_w to k
theorem mv_one (to:List Int) (e:Expr):(e.mv to).one=e.one:=by
 unfold one
 rw [mv_op,mv_w,mv_n,mv_kids]
 by_cases h:e.op=1
 ·simp [h]
 ·simp [h]
theorem mv_absent (to:List Int) (e:Expr):(e.mv to).absent=e.absent:=by
 unfold absent
 rw [mv_op,mv_w,mv_n,mv_kids]
 by_cases h:e.op=0
 ·simp [h]
 ·simp [h]
theorem mv_lv (to:List Int) (e:Expr):(e.mv to).lv=e.lv.map (mv to):=by
 induction e using Expr.ind with
 | _ e ih =>
 rw [lv_eq,lv_eq e,mv_kids]
 by_cases h:e.kids=[]
 ·rw [if_pos h,if_pos (by rw [h]; rfl)]; rfl
 ·rw [if_neg h,if_neg (by simpa using h),List.flatMap_map,List.map_flatMap]
  have : ∀ l:List Expr,(∀ k∈l,k∈e.kids)->(l.flatMap fun k=>(k.mv to).lv)=l.flatMap fun k=>k.lv.map (mv to):=by
   intro l
   induction l with
   | nil=>intro _; rfl
   | cons k l ihl=>intro hl; rw [List.flatMap_cons,List.flatMap_cons,ih k (hl k (by simp)),ihl fun x hx=>hl x (by simp [hx])]
  exact this e.kids fun _ h=>h
end Expr
structure Ren (to:List Int) (cs cs' : List Cell):Prop where
 len:to.length=cs.length
 len' : cs'.length=cs.length
 rng : ∀ c:Int,0<=c->c<cs.length->0<=tau to c/\tau to c<cs.length
 inj : ∀ c d:Int,0<=c->c<cs.length->0<=d->d<cs.length->tau to c=tau to d->c=d
 surj : ∀ j:Nat,j<cs.length -> ∃ i:Nat,i<cs.length/\tau to i=j
 at_ : ∀ i:Nat,i<cs.length->cs'[(tau to i).toNat]? = cs[i]?
theorem Ren.atI {to:List Int} {cs cs' : List Cell} (R:Ren to cs cs') {c:Int} (h0:0<=c) (h1:c<cs.length):cs'[(tau to c).toNat]? = cs[c.toNat]? := by
 have:=R.at_ c.toNat (by omega)
 rwa [show ((c.toNat:Nat):Int)=c by omega] at this
theorem leaf_rng {cs:List Cell} {pr:Bool} {x:Expr} (hn:nodeOk x=true) (hl:leafOk cs pr x=true) (ho:x.op=2\/x.op=3):0<=x.n/\x.n<cs.length:=by
 have h0:=nodeOk_n hn
 refine ⟨h0, ?_⟩
 unfold leafOk at hl
 split at hl
 ·cases hl
 ·rw [if_pos ho.symm] at hl
  rcases hc:cs[x.n.toNat]? with _ | c
  ·simp [hc] at hl
  ·have:=(List.getElem?_eq_some_iff.1 hc).1; omega
section
variable {to:List Int} {cs cs' : List Cell} (R:Ren to cs cs') (h32:cs.length<=32)
include R h32
theorem leaf_mv {pr:Bool} {x:Expr} (hn:nodeOk x=true) (hl:leafOk cs pr x=true):nodeOk (x.mv to)=true/\leafOk cs' pr (x.mv to)=true:=by
 by_cases ho:x.op=2\/x.op=3
 ·obtain ⟨h0,h1⟩:=leaf_rng hn hl ho
  obtain ⟨r0,r1⟩:=R.rng x.n h0 h1
  have hat:=R.atI h0 h1
  have e1:(x.mv to).n=tau to x.n:=by rw [Expr.mv_n,if_pos ho]
  constructor
  ·unfold nodeOk at hn ⊢
   rw [e1,Expr.mv_op,Expr.mv_w,Expr.mv_kids,List.length_map]
   split at hn
   ·cases hn
   ·rename_i hb
    rw [if_neg hb]
    rcases ho with ho | ho
    ·rw [if_neg (by omega),if_pos (by omega)]
     simp only [decide_eq_true_eq]; omega
    ·rw [if_neg (by omega),if_pos (by omega)]
     simp only [decide_eq_true_eq]; omega
  ·unfold leafOk at hl ⊢
   rw [e1,Expr.mv_op,Expr.mv_w,hat]
   exact hl
 ·have e1:(x.mv to).n=x.n:=by rw [Expr.mv_n,if_neg ho]
  constructor
  ·unfold nodeOk at hn ⊢
   rw [e1,Expr.mv_op,Expr.mv_w,Expr.mv_kids,List.length_map,Expr.mv_kw,Expr.mv_kw,Expr.mv_kw]
   exact hn
  ·unfold leafOk
   rw [Expr.mv_op,if_neg (by omega),if_neg (by omega)]
theorem deep_mv {pr:Bool} : ∀ (d:Nat) (e:Expr),e.deep d=true->e.allE (leafOk cs pr)=true->(e.mv to).deep d=true/\(e.mv to).allE (leafOk cs' pr)=true:=by
 intro d
 induction d with
 | zero=>intro e h; simp [Expr.deep] at h
 | succ d ih =>
  intro e hd ha
  simp only [Expr.deep,Bool.and_eq_true,List.all_eq_true] at hd
  obtain ⟨g1,g2⟩:=leaf_mv R h32 hd.1 (Expr.allE_self ha)
  have hk : ∀ k∈e.kids,(k.mv to).deep d=true/\(k.mv to).allE (leafOk cs' pr)=true:=fun k hk=>ih k (hd.2 k hk) (Expr.allE_kid ha hk)
  constructor
  ·simp only [Expr.deep,g1,Bool.true_and,Expr.mv_kids,List.all_map,List.all_eq_true]
   exact fun k h=>(hk k h).1
  ·rw [Expr.allE_eq,g2,Bool.true_and,Expr.mv_kids,List.all_map,List.all_eq_true]
   exact fun k h=>(hk k h).2
theorem valid_mv {e:Expr} {pr:Bool} (h:e.valid cs pr=true):(e.mv to).valid cs' pr=true:=by
 simp only [Expr.valid,Expr.formed,Bool.and_eq_true,decide_eq_true_eq] at h ⊢
 obtain ⟨⟨h1,h2⟩,h3⟩:=h
 obtain ⟨g1,g2⟩:=deep_mv R h32 40 e h2 h3
 exact ⟨⟨by rw [Expr.mv_size]; exact h1,g1⟩,g2⟩
omit R h32 in
theorem sup_lv2 {op:Int} {e x:Expr} (hf:e.formed=true) (hx:x∈e.lv) (ho:x.op=op) (h0:0<=x.n) (h1:x.n<32):x.n∈e.sup op:=by
 rw [Expr.sup,if_pos hf]
 have:=(marked_mem (e.occ op) 32 x.n.toNat).2 ⟨by omega,fold_mark op e.lv _ (by simp; omega) ⟨x,hx,ho,rfl⟩⟩
 rwa [show ((x.n.toNat:Nat):Int)=x.n by omega] at this
theorem sup_mv {e:Expr} {pr:Bool} (h:e.valid cs pr=true) {op:Int} (hop:op=2\/op=3) {c:Int}:c∈(e.mv to).sup op <-> ∃ d∈e.sup op,(0<=d/\d<cs.length)/\c=tau to d:=by
 have hv:=valid_mv R h32 h
 simp only [Expr.valid,Bool.and_eq_true] at h hv
 have key : ∀ x∈e.lv,x.op=op->(0<=x.n/\x.n<cs.length)/\(x.mv to).n=tau to x.n:=fun x hx ho=>by
  have hn:=lv_deep (formed_deep h.1) hx
  have hl:=lv_allE h.2 hx
  refine ⟨leaf_rng hn hl (by omega), ?_⟩
  rw [Expr.mv_n,if_pos (by omega)]
 constructor
 ·intro hc
  obtain ⟨h0,_,x',hx',ho,hn⟩:=sup_mem hc
  rw [Expr.mv_lv] at hx'
  obtain ⟨x,hx,rfl⟩:=List.mem_map.1 hx'
  rw [Expr.mv_op] at ho
  obtain ⟨hr,hm⟩:=key x hx ho
  have hr2:=R.rng x.n hr.1 hr.2
  rw [hm] at hn
  exact ⟨x.n,sup_lv2 h.1 hx ho hr.1 (by omega),hr,by omega⟩
 ·rintro ⟨d,hd,hr,rfl⟩
  obtain ⟨h0,_,x,hx,ho,hn⟩:=sup_mem hd
  obtain ⟨hr',hm⟩:=key x hx ho
  have hxd:x.n=d:=by omega
  subst hxd
  have hr2:=R.rng x.n hr.1 hr.2
  rw [<- hm]
  exact sup_lv2 hv.1 (by rw [Expr.mv_lv]; exact List.mem_map_of_mem hx) (by rw [Expr.mv_op]; exact ho) (by omega) (by omega)
end
section
variable {to:List Int} {p q:Prog} (R:Ren to p.cells q.cells) (h32:p.cells.length<=32)
include R
theorem ofThread_mv (t:Int) {c:Int} (h0:0<=c) (h1:c<p.cells.length):ofThread q t (tau to c)=ofThread p t c:=by
 have:=R.rng c h0 h1
 unfold ofThread
 rw [R.atI h0 h1,decide_eq_true this.1,decide_eq_true h0]
theorem cellIs_mv (f:Cell->Bool) {c:Int} (h0:0<=c) (h1:c<p.cells.length):cellIs q (tau to c) f=cellIs p c f:=by
 unfold cellIs; rw [R.atI h0 h1]
theorem sees_mv (t:Int) {c:Int} (h0:0<=c) (h1:c<p.cells.length):sees q t (tau to c)=sees p t c:=by
 unfold sees; rw [ofThread_mv R _ h0 h1,ofThread_mv R _ h0 h1]
theorem mayP_mv (sh:Bool) (t:Int) {c:Int} (h0:0<=c) (h1:c<p.cells.length):mayP q sh t (tau to c)=mayP p sh t c:=by
 unfold mayP; rw [sees_mv R _ h0 h1,ofThread_mv R _ h0 h1]
include h32
theorem over_mv {e:Expr} {pr sh:Bool} {t:Int} (hv:e.valid p.cells pr=true) (h:overOk p e sh t=true):overOk q (e.mv to) sh t=true:=by
 unfold overOk at h ⊢
 simp only [Bool.and_eq_true,List.all_eq_true] at h ⊢
 constructor
 ·intro c hc
  obtain ⟨d,hd,hr,rfl⟩:=(sup_mv R h32 hv (.inr rfl)).1 hc
  rw [mayP_mv R _ _ hr.1 hr.2]; exact h.1 d hd
 ·intro c hc
  obtain ⟨d,hd,hr,rfl⟩:=(sup_mv R h32 hv (.inl rfl)).1 hc
  rw [mayP_mv R _ _ hr.1 hr.2]; exact h.2 d hd
theorem truth_mv {e:Expr} {pr:Bool} {t:Int} (h:truthOk p e pr t=true):truthOk q (e.mv to) pr t=true:=by
 unfold truthOk at h ⊢
 simp only [Bool.and_eq_true,decide_eq_true_eq] at h ⊢
 exact ⟨⟨valid_mv R h32 h.1.1,by rw [Expr.mv_w]; exact h.1.2⟩,over_mv R h32 h.1.1 h.2⟩
end
end Rg
end
section
set_option maxRecDepth 100000
namespace Rg
open Go
def Assign.mv (to:List Int) (a:Assign):Assign:=⟨tau to a.cell,a.to.mv to⟩
def Step.mv (to:List Int) (s:Step):Step:=⟨s.kind,s.fr,s.to,s.guard.mv to,s.set.map (Assign.mv to),s.release,s.target,s.module⟩
def Loop.mv (to:List Int) (l:Loop):Loop:=⟨l.head,l.body,l.variant.mv to⟩
def Thread.mv (to:List Int) (x:Thread):Thread:=⟨x.name,x.points,x.asserts.map (Expr.mv to),x.modules,x.steps.map (Step.mv to),x.loops.map (Loop.mv to),x.asleep⟩
def frameM (n:Nat) (to fr:List Int):List Int:=((List.range n).filter fun k:Nat=>fr.any fun c=>decide (tau to c=(k:Int))).map fun k:Nat=>(k:Int)
def Contract.mv (n:Nat) (to:List Int) (m:Contract):Contract:=⟨m.name,m.owner,m.rely.mv to,m.guar.mv to,frameM n to m.frame⟩
def Lock.mv (to:List Int) (l:Lock):Lock:=⟨tau to l.cell,l.inv.mv to,l.module⟩
def cell0:Cell:=⟨bs [],0,0,0,false,0⟩
def renUp (cs:List Cell) (to:List Int):Nat->List Cell
 | 0=>List.replicate cs.length cell0
 | i+1=>(renUp cs to i).set (tau to i).toNat (cs.getD i cell0)
def Prog.mv (to:List Int) (p:Prog):Prog:=⟨renUp p.cells to p.cells.length,p.modules.map (Contract.mv p.cells.length to),p.locks.map (Lock.mv to),p.threads.map (Thread.mv to)⟩
def PermN (n:Nat) (to:List Int):Prop:=to.Perm ((List.range n).map fun i:Nat=>(i:Int))
theorem renUp_len (cs:List Cell) (to:List Int) (i:Nat):(renUp cs to i).length=cs.length:=by
 induction i with
 | zero=>simp [renUp]
 | succ i ih=>simp [renUp,ih]
theorem tau_in {to:List Int} {i:Nat} (h:i<to.length):tau to i=to[i]:=by
 unfold tau
 rw [if_pos (by omega),List.getD_eq_getElem?_getD]
 simp [h]
theorem ren_of {cs:List Cell} {to:List Int} (h:PermN cs.length to):Ren to cs (renUp cs to cs.length):=by
 have hlen:to.length=cs.length:=by have:=h.length_eq; simpa using this
 have hmem : ∀ x:Int,x∈to<->0<=x/\x<cs.length:=fun x=>by
  rw [h.mem_iff,List.mem_map]
  constructor
  ·rintro ⟨i,hi,rfl⟩
   have:=List.mem_range.1 hi; omega
  ·rintro ⟨h0,h1⟩
   exact ⟨x.toNat,List.mem_range.2 (by omega),by omega⟩
 have hnd:to.Nodup:=by
  rw [h.nodup_iff]
  refine List.Pairwise.map _ ?_ List.nodup_range
  intro a b hab; omega
 have hrng : ∀ c:Int,0<=c->c<cs.length->0<=tau to c/\tau to c<cs.length:=fun c h0 h1=>by
  have e:=tau_in (to:=to) (i:=c.toNat) (by omega)
  rw [show ((c.toNat:Nat):Int)=c by omega] at e
  rw [e]
  exact (hmem _).1 (List.getElem_mem _)
 have hinj : ∀ c d:Int,0<=c->c<cs.length->0<=d->d<cs.length->tau to c=tau to d->c=d:=fun c d h0 h1 h2 h3 he=>by
  have e:=tau_in (to:=to) (i:=c.toNat) (by omega)
  rw [show ((c.toNat:Nat):Int)=c by omega] at e
  have e' := tau_in (to:=to) (i:=d.toNat) (by omega)
  rw [show ((d.toNat:Nat):Int)=d by omega] at e'
  rw [e,e'] at he
  have hp:=List.pairwise_iff_getElem.1 hnd
  rcases Nat.lt_trichotomy c.toNat d.toNat with hlt | heq | hgt
  ·exact absurd he (hp _ _ _ _ hlt)
  ·omega
  ·exact absurd he.symm (hp _ _ _ _ hgt)
 refine ⟨hlen,renUp_len _ _ _,hrng,hinj,fun j hj => ?_,fun i hi => ?_⟩
 ·obtain ⟨i,hi,he⟩:=List.mem_iff_getElem.1 ((hmem j).2 ⟨by omega,by omega⟩)
  exact ⟨i,by omega,by rw [tau_in hi,he]⟩
 ·have key : ∀ m,m<=cs.length -> ∀ i,i<m->(renUp cs to m)[(tau to i).toNat]? = cs[i]? := by
   intro m
   induction m with
   | zero=>intro _ i h; omega
   | succ m ih =>
    intro hm i hi
    have r1:=hrng i (by omega) (by omega)
    have r2:=hrng m (by omega) (by omega)
    rw [renUp,List.getElem?_set]
    by_cases hmi:i=m
    ·subst hmi
     rw [if_pos rfl,if_pos (by rw [renUp_len]; omega),List.getD_eq_getElem?_getD]
     have:i<cs.length:=by omega
     simp [this]
    ·have hne : ¬ (tau to m).toNat=(tau to i).toNat:=fun h=>hmi (by
      have:=hinj i m (by omega) (by omega) (by omega) (by omega) (by omega)
      omega)
     rw [if_neg hne]
     exact ih (by omega) i (by omega)
  exact key cs.length (Nat.le_refl _) i hi
theorem names_iff {α:Type} {f:α->List UInt8} {l:List α}:(∀ (i:Nat) (x:α),l[i]? = some x->(l.take i).any (fun d=>f d==f x)=false) <->
 ∀ (i j:Nat) (x y:α),l[i]? = some x->l[j]? = some y->f x=f y->i=j:=by
 constructor
 ·intro h i j x y hx hy he
  rcases Nat.lt_trichotomy i j with hlt | heq | hgt
  ·have:=List.any_eq_false.1 (h j y hy) x (by
    have:(l.take j)[i]? = some x:=by rw [List.getElem?_take,if_pos hlt]; exact hx
    exact List.mem_of_getElem? this)
   simp [he] at this
  ·exact heq
  ·have:=List.any_eq_false.1 (h i x hx) y (by
    have:(l.take i)[j]? = some y:=by rw [List.getElem?_take,if_pos hgt]; exact hy
    exact List.mem_of_getElem? this)
   simp [he] at this
 ·intro h i x hx
  rw [List.any_eq_false]
  intro d hd he
  obtain ⟨j,hj,hdj⟩:=List.mem_iff_getElem.1 hd
  have hji:j<i:=by simp at hj; omega
  have hd2:l[j]? = some d:=by
   rw [<- hdj]; simp only [List.getElem_take]
   exact List.getElem?_eq_getElem _
  have:=h j i d x hd2 hx (by simpa using he)
  omega
theorem cells_mv {p:Prog} {to:List Int} (hp:PermN p.cells.length to) (h : ∀ (i:Nat) (c:Cell),p.cells[i]? = some c->cellErr p i c=0) :
 ∀ (i:Nat) (c:Cell),(p.mv to).cells[i]? = some c->cellErr (p.mv to) i c=0:=by
 have R:=ren_of hp
 have hback : ∀ (j:Nat) (c:Cell),(p.mv to).cells[j]? = some c -> ∃ i:Nat,i<p.cells.length/\tau to i=j/\p.cells[i]? = some c:=fun j c hc=>by
  have hj:j<(p.mv to).cells.length:=(List.getElem?_eq_some_iff.1 hc).1
  obtain ⟨i,hi,he⟩:=R.surj j (by rw [<- R.len']; exact hj)
  refine ⟨i,hi,he, ?_⟩
  rw [<- R.at_ i hi,he]
  exact hc
 have hn:=(names_iff (f:=fun c:Cell=>c.name.toList) (l:=p.cells)).1 fun i x hx=>(cellErr_iff.1 (h i x hx)).2
 have hn' := (names_iff (f:=fun c:Cell=>c.name.toList) (l:=(p.mv to).cells)).2 fun i j x y hx hy he=>by
  obtain ⟨i',hi',e1,g1⟩:=hback i x hx
  obtain ⟨j',hj',e2,g2⟩:=hback j y hy
  have:=hn i' j' x y g1 g2 he
  subst this
  omega
 intro j c hc
 obtain ⟨i,hi,he,hci⟩:=hback j c hc
 refine cellErr_iff.2 ⟨?_,hn' j c hc⟩
 have:=(cellErr_iff.1 (h i c hci)).1
 unfold cellBad at this ⊢
 simpa [Prog.mv] using this
theorem any_map_take {α β:Type} (f:α->β) (P:β->Bool) (l:List α) (i:Nat):((l.map f).take i).any P=(l.take i).any fun x=>P (f x):=by
 rw [<- List.map_take,List.any_map]; rfl
theorem frameM_mem {n:Nat} {to fr:List Int} {z:Int}:z∈frameM n to fr<->(0<=z/\z<n) /\ ∃ c∈fr,tau to c=z:=by
 unfold frameM
 simp only [List.mem_map,List.mem_filter,List.mem_range,List.any_eq_true,decide_eq_true_eq]
 constructor
 ·rintro ⟨k,⟨hk,c,hc,he⟩,rfl⟩
  exact ⟨by omega,c,hc,he⟩
 ·rintro ⟨hz,c,hc,he⟩
  exact ⟨z.toNat,⟨by omega,c,hc,by omega⟩,by omega⟩
theorem rising_of {l:List Int} (h:l.Pairwise (· < ·)):rising l=true:=by
 refine rising_yes fun j hj => ?_
 have:=List.pairwise_iff_getElem.1 h j (j+1) (by omega) hj (by omega)
 simp only [List.getD_eq_getElem?_getD]
 rw [List.getElem?_eq_getElem (by omega),List.getElem?_eq_getElem hj]
 exact this
theorem frameM_rising (n:Nat) (to fr:List Int):rising (frameM n to fr)=true:=by
 refine rising_of ?_
 unfold frameM
 refine List.Pairwise.map _ ?_ (List.Pairwise.filter _ List.pairwise_lt_range)
 intro a b hab; omega
theorem frameM_len (n:Nat) (to fr:List Int):(frameM n to fr).length<=n:=by
 unfold frameM
 rw [List.length_map]
 refine Nat.le_trans (List.length_filter_le _ _) ?_
 simp
section
variable {p:Prog} {to:List Int} (hp:PermN p.cells.length to) (h32:p.cells.length<=32)
include hp h32
theorem mod_mv {i:Nat} {m:Contract} (h:modErr p i m=0):modErr (p.mv to) i (m.mv p.cells.length to)=0:=by
 have R:Ren to p.cells (p.mv to).cells:=ren_of hp
 rw [modErr_iff] at h ⊢
 obtain ⟨h1,h2,⟨h3,h4⟩,h5,h6⟩:=h
 refine ⟨h1, ?_,⟨h3.imp (fun h=>by simpa [Contract.mv,Expr.mv_absent] using h) (fun h=>truth_mv R h32 h),truth_mv R h32 h4⟩,frameM_rising _ _ _, ?_⟩
 ·simp only [Prog.mv,any_map_take]
  exact h2
 ·rw [List.all_eq_true]
  intro z hz
  obtain ⟨hr,c,hc,rfl⟩:=frameM_mem.1 hz
  have hc1:=List.all_eq_true.1 h6 c hc
  have hc2:=ofThread_rng hc1
  rw [ofThread_mv R _ hc2.1 hc2.2]; exact hc1
theorem lock_mv {i:Nat} {l:Lock} (hi:p.locks[i]? = some l) (hall : ∀ (j:Nat) (k:Lock),p.locks[j]? = some k->lockErr p j k=0):lockErr (p.mv to) i (l.mv to)=0:=by
 have R:Ren to p.cells (p.mv to).cells:=ren_of hp
 have h:=hall i l hi
 rw [lockErr_iff] at h ⊢
 obtain ⟨⟨h1,h2,h3,h4⟩,h5,h6⟩:=h
 have hr:=ofThread_rng h1
 refine ⟨⟨?_, ?_, ?_, ?_⟩, ?_,truth_mv R h32 h6⟩
 ·show ofThread (p.mv to) (-1) (tau to l.cell)=true
  rw [ofThread_mv R _ hr.1 hr.2]; exact h1
 ·show cellIs (p.mv to) (tau to l.cell) _=true
  rw [cellIs_mv R _ hr.1 hr.2]; exact h2
 ·show cellIs (p.mv to) (tau to l.cell) _=false
  rw [cellIs_mv R _ hr.1 hr.2]; exact h3
 ·simpa [Prog.mv,Lock.mv] using h4
 ·simp only [Prog.mv,any_map_take]
  rw [List.any_eq_false] at h5 ⊢
  intro k hk he
  have hk2:=List.mem_of_mem_take hk
  obtain ⟨j,hj,rfl⟩:=List.mem_iff_getElem.1 hk2
  have hkr:=ofThread_rng (lockErr_iff.1 (hall j _ (List.getElem?_eq_getElem hj))).1.1
  refine h5 _ hk ?_
  simp only [decide_eq_true_eq]
  exact R.inj _ _ hkr.1 hkr.2 hr.1 hr.2 (of_decide_eq_true he)
theorem loop_mv {t n:Int} {l:Loop} (h:loopErr p t n l=0):loopErr (p.mv to) t n (l.mv to)=0:=by
 have R:Ren to p.cells (p.mv to).cells:=ren_of hp
 rw [loopErr_iff] at h ⊢
 exact ⟨h.1,valid_mv R h32 h.2.1,over_mv R h32 h.2.1 h.2.2⟩
theorem set_mv {set:List Assign} (hall : ∀ (j:Nat) (a:Assign),set[j]? = some a->setErr p set j a=0) :
 ∀ (j:Nat) (a:Assign),(set.map (Assign.mv to))[j]? = some a->setErr (p.mv to) (set.map (Assign.mv to)) j a=0:=by
 have R:Ren to p.cells (p.mv to).cells:=ren_of hp
 intro j a' ha'
 rw [List.getElem?_map] at ha'
 obtain ⟨a,ha,rfl⟩:=Option.map_eq_some_iff.1 ha'
 have h:=hall j a ha
 rw [setErr_iff] at h ⊢
 obtain ⟨⟨h1,h2⟩,h3,h4⟩:=h
 have hr:0<=a.cell/\a.cell<p.cells.length:=by simpa [inR] using h1
 have hr2:=R.rng _ hr.1 hr.2
 refine ⟨⟨?_, ?_⟩,valid_mv R h32 h3, ?_⟩
 ·have e:(p.mv to).cells.length=p.cells.length:=R.len'
  simp only [inR,decide_eq_true_eq,e]
  exact hr2
 ·rw [any_map_take,List.any_eq_false]
  rw [List.any_eq_false] at h2
  intro k hk he
  obtain ⟨j',hj',rfl⟩:=List.mem_iff_getElem.1 (List.mem_of_mem_take hk)
  have hk1:=(setErr_iff.1 (hall j' _ (List.getElem?_eq_getElem hj'))).1.1
  have hkr:0<=(set[j']).cell/\(set[j']).cell<p.cells.length:=by simpa [inR] using hk1
  refine h2 _ hk ?_
  simp only [decide_eq_true_eq]
  exact R.inj _ _ hkr.1 hkr.2 hr.1 hr.2 (of_decide_eq_true he)
 ·show cellIs (p.mv to) (tau to a.cell) _=true
  rw [cellIs_mv R _ hr.1 hr.2]
  simp only [Assign.mv,Expr.mv_w]
  exact h4
theorem values_mv {s:Step} {sh:Bool} {t:Int} (hg:s.guard.valid p.cells false=true) (hs : ∀ a∈s.set,a.to.valid p.cells false=true) (h:valuesOk p s sh t=true):valuesOk (p.mv to) (s.mv to) sh t=true:=by
 have R:Ren to p.cells (p.mv to).cells:=ren_of hp
 unfold valuesOk at h ⊢
 simp only [Bool.and_eq_true,List.all_eq_true] at h ⊢
 refine ⟨over_mv R h32 hg h.1,fun a' ha' => ?_⟩
 simp only [Step.mv] at ha'
 obtain ⟨a,ha,rfl⟩:=List.mem_map.1 ha'
 exact over_mv R h32 (hs a ha) (h.2 a ha)
omit hp h32 in
theorem asleep_mv (t:Int):asleepAt (p.mv to) t=asleepAt p t:=by
 unfold asleepAt
 simp only [Prog.mv,List.getElem?_map]
 cases p.threads[t.toNat]? <;> rfl
omit hp h32 in
theorem join_mv {t:Int} {s:Step} (h:joinOk p t s=true):joinOk (p.mv to) t (s.mv to)=true:=by
 unfold joinOk at h ⊢
 simp only [Bool.and_eq_true,decide_eq_true_eq] at h ⊢
 obtain ⟨⟨⟨h1,h2⟩,h3⟩,h4⟩:=h
 refine ⟨⟨⟨?_, ?_⟩,h3⟩, ?_⟩
 ·show (s.guard.mv to).one=true
  rw [Expr.mv_one]; exact h1
 ·simp [Step.mv,h2]
 ·simpa [Step.mv,Prog.mv] using h4
theorem kind_mv {t:Int} {s:Step} (hg:s.guard.valid p.cells false=true) (hs : ∀ a∈s.set,a.to.valid p.cells false=true) (hc : ∀ a∈s.set,0<=a.cell/\a.cell<p.cells.length) (h:kindOk p t s=true):kindOk (p.mv to) t (s.mv to)=true:=by
 have R:Ren to p.cells (p.mv to).cells:=ren_of hp
 unfold kindOk at h ⊢
 simp only [show (s.mv to).kind=s.kind from rfl]
 split at h
 ·rename_i k
  rw [if_pos k]
  simp only [Bool.and_eq_true,List.all_eq_true] at h ⊢
  refine ⟨values_mv hp h32 hg hs h.1,fun a' ha' => ?_⟩
  obtain ⟨a,ha,rfl⟩:=List.mem_map.1 (show a' ∈ s.set.map (Assign.mv to) from ha')
  show ofThread (p.mv to) t (tau to a.cell)=true
  rw [ofThread_mv R _ (hc a ha).1 (hc a ha).2]; exact h.2 a ha
 ·rename_i k1
  rw [if_neg k1]
  split at h
  ·rename_i k
   rw [if_pos k]
   unfold loadOk at h ⊢
   rcases hset:s.set with _ | ⟨a,r⟩
   ·rw [hset] at h; cases h
   ·have e:(s.mv to).set=a.mv to::r.map (Assign.mv to):=by simp [Step.mv,hset]
    rw [e]
    rw [hset] at h hs hc
    simp only [Bool.and_eq_true,List.all_eq_true,decide_eq_true_eq,Bool.not_eq_true'] at h ⊢
    obtain ⟨⟨⟨⟨⟨⟨g1,g2⟩,g3⟩,g4⟩,g5⟩,g6⟩,g7⟩:=h
    have ca:=hc a (by simp)
    have cn:=ofThread_rng g5
    have en:(a.mv to).to.n=tau to a.to.n:=by simp only [Assign.mv,Expr.mv_n]; rw [if_pos (.inl g4)]
    refine ⟨⟨⟨⟨⟨⟨over_mv R h32 hg g1, ?_⟩, ?_⟩, ?_⟩, ?_⟩, ?_⟩,fun b' hb' => ?_⟩
    ·simp only [Assign.mv]; rw [ofThread_mv R _ ca.1 ca.2]; exact g2
    ·simp only [Assign.mv]; rw [cellIs_mv R _ ca.1 ca.2]; exact g3
    ·simp only [Assign.mv,Expr.mv_op]; exact g4
    ·rw [en,ofThread_mv R _ cn.1 cn.2]; exact g5
    ·rw [en,cellIs_mv R _ cn.1 cn.2]; exact g6
    ·obtain ⟨b,hb,rfl⟩:=List.mem_map.1 hb'
     have cb:=hc b (by simp [hb])
     have:=g7 b hb
     refine ⟨⟨?_, ?_⟩,over_mv R h32 (hs b (by simp [hb])) this.2⟩
     ·simp only [Assign.mv]; rw [ofThread_mv R _ cb.1 cb.2]; exact this.1.1
     ·simp only [Assign.mv]; rw [cellIs_mv R _ cb.1 cb.2]; exact this.1.2
  ·rename_i k2
   rw [if_neg k2]
   split at h
   ·rename_i k
    rw [if_pos k]
    unfold storeOk at h ⊢
    rcases hset:s.set with _ | ⟨a,r⟩
    ·rw [hset] at h; cases h
    ·have e:(s.mv to).set=a.mv to::r.map (Assign.mv to):=by simp [Step.mv,hset]
     rw [e]
     rw [hset] at h hc
     simp only [Bool.and_eq_true,List.all_eq_true,decide_eq_true_eq,Bool.not_eq_true'] at h ⊢
     obtain ⟨⟨⟨g1,g2⟩,g3⟩,g4⟩:=h
     have ca:=hc a (by simp)
     refine ⟨⟨⟨values_mv hp h32 hg hs g1, ?_⟩, ?_⟩,fun b' hb' => ?_⟩
     ·simp only [Assign.mv]; rw [ofThread_mv R _ ca.1 ca.2]; exact g2
     ·simp only [Assign.mv]; rw [cellIs_mv R _ ca.1 ca.2]; exact g3
     ·obtain ⟨b,hb,rfl⟩:=List.mem_map.1 hb'
      have cb:=hc b (by simp [hb])
      have:=g4 b hb
      simp only [Assign.mv]
      rw [cellIs_mv R _ cb.1 cb.2,sees_mv R _ cb.1 cb.2]; exact this
   ·rename_i k3
    rw [if_neg k3]
    split at h
    ·rename_i k
     rw [if_pos k]
     simp only [Bool.and_eq_true,List.all_eq_true] at h ⊢
     refine ⟨values_mv hp h32 hg hs h.1,fun a' ha' => ?_⟩
     obtain ⟨a,ha,rfl⟩:=List.mem_map.1 (show a' ∈ s.set.map (Assign.mv to) from ha')
     show sees (p.mv to) t (tau to a.cell)=true
     rw [sees_mv R _ (hc a ha).1 (hc a ha).2]; exact h.2 a ha
    ·rename_i k4
     rw [if_neg k4]
     split at h
     ·rename_i k
      rw [if_pos k]
      simp only [Bool.and_eq_true,decide_eq_true_eq] at h ⊢
      exact ⟨by show (s.guard.mv to).one=true; rw [Expr.mv_one]; exact h.1,by simp [Step.mv,h.2]⟩
     ·rename_i k5
      rw [if_neg k5]
      split at h
      ·rename_i k
       rw [if_pos k]
       simp only [Bool.and_eq_true] at h ⊢
       exact ⟨join_mv h.1,by rw [asleep_mv]; exact h.2⟩
      ·rename_i k6
       rw [if_neg k6]
       exact join_mv h
theorem step_mv {t n:Int} {s:Step} (h:stepErr p t n s=0):stepErr (p.mv to) t n (s.mv to)=0:=by
 have R:Ren to p.cells (p.mv to).cells:=ren_of hp
 rw [stepErr_iff] at h ⊢
 obtain ⟨h1,h2,h3,h4⟩:=h
 have hset : ∀ a∈s.set,a.to.valid p.cells false=true/\0<=a.cell/\a.cell<p.cells.length:=fun a ha=>by
  obtain ⟨j,hj,rfl⟩:=List.mem_iff_getElem.1 ha
  have:=setErr_iff.1 (h3 j _ (List.getElem?_eq_getElem hj))
  exact ⟨this.2.1,by simpa [inR] using this.1.1⟩
 refine ⟨?_,⟨valid_mv R h32 h2.1, ?_⟩,set_mv hp h32 h3,kind_mv hp h32 h2.1 (fun a ha=>(hset a ha).1) (fun a ha=>(hset a ha).2) h4⟩
 ·have e:stepBad (p.mv to) n (s.mv to)=stepBad p n s:=by unfold stepBad; simp only [Step.mv,Prog.mv,List.length_map]; rfl
  rw [e]; exact h1
 ·show (s.guard.mv to).w=1
  rw [Expr.mv_w]; exact h2.2
theorem thread_mv {i:Nat} {x:Thread} (h:(threadErr p i x).1=0):(threadErr (p.mv to) i (x.mv to)).1=0:=by
 have R:Ren to p.cells (p.mv to).cells:=ren_of hp
 rw [threadErr_iff] at h ⊢
 obtain ⟨h1,h2,h3,h4,h5,h6,h7⟩:=h
 refine ⟨h1, ?_, ?_, ?_, ?_,fun j s' hs' => ?_,fun j l' hl' => ?_⟩
 ·simp only [Prog.mv,any_map_take]
  exact h2
 ·simpa [Thread.mv] using h3
 ·simpa [Thread.mv,Prog.mv] using h4
 ·simp only [Thread.mv,List.all_map,List.all_eq_true] at h5 ⊢
  exact fun e he=>truth_mv R h32 (h5 e he)
 ·simp only [Thread.mv,List.getElem?_map] at hs'
  obtain ⟨s,hs,rfl⟩:=Option.map_eq_some_iff.1 hs'
  exact step_mv hp h32 (h6 j s hs)
 ·simp only [Thread.mv,List.getElem?_map] at hl'
  obtain ⟨l,hl,rfl⟩:=Option.map_eq_some_iff.1 hl'
  exact loop_mv hp h32 (h7 j l hl)
end
theorem ok_mv {p:Prog} {to:List Int} (hp:PermN p.cells.length to) (h:p.ok):(p.mv to).ok:=by
 have R:Ren to p.cells (p.mv to).cells:=ren_of hp
 obtain ⟨hl,hc,hm,hk,ht⟩:=ok_iff.1 h
 have hl2:=limits_iff.1 hl
 have h32:=hl2.1.1
 refine ok_iff.2 ⟨limits_iff.2 ⟨⟨by rw [R.len']; omega, ?_, ?_, ?_⟩,fun x' hx' => ?_⟩,cells_mv hp hc,fun i m' hm' => ?_,fun i l' hl' => ?_,fun i x' hx' => ?_⟩
 ·simpa [Prog.mv] using hl2.1.2.1
 ·simpa [Prog.mv] using hl2.1.2.2.1
 ·simpa [Prog.mv] using hl2.1.2.2.2
 ·obtain ⟨x,hx,rfl⟩:=List.mem_map.1 (show x' ∈ p.threads.map (Thread.mv to) from hx')
  have:=hl2.2 x hx
  simpa [Thread.mv] using this
 ·simp only [Prog.mv,List.getElem?_map] at hm'
  obtain ⟨m,hm1,rfl⟩:=Option.map_eq_some_iff.1 hm'
  exact mod_mv hp h32 (hm i m hm1)
 ·simp only [Prog.mv,List.getElem?_map] at hl'
  obtain ⟨l,hl1,rfl⟩:=Option.map_eq_some_iff.1 hl'
  exact lock_mv hp h32 hl1 hk
 ·simp only [Prog.mv,List.getElem?_map] at hx'
  obtain ⟨x,hx1,rfl⟩:=Option.map_eq_some_iff.1 hx'
  exact thread_mv hp h32 (ht i x hx1)
theorem small_mv {p:Prog} {to:List Int} (hp:PermN p.cells.length to) (h:progSmall 40 p=true):progSmall 40 (p.mv to)=true:=by
 have R:Ren to p.cells (p.mv to).cells:=ren_of hp
 have hex : ∀ e:Expr,exS 40 (e.mv to)=exS 40 e:=fun e=>by unfold exS; rw [Expr.mv_size]
 unfold progSmall at h ⊢
 simp only [Bool.and_eq_true,decide_eq_true_eq,List.all_eq_true] at h ⊢
 obtain ⟨⟨⟨⟨⟨⟨h1,h2⟩,h3⟩,h4⟩,h5⟩,h6⟩,h7⟩:=h
 refine ⟨⟨⟨⟨⟨⟨by rw [R.len']; exact h1,by simpa [Prog.mv] using h2⟩,by simpa [Prog.mv] using h3⟩,by simpa [Prog.mv] using h4⟩,fun m' hm' => ?_⟩,fun l' hl' => ?_⟩,fun x' hx' => ?_⟩
 ·obtain ⟨m,hm,rfl⟩:=List.mem_map.1 (show m' ∈ p.modules.map (Contract.mv p.cells.length to) from hm')
  have:=h5 m hm
  unfold modSmall at this ⊢
  simp only [Bool.and_eq_true,decide_eq_true_eq] at this ⊢
  have hf:=frameM_len p.cells.length to m.frame
  refine ⟨⟨(hex _).trans this.1.1,(hex _).trans this.1.2⟩, ?_⟩
  show ((frameM p.cells.length to m.frame).length:Int)<=60
  omega
 ·obtain ⟨l,hl,rfl⟩:=List.mem_map.1 (show l' ∈ p.locks.map (Lock.mv to) from hl')
  simp only [Lock.mv,hex]; exact h6 l hl
 ·obtain ⟨x,hx,rfl⟩:=List.mem_map.1 (show x' ∈ p.threads.map (Thread.mv to) from hx')
  have:=h7 x hx
  unfold thrSmall at this ⊢
  simp only [Thread.mv,List.length_map,List.all_map,Bool.and_eq_true,List.all_eq_true] at this ⊢
  obtain ⟨⟨⟨g1,g2⟩,g3⟩,g4⟩:=this
  refine ⟨⟨⟨g1,fun e he=>by have:=g2 e he; simpa [hex] using this⟩,fun s hs => ?_⟩,fun l hl => ?_⟩
  ·have:=g3 s hs
   unfold stepSmall at this
   simp only [Function.comp,stepSmall,Step.mv,hex,List.length_map,List.all_map,Bool.and_eq_true,List.all_eq_true] at this ⊢
   exact ⟨this.1,fun a ha=>by have:=this.2 a ha; simpa [Assign.mv,hex] using this⟩
  ·have:=g4 l hl
   unfold loopSmall at this
   simp only [Function.comp,loopSmall,Loop.mv,hex] at this ⊢
   exact this
theorem len_le_of {l m:List Int} (hn:l.Nodup) (h : ∀ x∈l,x∈m):l.length<=m.length:=by
 induction l generalizing m with
 | nil=>simp
 | cons a l ih =>
  have ha:=h a (by simp)
  have hnd:=List.nodup_cons.1 hn
  have:=ih (m:=m.erase a) hnd.2 fun x hx=>(List.mem_erase_of_ne (by rintro rfl; exact hnd.1 hx)).2 (h x (by simp [hx]))
  rw [List.length_erase_of_mem ha] at this
  have:0<m.length:=List.length_pos_of_mem ha
  simp only [List.length_cons]; omega
theorem reads_mv {p:Prog} {to:List Int} (hp:PermN p.cells.length to) (h32:p.cells.length<=32) {s:Step} (hg:s.guard.valid p.cells false=true) (hs : ∀ a∈s.set,a.to.valid p.cells false=true) :
 (readsM (s.mv to)).length=(readsM s).length /\ ∀ c∈readsM s,(0<=c/\c<p.cells.length)/\tau to c∈readsM (s.mv to):=by
 have R:Ren to p.cells (p.mv to).cells:=ren_of hp
 have hin : ∀ c∈readsM s,0<=c/\c<p.cells.length:=fun c hc=>by
  rcases reads_mem.1 hc with h | ⟨a,ha,h⟩
  ·exact valid_in hg 2 (.inl rfl) c h
  ·exact valid_in (hs a ha) 2 (.inl rfl) c h
 have hiff : ∀ c:Int,c∈readsM (s.mv to) <-> ∃ d∈readsM s,c=tau to d:=fun c=>by
  rw [reads_mem]
  constructor
  ·rintro (h | ⟨a',ha',h⟩)
   ·obtain ⟨d,hd,_,rfl⟩:=(sup_mv R h32 hg (.inl rfl)).1 h
    exact ⟨d,reads_mem.2 (.inl hd),rfl⟩
   ·obtain ⟨a,ha,rfl⟩:=List.mem_map.1 (show a' ∈ s.set.map (Assign.mv to) from ha')
    obtain ⟨d,hd,_,rfl⟩:=(sup_mv R h32 (hs a ha) (.inl rfl)).1 h
    exact ⟨d,reads_mem.2 (.inr ⟨a,ha,hd⟩),rfl⟩
  ·rintro ⟨d,hd,rfl⟩
   have hr:=hin d hd
   rcases reads_mem.1 hd with h | ⟨a,ha,h⟩
   ·exact .inl ((sup_mv R h32 hg (.inl rfl)).2 ⟨d,h,hr,rfl⟩)
   ·exact .inr ⟨a.mv to,List.mem_map_of_mem ha,(sup_mv R h32 (hs a ha) (.inl rfl)).2 ⟨d,h,hr,rfl⟩⟩
 have nd : ∀ s:Step,(readsM s).Nodup:=fun s=>(sortedM_sorted _).imp fun h=>by omega
 have ndm:((readsM s).map (tau to)).Nodup:=by
  unfold List.Nodup
  rw [List.pairwise_map]
  refine (List.Pairwise.and_mem.1 (nd s)).imp ?_
  rintro a b ⟨ha,hb,hab⟩ he
  exact hab (R.inj a b (hin a ha).1 (hin a ha).2 (hin b hb).1 (hin b hb).2 he)
 refine ⟨?_,fun c hc=>⟨hin c hc,(hiff _).2 ⟨c,hc,rfl⟩⟩⟩
 have l1:=len_le_of ndm (m:=readsM (s.mv to)) fun x hx=>by
  obtain ⟨d,hd,rfl⟩:=List.mem_map.1 hx
  exact (hiff _).2 ⟨d,hd,rfl⟩
 have l2:=len_le_of (nd (s.mv to)) (m:=(readsM s).map (tau to)) fun x hx=>by
  obtain ⟨d,hd,rfl⟩:=(hiff _).1 hx
  exact List.mem_map_of_mem hd
 rw [List.length_map] at l1 l2
 omega
end Rg
end
