/- Part of the proof of the laws of the package relyguardlaw36: an abstract machine for the program's functions, what they compute, and that the machine is the program's. No condition. (RgY) -/
import Derived.Test.YtaiokglcgiemnaaGreatDoorPartAT
set_option linter.unusedSimpArgs false
section
namespace Rg
open Go
structure W3 (c:C) (Q:Ex->M->Prop) (m:M)where
 n:Nat
structure W4 (p:Nat) (l:List ROp) (Q:M->Prop) (m:M)where
 n:Nat
structure WK {α:Type} {β:Sort _} (K:α->β)where
 n:Nat
structure WV {α:Type} (x y:α)where
 n:Nat
def pk {α:Type} (b:Bool) (x y:α) (_:WV x y):α:=match b with
 | true=>x
 | false=>y
@[go_sem]theorem pk_t {α:Type} (x y:α) (w:WV x y):pk true x y w=x:=rfl
@[go_sem]theorem pk_f {α:Type} (x y:α) (w:WV x y):pk false x y w=y:=rfl
theorem pk_eq {α:Type} (i j:Nat) (x y:α) (w:WV x y):pk (j==i) x y w=if j=i then x else y:=by
 by_cases h:j=i
 ·simp[h,pk]
 ·have:(j==i)=false:=by simpa using h
  rw[this,if_neg h];rfl
noncomputable def updC {α:Type}:(Nat->α)->Nat->α->Nat->α:=(Classical.choice (⟨⟨@upd α,rfl⟩⟩:Nonempty {g:(Nat->α)->Nat->α->Nat->α// g= @upd α})).1
theorem updC_eq {α:Type}: @updC α= @upd α:=(Classical.choice (⟨⟨@upd α,rfl⟩⟩:Nonempty {g:(Nat->α)->Nat->α->Nat->α// g= @upd α})).2
noncomputable def begC:(Nat->Slot)->Nat->Slot:=(Classical.choice (⟨⟨beg,rfl⟩⟩:Nonempty {g:(Nat->Slot)->Nat->Slot// g=beg})).1
theorem begC_eq:begC=beg:=(Classical.choice (⟨⟨beg,rfl⟩⟩:Nonempty {g:(Nat->Slot)->Nat->Slot// g=beg})).2
noncomputable def ovrC:List Nat->(Nat->Slot)->(Nat->Slot)->Nat->Slot:=(Classical.choice (⟨⟨ovr,rfl⟩⟩:Nonempty {g:List Nat->(Nat->Slot)->(Nat->Slot)->Nat->Slot// g=ovr})).1
theorem ovrC_eq:ovrC=ovr:=(Classical.choice (⟨⟨ovr,rfl⟩⟩:Nonempty {g:List Nat->(Nat->Slot)->(Nat->Slot)->Nat->Slot// g=ovr})).2
def bitsOf (k:Nat):List Nat:=(List.range (k.log2+1)).filter fun t=>(k>>> t) % 2==1
theorem bitsOf_contains (k t:Nat):(bitsOf k).contains t=((k>>> t) % 2==1):=by
 by_cases ht:t<k.log2+1
 ·cases h:((k>>> t) % 2==1)with
  | true=>simp only[List.contains_eq_mem,bitsOf,List.mem_filter,List.mem_range,ht,h,and_self,decide_true]
  | false=>simp only[List.contains_eq_mem,bitsOf,List.mem_filter,List.mem_range,ht,h,Bool.false_eq_true,and_false,decide_false]
 ·have h0:k>>> t=0:=by
   rw[Nat.shiftRight_eq_div_pow]
   exact Nat.div_eq_of_lt (Nat.lt_of_lt_of_le Nat.lt_log2_self (Nat.pow_le_pow_right (by omega) (by omega)))
  rw[h0]
  simp only[List.contains_eq_mem,bitsOf,List.mem_filter,List.mem_range,ht,false_and,decide_false]
  rfl
noncomputable def slotsC:List V->Nat->Nat->Slot:=(Classical.choice (⟨⟨slots,rfl⟩⟩:Nonempty {g:List V->Nat->Nat->Slot// g=slots})).1
theorem slotsC_eq:slotsC=slots:=(Classical.choice (⟨⟨slots,rfl⟩⟩:Nonempty {g:List V->Nat->Nat->Slot// g=slots})).2
noncomputable def hpC:(Nat->Option O)->List (Nat×O)->Nat->Option O:=(Classical.choice (⟨⟨hpUpd,rfl⟩⟩:Nonempty {g:(Nat->Option O)->List (Nat×O)->Nat->Option O// g=hpUpd})).1
theorem hpC_eq:hpC=hpUpd:=(Classical.choice (⟨⟨hpUpd,rfl⟩⟩:Nonempty {g:(Nat->Option O)->List (Nat×O)->Nat->Option O// g=hpUpd})).2
noncomputable def addC:Nat->List ROp->Nat:=(Classical.choice (⟨⟨fun n l=>n+l.length,rfl⟩⟩:Nonempty {g:Nat->List ROp->Nat// g=fun n l=>n+l.length})).1
theorem addC_eq:addC=fun n l=>n+l.length:=(Classical.choice (⟨⟨fun n l=>n+l.length,rfl⟩⟩:Nonempty {g:Nat->List ROp->Nat// g=fun n l=>n+l.length})).2
theorem addC_le (n:Nat) (l:List ROp):n<=addC n l:=by rw[addC_eq];exact Nat.le_add_right n _
@[go_sem]theorem addC_len (n:Nat) (l:List ROp):addC n l=n+l.length:=by rw[addC_eq]
@[go_sem ↓]theorem updC_b (f:Nat->Bool) (i j:Nat):updC f i true j=pk (j==i) true (f j) ⟨0⟩:=by rw[updC_eq,pk_eq];rfl
@[go_sem]theorem updC_at {α:Type} (f:Nat->α) (i j:Nat) (v:α):updC f i v j=if j=i then v else f j:=by rw[updC_eq];rfl
@[go_sem ↓]theorem hpC_nil (h:Nat->Option O):hpC h []=h:=by rw[hpC_eq];rfl
@[go_sem ↓]theorem hpC_cons (h:Nat->Option O) (k:Nat) (o:O) (r:List (Nat×O)):hpC h ((k,o)::r)=hpC (updC h k (some o)) r:=by rw[hpC_eq,updC_eq];rfl
def ob {α β:Type} (o:Option α) (K:α->Option β) (_:WK K):Option β:=o.bind K
@[go_sem]theorem ob_some {α β:Type} (a:α) (K:α->Option β) (w:WK K):ob (some a) K w=K a:=rfl
def putV {α:Type} (us:Bool) (o:Option α) (K:α->Prop) (_:WK K):Prop:=match o with
 | none=>False
 | some v=>us=false/\K v
@[go_sem]theorem putV_some {α:Type} (v:α) (K:α->Prop) (w:WK K):putV false (some v) K w=K v:=by simp[putV]
def putA {α β:Type} (us:Bool) (o:Option (α×β)) (K:α->β->Prop) (_:WK K):Prop:=match o with
 | none=>False
 | some (a,b)=>us=false/\K a b
@[go_sem]theorem putA_some {α β:Type} (a:α) (b:β) (K:α->β->Prop) (w:WK K):putA false (some (a,b)) K w=K a b:=by simp[putA]
theorem putA_eq {α β:Type} (us:Bool) (o:Option (α×β)) (K:α->β->Prop) (w:WK K) (w':WK fun y:α×β=>K y.1 y.2):putA us o K w=putV us o (fun y=>K y.1 y.2) w':=by
 cases o<;>rfl
def put4 {α β γ δ:Type} (o:Option (α×β×γ×δ)) (K:α->β->γ->δ->Prop) (_:WK K):Prop:=match o with
 | none=>False
 | some (a,b,c,d)=>K a b c d
@[go_sem]theorem put4_some {α β γ δ:Type} (a:α) (b:β) (c:γ) (d:δ) (K:α->β->γ->δ->Prop) (w:WK K):put4 (some (a,b,c,d)) K w=K a b c d:=rfl
def valOf:V->Option V
 | .undef=>none
 | .lb=>none
 | v=>some v
@[go_sem]theorem valOf_t (x:T):valOf (.t x)=some (.t x):=rfl
@[go_sem]theorem valOf_ms (k i l:Nat):valOf (.ms k i l)=some (.ms k i l):=rfl
@[go_sem]theorem valOf_mp (k i l:Nat):valOf (.mp k i l)=some (.mp k i l):=rfl
@[go_sem]theorem valOf_mm (k:Nat):valOf (.mm k)=some (.mm k):=rfl
@[go_sem]theorem valOf_fn (f:Nat) (a b:List V):valOf (.fn f a b)=some (.fn f a b):=rfl
@[go_sem]theorem valOf_agg (c:List V):valOf (.agg c)=some (.agg c):=rfl
@[go_sem]theorem valOf_tup (c:List V):valOf (.tup c)=some (.tup c):=rfl
abbrev tyC:=(Nat->Option F)->(Nat->List T)->C->M->(Ex->M->Prop)->Prop
abbrev tyO:=(Nat->Option F)->(Nat->List T)->Bool->Nat->List ROp->M->(M->Prop)->Prop
noncomputable def wpCo:tyC:=(Classical.choice (⟨⟨@wpC,rfl⟩⟩:Nonempty {g:tyC// g= @wpC})).1
theorem wpCo_eq:wpCo= @wpC:=(Classical.choice (⟨⟨@wpC,rfl⟩⟩:Nonempty {g:tyC// g= @wpC})).2
noncomputable def WLo:tyC:=(Classical.choice (⟨⟨@WL,rfl⟩⟩:Nonempty {g:tyC// g= @WL})).1
theorem WLo_eq:WLo= @WL:=(Classical.choice (⟨⟨@WL,rfl⟩⟩:Nonempty {g:tyC// g= @WL})).2
noncomputable def wpOo:tyO:=(Classical.choice (⟨⟨@wpO,rfl⟩⟩:Nonempty {g:tyO// g= @wpO})).1
theorem wpOo_eq:wpOo= @wpO:=(Classical.choice (⟨⟨@wpO,rfl⟩⟩:Nonempty {g:tyO// g= @wpO})).2
section
variable (Γ:Nat->Option F) (G:Nat->List T)
noncomputable def wC (c:C) (Q:Ex->M->Prop) (m:M) (_:W3 c Q m):Prop:=wpCo Γ G c m Q
noncomputable def wL (c:C) (Q:Ex->M->Prop) (m:M) (_:W3 c Q m):Prop:=WLo Γ G c m Q
noncomputable def wO (d:Bool) (p:Nat) (l:List ROp) (Q:M->Prop) (m:M) (_:W4 p l Q m):Prop:=wpOo Γ G d p l m Q
def evlS (sl:Nat->Slot):Opd->Option V
 | .s t=>valOf (sl t).v
 | .c v=>some v
 | .g k=>some (.t (.ip (G k)))
end
section
variable {Γ:Nat->Option F} {G:Nat->List T}
@[go_sem ↓]theorem evlS_s (sl:Nat->Slot) (t:Nat):evlS G sl (.s t)=valOf (sl t).v:=rfl
@[go_sem ↓]theorem evlS_c (sl:Nat->Slot) (v:V):evlS G sl (.c v)=some v:=rfl
@[go_sem ↓]theorem evlS_g (sl:Nat->Slot) (k:Nat):evlS G sl (.g k)=some (.t (.ip (G k))):=rfl
theorem evl_eq (sl:Nat->Slot) (u:Nat->Bool) (h:Nat->Option O) (n b:Nat) (x:Opd):evl G (M.st ⟨sl,u,h,n,b⟩) x=evlS G sl x:=by
 cases x with
 | s t=>simp only[evl,M.st,evlS];cases(sl t).v<;>rfl
 | c v=>rfl
 | g k=>rfl
@[go_sem ↓]theorem y_upd_v (f:Nat->Slot) (i j:Nat) (v:V) (bx:Option (List V)) (ad:Option (Nat×Nat)):(updC f i ⟨v,bx,ad⟩ j).v=pk (j==i) v (f j).v ⟨0⟩:=by rw[updC_eq,pk_eq];unfold upd;split<;>rfl
@[go_sem ↓]theorem y_upd_box (f:Nat->Slot) (i j:Nat) (v:V) (bx:Option (List V)) (ad:Option (Nat×Nat)):(updC f i ⟨v,bx,ad⟩ j).box=pk (j==i) bx (f j).box ⟨0⟩:=by rw[updC_eq,pk_eq];unfold upd;split<;>rfl
@[go_sem ↓]theorem y_upd_ad (f:Nat->Slot) (i j:Nat) (v:V) (bx:Option (List V)) (ad:Option (Nat×Nat)):(updC f i ⟨v,bx,ad⟩ j).ad=pk (j==i) ad (f j).ad ⟨0⟩:=by rw[updC_eq,pk_eq];unfold upd;split<;>rfl
@[go_sem ↓]theorem y_beg_v (f:Nat->Slot) (t:Nat):(begC f t).v=(f t).v:=by rw[begC_eq];rfl
@[go_sem ↓]theorem y_beg_box (f:Nat->Slot) (t:Nat):(begC f t).box=(f t).box:=by rw[begC_eq];rfl
@[go_sem ↓]theorem y_beg_ad (f:Nat->Slot) (t:Nat):(begC f t).ad=none:=by rw[begC_eq];rfl
noncomputable def ovrM (k:Nat) (f g:Nat->Slot):Nat->Slot:=ovrC (bitsOf k) f g
theorem pk_bool {α:Type} (b:Bool) (x y:α) (w:WV x y):pk b x y w=if b=true then x else y:=by cases b<;>rfl
@[go_sem ↓]theorem y_ovr_v (k:Nat) (f g:Nat->Slot) (t:Nat):(ovrM k f g t).v=pk ((k>>> t) % 2==1) (f t).v (g t).v ⟨0⟩:=by
 rw[ovrM,ovrC_eq,ovr_v,bitsOf_contains,pk_bool]
@[go_sem ↓]theorem y_ovr_box (k:Nat) (f g:Nat->Slot) (t:Nat):(ovrM k f g t).box=pk ((k>>> t) % 2==1) (f t).box (g t).box ⟨0⟩:=by
 rw[ovrM,ovrC_eq,ovr_box,bitsOf_contains,pk_bool]
@[go_sem ↓]theorem y_slots_v (v:V) (l:List V) (i t:Nat):(slotsC (v::l) i t).v=pk (t==i) v (slotsC l (i+1) t).v ⟨0⟩:=by rw[slotsC_eq,pk_eq];simp only[slots,upd];split<;>rfl
inductive Kf where
 | seq (y:C)
 | blk (id:Nat)
variable (Γ G) in
def qOf0:List Kf->(Ex->M->Prop)->Ex->M->Prop
 | [],Q=>Q
 | .seq y::ks,Q=>thenQ (fun m'=>wpC Γ G y m' (qOf0 ks Q)) (qOf0 ks Q)
 | .blk id::ks,Q=>blockQ id (qOf0 ks Q)
abbrev tyQ:=(Nat->Option F)->(Nat->List T)->List Kf->(Ex->M->Prop)->Ex->M->Prop
noncomputable def qOf:tyQ:=(Classical.choice (⟨⟨@qOf0,rfl⟩⟩:Nonempty {g:tyQ// g= @qOf0})).1
theorem qOf_eq:qOf= @qOf0:=(Classical.choice (⟨⟨@qOf0,rfl⟩⟩:Nonempty {g:tyQ// g= @qOf0})).2
@[go_sem ↓]theorem q_nil (Q:Ex->M->Prop) (e:Ex) (m:M):qOf Γ G [] Q e m=Q e m:=by(try unfold wC);(try rw[wpCo_eq]);rw[qOf_eq];rfl
@[go_sem ↓]theorem q_seqN (y:C) (ks:List Kf) (Q:Ex->M->Prop) (m:M):qOf Γ G (.seq y::ks) Q .normal m=wC Γ G y (qOf Γ G ks Q) m ⟨0⟩:=by(try unfold wC);(try rw[wpCo_eq]);rw[qOf_eq];rfl
@[go_sem ↓]theorem q_seqR (y:C) (ks:List Kf) (Q:Ex->M->Prop) (m:M):qOf Γ G (.seq y::ks) Q .ret m=qOf Γ G ks Q .ret m:=by(try unfold wC);(try rw[wpCo_eq]);rw[qOf_eq];rfl
@[go_sem ↓]theorem q_seqX (y:C) (ks:List Kf) (Q:Ex->M->Prop) (m:M) (id:Nat):qOf Γ G (.seq y::ks) Q (.exit id) m=qOf Γ G ks Q (.exit id) m:=by(try unfold wC);(try rw[wpCo_eq]);rw[qOf_eq];rfl
@[go_sem ↓]theorem q_blkN (i:Nat) (ks:List Kf) (Q:Ex->M->Prop) (m:M):qOf Γ G (.blk i::ks) Q .normal m=qOf Γ G ks Q .normal m:=by rw[qOf_eq];simp[qOf0,blockQ]
@[go_sem ↓]theorem q_blkR (i:Nat) (ks:List Kf) (Q:Ex->M->Prop) (m:M):qOf Γ G (.blk i::ks) Q .ret m=qOf Γ G ks Q .ret m:=by rw[qOf_eq];simp[qOf0,blockQ]
structure W6 (P R:Prop)where
 n:Nat
def ifX (b:Bool) (P R:Prop) (_:W6 P R):Prop:=match b with
 | true=>P
 | false=>R
@[go_sem]theorem ifX_t (P R:Prop) (w:W6 P R):ifX true P R w=P:=rfl
@[go_sem]theorem ifX_f (P R:Prop) (w:W6 P R):ifX false P R w=R:=rfl
@[go_sem ↓]theorem q_blkX (i id:Nat) (ks:List Kf) (Q:Ex->M->Prop) (m:M):qOf Γ G (.blk i::ks) Q (.exit id) m=ifX (id==i) (qOf Γ G ks Q .normal m) (qOf Γ G ks Q (.exit id) m) ⟨0⟩:=by
 rw[qOf_eq]
 by_cases h:id=i
 ·simp[qOf0,blockQ,h,ifX]
 ·have:(id==i)=false:=by simpa using h
  simp[qOf0,blockQ,h,this,ifX]
@[go_sem ↓]theorem y_skip (Q:Ex->M->Prop) (m:M) (w:W3 .skip Q m):wC Γ G .skip Q m w=Q .normal m:=by(try unfold wC wO);(try unfold wC);(try unfold wL);(try rw[wpCo_eq]);(try rw[wpOo_eq]);(try rw[WLo_eq]);(try rw[qOf_eq]);rfl
@[go_sem ↓]theorem y_ret (Q:Ex->M->Prop) (m:M) (w:W3 .ret Q m):wC Γ G .ret Q m w=Q .ret m:=by(try unfold wC wO);(try unfold wC);(try unfold wL);(try rw[wpCo_eq]);(try rw[wpOo_eq]);(try rw[WLo_eq]);(try rw[qOf_eq]);rfl
@[go_sem ↓]theorem y_exit (id:Nat) (Q:Ex->M->Prop) (m:M) (w:W3 (.exit id) Q m):wC Γ G (.exit id) Q m w=Q (.exit id) m:=by(try unfold wC wO);(try unfold wC);(try unfold wL);(try rw[wpCo_eq]);(try rw[wpOo_eq]);(try rw[WLo_eq]);(try rw[qOf_eq]);rfl
@[go_sem ↓]theorem y_region (d:Bool) (l:List ROp) (Q:Ex->M->Prop) (sl:Nat->Slot) (u:Nat->Bool) (h:Nat->Option O) (n b:Nat) (w:W3 (.region d l) Q ⟨sl,u,h,n,b⟩):
 wC Γ G (.region d l) Q ⟨sl,u,h,n,b⟩ w=wO Γ G d 0 l (Q .normal) ⟨begC sl,fun _=>false,h,addC n l,n⟩ ⟨0⟩:=by(try unfold wC wO);(try unfold wC);(try unfold wL);(try rw[wpCo_eq]);(try rw[wpOo_eq]);(try rw[WLo_eq]);(try rw[qOf_eq]);rw[begC_eq,addC_eq];rfl
@[go_sem ↓]theorem y_seq (x y:C) (ks:List Kf) (Q:Ex->M->Prop) (m:M) (w:W3 (.seq x y) (qOf Γ G ks Q) m):wC Γ G (.seq x y) (qOf Γ G ks Q) m w=wC Γ G x (qOf Γ G (.seq y::ks) Q) m ⟨0⟩:=by(try unfold wC wO);(try unfold wC);(try unfold wL);(try rw[wpCo_eq]);(try rw[wpOo_eq]);(try rw[WLo_eq]);(try rw[qOf_eq]);rfl
@[go_sem ↓]theorem y_cond (t:Nat) (x y:C) (Q:Ex->M->Prop) (sl:Nat->Slot) (u:Nat->Bool) (h:Nat->Option O) (n b:Nat) (w:W3 (.cond (.s t) x y) Q ⟨sl,u,h,n,b⟩):
 wC Γ G (.cond (.s t) x y) Q ⟨sl,u,h,n,b⟩ w=condV (sl t).v (wC Γ G x Q ⟨sl,u,h,n,b⟩ ⟨0⟩) (wC Γ G y Q ⟨sl,u,h,n,b⟩ ⟨0⟩) ⟨0⟩:=by(try unfold wC wO);(try unfold wC);(try unfold wL);(try rw[wpCo_eq]);(try rw[wpOo_eq]);(try rw[WLo_eq]);(try rw[qOf_eq]);exact r_cond sl u h n b t x y Q
@[go_sem ↓]theorem y_block (id:Nat) (x:C) (ks:List Kf) (Q:Ex->M->Prop) (m:M) (w:W3 (.block id x) (qOf Γ G ks Q) m):wC Γ G (.block id x) (qOf Γ G ks Q) m w=wC Γ G x (qOf Γ G (.blk id::ks) Q) m ⟨0⟩:=by(try unfold wC wO);(try unfold wC);(try unfold wL);(try rw[wpCo_eq]);(try rw[wpOo_eq]);(try rw[WLo_eq]);(try rw[qOf_eq]);rfl
@[go_sem ↓]theorem y_loop (x:C) (Q:Ex->M->Prop) (m:M) (w:W3 (.loop x) Q m):wC Γ G (.loop x) Q m w=wL Γ G x Q m ⟨0⟩:=by(try unfold wC wO);(try unfold wC);(try unfold wL);(try rw[wpCo_eq]);(try rw[wpOo_eq]);(try rw[WLo_eq]);(try rw[qOf_eq]);rfl
@[go_sem ↓]theorem y_thenN (K:M->Prop) (Q:Ex->M->Prop) (m:M):thenQ K Q .normal m=K m:=rfl
@[go_sem ↓]theorem y_thenR (K:M->Prop) (Q:Ex->M->Prop) (m:M):thenQ K Q .ret m=Q .ret m:=rfl
@[go_sem ↓]theorem y_thenX (K:M->Prop) (Q:Ex->M->Prop) (m:M) (id:Nat):thenQ K Q (.exit id) m=Q (.exit id) m:=rfl
theorem guardV_B {v:V} {g:Bool} {A B B':Prop} {w:Wit A B} {w':Wit A B'} (h:B=B'):guardV v g A B w=guardV v g A B' w':=by
 subst h;rfl
@[go_sem ↓]theorem y_nil (d:Bool) (p:Nat) (Q:M->Prop) (m:M) (w:W4 p [] Q m):wO Γ G d p [] Q m w=Q m:=by unfold wO;rw[wpOo_eq];rfl
@[go_sem ↓]theorem y_guard (d:Bool) (p g:Nat) (want:Bool) (t:Nat) (op:AOp) (l:List ROp) (Q:M->Prop) (sl:Nat->Slot) (u:Nat->Bool) (h:Nat->Option O) (n b:Nat)
 (w:W4 p (⟨some (g,want),some t,op⟩::l) Q ⟨sl,u,h,n,b⟩):
 wO Γ G d p (⟨some (g,want),some t,op⟩::l) Q ⟨sl,u,h,n,b⟩ w=guardV (sl g).v want (wO Γ G d p (⟨none,some t,op⟩::l) Q ⟨sl,u,h,n,b⟩ ⟨0⟩)
  (putV (u t) (some V.undef) (fun v=>wO Γ G d (p+1) l Q ⟨updC sl t ⟨v,none,none⟩,u,h,n,b⟩ ⟨0⟩) ⟨0⟩) ⟨0⟩:=by
 (try rw[updC_eq (α:=Slot)])
 (try rw[updC_eq (α:=Bool)])
 (try rw[hpC_eq])
 unfold wO
 rw[wpOo_eq]
 rw[r_wpO_consG,r_wpO_cons]
 refine guardV_B ?_
 simp[M.free,M.apply,setBox,putV,hpUpd]
def AOp.isCall:AOp->Bool
 | .call _ _ _=>true
 | .fcall _ _=>true
 | _=>false
theorem stepO_nc {d:Bool} {p:Nat} {m:M} {dst:Option Nat} {op:AOp} {K:M->Prop} (hc:op.isCall=false):
 stepO Γ G d p m dst op K=match aeval G p m.st op with | none=>False | some e=>m.free dst e=true/\K (m.apply dst e):=by
 cases op<;>first | rfl | simp[AOp.isCall]at hc
theorem wO_val {d:Bool} {p t:Nat} {op:AOp} {l:List ROp} {Q:M->Prop} {sl:Nat->Slot} {u:Nat->Bool} {h:Nat->Option O} {n b:Nat} {w:W4 p (⟨none,some t,op⟩::l) Q ⟨sl,u,h,n,b⟩} {ov:Option V}
 (hc:op.isCall=false) (ha:aeval G p (M.st ⟨sl,u,h,n,b⟩) op=ov.map fun v=>({ val:=v }:Eff)):
 wO Γ G d p (⟨none,some t,op⟩::l) Q ⟨sl,u,h,n,b⟩ w=putV (u t) ov (fun v=>wO Γ G d (p+1) l Q ⟨updC sl t ⟨v,none,none⟩,u,h,n,b⟩ ⟨0⟩) ⟨0⟩:=by
 (try rw[updC_eq (α:=Slot)])
 (try rw[updC_eq (α:=Bool)])
 (try rw[hpC_eq])
 unfold wO
 rw[wpOo_eq]
 rw[r_wpO_cons,stepO_nc hc,ha]
 cases ov with
 | none=>rfl
 | some v=>simp[M.free,M.apply,setBox,putV,hpUpd]
theorem wO_hp {d:Bool} {p t:Nat} {op:AOp} {l:List ROp} {Q:M->Prop} {sl:Nat->Slot} {u:Nat->Bool} {h:Nat->Option O} {n b:Nat} {w:W4 p (⟨none,some t,op⟩::l) Q ⟨sl,u,h,n,b⟩} {ov:Option (V×List (Nat×O))}
 (hc:op.isCall=false) (ha:aeval G p (M.st ⟨sl,u,h,n,b⟩) op=ov.map fun v=>({ val:=v.1,hp:=v.2 }:Eff)):
 wO Γ G d p (⟨none,some t,op⟩::l) Q ⟨sl,u,h,n,b⟩ w=putA (u t) ov (fun v hp=>wO Γ G d (p+1) l Q ⟨updC sl t ⟨v,none,none⟩,u,hpC h hp,n,b⟩ ⟨0⟩) ⟨0⟩:=by
 rw[putA_eq (w':=⟨0⟩)]
 (try rw[updC_eq (α:=Slot)])
 (try rw[updC_eq (α:=Bool)])
 (try rw[hpC_eq])
 unfold wO
 rw[wpOo_eq]
 rw[r_wpO_cons,stepO_nc hc,ha]
 cases ov with
 | none=>rfl
 | some v=>simp[M.free,M.apply,setBox,putV]
theorem wO_hpn {d:Bool} {p:Nat} {op:AOp} {l:List ROp} {Q:M->Prop} {sl:Nat->Slot} {u:Nat->Bool} {h:Nat->Option O} {n b:Nat} {w:W4 p (⟨none,none,op⟩::l) Q ⟨sl,u,h,n,b⟩} {ov:Option (V×List (Nat×O))}
 (hc:op.isCall=false) (ha:aeval G p (M.st ⟨sl,u,h,n,b⟩) op=ov.map fun v=>({ val:=v.1,hp:=v.2 }:Eff)):
 wO Γ G d p (⟨none,none,op⟩::l) Q ⟨sl,u,h,n,b⟩ w=putA false ov (fun _ hp=>wO Γ G d (p+1) l Q ⟨sl,u,hpC h hp,n,b⟩ ⟨0⟩) ⟨0⟩:=by
 rw[putA_eq (w':=⟨0⟩)]
 (try rw[updC_eq (α:=Slot)])
 (try rw[updC_eq (α:=Bool)])
 (try rw[hpC_eq])
 unfold wO
 rw[wpOo_eq]
 rw[r_wpO_cons,stepO_nc hc,ha]
 cases ov with
 | none=>rfl
 | some v=>simp[M.free,M.apply,setBox,putV]
def binS (op:BinOp):V->V->Option V
 | .t a,.t b=>(binT op a b).map V.t
 | _,_=>none
def mxS (mn:Bool):V->V->Option V
 | .t a,.t b=>(mxT mn a b).map V.t
 | _,_=>none
def unS (op:UnOp):V->Option V
 | .t a=>(unT op a).map V.t
 | _=>none
def boolS:V->Option Bool
 | .t (.bool b)=>some b
 | _=>none
def intS:V->Option Int
 | .t (.int _ n)=>some n
 | _=>none
def eqaS (neg:Bool) (ks:List Nat):V->V->Option V
 | .agg a,.agg b=>(eqCells ks a b).map fun r=> .t (.bool (r != neg))
 | _,_=>none
def loadS (h:Nat->Option O) (ag:Bool) (n:Nat):V->Option V
 | .mp k i off=>match h k with
   | some (.rows _ rs _)=>(rs[i]?).bind fun row=>(rd row off n).bind (wrapAg ag)
   | _=>none
 | .t (.ip cs)=>(rd cs 0 n).bind fun r=>wrapAg ag (r.map V.t)
 | _=>none
def nilS (h:Nat->Option O):V->Option V
 | .mp k i off=>match h k with
   | some (.rows _ _ _)=>some (.mp k i off)
   | _=>none
 | .t (.ip cs)=>some (.t (.ip cs))
 | .fn f a b=>some (.fn f a b)
 | .t (.fn f a b)=>some (.t (.fn f a b))
 | .t (.fa f c)=>some (.t (.fa f c))
 | _=>none
def faddrS (h:Nat->Option O) (off:Nat):V->Option V
 | .mp k i o=>match h k with
   | some (.rows _ _ _)=>some (.mp k i (o+off))
   | _=>none
 | .t (.ip cs)=>some (.t (.ip (cs.drop off)))
 | _=>none
def fieldS (ag:Bool) (off n:Nat):V->Option V
 | .agg cs=>(rd cs off n).bind (wrapAg ag)
 | _=>none
def iaddrSS (h:Nat->Option O) (sz:Nat) (n:Int):V->Option V
 | .t (.sl es)=>if 0<=n then(es[n.toNat]?).bind fun row=>if row.length=sz then some (.t (.ip row))else none else none
 | .ms k j len=>match h k with
   | some (.rows sz' _ _)=>if 0<=n/\n<len/\sz'=sz then some (.mp k (j+n.toNat) 0)else none
   | _=>none
 | _=>none
def iaddrAS (h:Nat->Option O) (len sz:Nat) (n:Int) (v:V):Option V:=
 if 0<=n/\n<len then match v with
  | .mp k j o=>match h k with
    | some (.rows _ _ _)=>some (.mp k j (o+n.toNat*sz))
    | _=>none
  | .t (.ip cs)=>some (.t (.ip (cs.drop (n.toNat*sz))))
  | _=>none
 else none
def idxAS (ag:Bool) (len sz:Nat) (n:Int):V->Option V
 | .agg cs=>if 0<=n/\n<len then(rd cs (n.toNat*sz) sz).bind (wrapAg ag)else none
 | _=>none
def idxSS (n:Int):V->Option V
 | .t (.str b)=>if 0<=n then(b[n.toNat]?).map fun c=> .t (.int .u8 c.toNat)else none
 | _=>none
def extrS (i:Nat):V->Option V
 | .tup cs=>cs[i]?
 | _=>none
def lenS (h:Nat->Option O):V->Option Nat
 | .t .nils=>some 0
 | .t (.sl es)=>some es.length
 | .t (.slc es)=>some es.length
 | .ms k _ len=>match h k with
   | some (.rows _ _ _)=>some len
   | _=>none
 | _=>none
def slenS:V->Option V
 | .t (.str b)=>some (.t (.int .i64 b.size))
 | _=>none
def rowsS (h:Nat->Option O):V->Option (List (List V))
 | .t .nils=>some []
 | .t (.sl es)=>some (es.map (·.map V.t))
 | .t (.slc es)=>some (es.map (·.map V.t))
 | .ms k i len=>match h k with
   | some (.rows _ rs _)=>rd rs i len
   | _=>none
 | _=>none
attribute [go_sem] binS mxS unS boolS intS eqaS loadS nilS faddrS fieldS iaddrSS iaddrAS idxAS idxSS extrS slenS
@[go_sem]theorem lenS_nils (h:Nat->Option O):lenS h (.t .nils)=some 0:=rfl
@[go_sem]theorem lenS_sl (h:Nat->Option O) (es:List (List T)):lenS h (.t (.sl es))=some es.length:=rfl
@[go_sem]theorem lenS_ms (h:Nat->Option O) (k i len:Nat):lenS h (.ms k i len)=match h k with
 | some (.rows _ _ _)=>some len
 | _=>none:=rfl
@[go_sem]theorem rowsS_nils (h:Nat->Option O):rowsS h (.t .nils)=some []:=rfl
@[go_sem]theorem rowsS_sl (h:Nat->Option O) (es:List (List T)):rowsS h (.t (.sl es))=some (es.map (·.map V.t)):=rfl
@[go_sem]theorem rowsS_ms (h:Nat->Option O) (k i len:Nat):rowsS h (.ms k i len)=match h k with
 | some (.rows _ rs _)=>rd rs i len
 | _=>none:=rfl
variable (G) in
def evlsS (sl:Nat->Slot):List Opd->Option (List V)
 | []=>some []
 | x::xs=>ob (evlS G sl x) (fun v=>ob (evlsS sl xs) (fun vs=>some (v::vs)) ⟨0⟩) ⟨0⟩
@[go_sem ↓]theorem evlsS_nil (sl:Nat->Slot):evlsS G sl []=some []:=rfl
@[go_sem ↓]theorem evlsS_cons (sl:Nat->Slot) (x:Opd) (xs:List Opd):evlsS G sl (x::xs)=ob (evlS G sl x) (fun v=>ob (evlsS G sl xs) (fun vs=>some (v::vs)) ⟨0⟩) ⟨0⟩:=rfl
theorem evls_eq (sl:Nat->Slot) (u:Nat->Bool) (h:Nat->Option O) (n b:Nat): ∀xs:List Opd,evls G (M.st ⟨sl,u,h,n,b⟩) xs=evlsS G sl xs
 | []=>rfl
 | x::xs=>by
   rw[evls,evlsS_cons,evl_eq,evls_eq sl u h n b xs]
   rfl
theorem evInt_eq (sl:Nat->Slot) (u:Nat->Bool) (h:Nat->Option O) (n b:Nat) (x:Opd):evInt G (M.st ⟨sl,u,h,n,b⟩) x=(evlS G sl x).bind intS:=by
 rw[evInt,evl_eq]
 cases evlS G sl x with
 | none=>rfl
 | some v=>cases v with
   | t x=>cases x<;>rfl
   | _=>rfl
theorem evBool_eq (sl:Nat->Slot) (u:Nat->Bool) (h:Nat->Option O) (n b:Nat) (x:Opd):evBool G (M.st ⟨sl,u,h,n,b⟩) x=(evlS G sl x).bind boolS:=by
 rw[evBool,evl_eq]
 cases evlS G sl x with
 | none=>rfl
 | some v=>cases v with
   | t x=>cases x<;>rfl
   | _=>rfl
variable (d:Bool) (p:Nat) (l:List ROp) (Q:M->Prop) (sl:Nat->Slot) (u:Nat->Bool) (h:Nat->Option O) (n b:Nat)
@[go_sem ↓]theorem y_mv (t:Nat) (x:Opd) (w:W4 _ _ _ _):
 wO Γ G d p (⟨none,some t,.mv x⟩::l) Q ⟨sl,u,h,n,b⟩ w=putV (u t) (evlS G sl x) (fun v=>wO Γ G d (p+1) l Q ⟨updC sl t ⟨v,none,none⟩,u,h,n,b⟩ ⟨0⟩) ⟨0⟩:=by
 refine wO_val rfl ?_
 simp only[aeval,evl_eq]
 cases evlS G sl x<;>rfl
@[go_sem ↓]theorem y_nilchk (t:Nat) (x:Opd) (w:W4 _ _ _ _):
 wO Γ G d p (⟨none,some t,.nilchk x⟩::l) Q ⟨sl,u,h,n,b⟩ w=putV (u t) (ob (evlS G sl x) (nilS h) ⟨0⟩) (fun v=>wO Γ G d (p+1) l Q ⟨updC sl t ⟨v,none,none⟩,u,h,n,b⟩ ⟨0⟩) ⟨0⟩:=by
 refine wO_val rfl ?_
 simp only[aeval,evl_eq,ob]
 cases evlS G sl x with
 | none=>rfl
 | some v=>cases v with
   | mp k i off=>simp only[Option.bind_eq_bind,Option.bind_some,nilS,M.st];cases h k with
     | none=>rfl
     | some o=>cases o<;>rfl
   | t x=>cases x<;>rfl
   | _=>rfl
@[go_sem ↓]theorem y_bin (t:Nat) (op:BinOp) (x y:Opd) (w:W4 _ _ _ _):
 wO Γ G d p (⟨none,some t,.bin op x y⟩::l) Q ⟨sl,u,h,n,b⟩ w=putV (u t) (ob (evlS G sl x) (fun a=>ob (evlS G sl y) (binS op a) ⟨0⟩) ⟨0⟩) (fun v=>wO Γ G d (p+1) l Q ⟨updC sl t ⟨v,none,none⟩,u,h,n,b⟩ ⟨0⟩) ⟨0⟩:=by
 refine wO_val rfl ?_
 simp only[aeval,evl_eq,ob]
 cases evlS G sl x with
 | none=>rfl
 | some v=>cases evlS G sl y with
   | none=>rfl
   | some v'=>cases v<;>cases v'<;>simp only[Option.bind_eq_bind,Option.bind_some,binS,Option.map_none]
              rename_i a c
              cases binT op a c<;>rfl
@[go_sem ↓]theorem y_mx (t:Nat) (mn:Bool) (x y:Opd) (w:W4 _ _ _ _):
 wO Γ G d p (⟨none,some t,.mx mn x y⟩::l) Q ⟨sl,u,h,n,b⟩ w=putV (u t) (ob (evlS G sl x) (fun a=>ob (evlS G sl y) (mxS mn a) ⟨0⟩) ⟨0⟩) (fun v=>wO Γ G d (p+1) l Q ⟨updC sl t ⟨v,none,none⟩,u,h,n,b⟩ ⟨0⟩) ⟨0⟩:=by
 refine wO_val rfl ?_
 simp only[aeval,evl_eq,ob]
 cases evlS G sl x with
 | none=>rfl
 | some v=>cases evlS G sl y with
   | none=>rfl
   | some v'=>cases v<;>cases v'<;>simp only[Option.bind_eq_bind,Option.bind_some,mxS,Option.map_none]
              rename_i a c
              cases mxT mn a c<;>rfl
@[go_sem ↓]theorem y_un (t:Nat) (op:UnOp) (x:Opd) (w:W4 _ _ _ _):
 wO Γ G d p (⟨none,some t,.un op x⟩::l) Q ⟨sl,u,h,n,b⟩ w=putV (u t) (ob (evlS G sl x) (unS op) ⟨0⟩) (fun v=>wO Γ G d (p+1) l Q ⟨updC sl t ⟨v,none,none⟩,u,h,n,b⟩ ⟨0⟩) ⟨0⟩:=by
 refine wO_val rfl ?_
 simp only[aeval,evl_eq,ob]
 cases evlS G sl x with
 | none=>rfl
 | some v=>cases v<;>simp only[Option.bind_eq_bind,Option.bind_some,unS,Option.map_none]
           rename_i a
           cases unT op a<;>rfl
@[go_sem ↓]theorem y_conv (t:Nat) (k:IntKind) (x:Opd) (w:W4 _ _ _ _):
 wO Γ G d p (⟨none,some t,.conv k x⟩::l) Q ⟨sl,u,h,n,b⟩ w=putV (u t) (ob (evlS G sl x) (fun v=>ob (intS v) (fun n=>some (.t (.int k (k.wrap n)))) ⟨0⟩) ⟨0⟩) (fun v=>wO Γ G d (p+1) l Q ⟨updC sl t ⟨v,none,none⟩,u,h,n,b⟩ ⟨0⟩) ⟨0⟩:=by
 refine wO_val rfl ?_
 simp only[aeval,evInt_eq,ob]
 cases evlS G sl x with
 | none=>rfl
 | some v=>simp only[Option.bind_eq_bind,Option.bind_some];cases intS v<;>rfl
@[go_sem ↓]theorem y_load (t:Nat) (ag:Bool) (k:Nat) (x:Opd) (w:W4 _ _ _ _):
 wO Γ G d p (⟨none,some t,.load ag k x⟩::l) Q ⟨sl,u,h,n,b⟩ w=putV (u t) (ob (evlS G sl x) (loadS h ag k) ⟨0⟩) (fun v=>wO Γ G d (p+1) l Q ⟨updC sl t ⟨v,none,none⟩,u,h,n,b⟩ ⟨0⟩) ⟨0⟩:=by
 refine wO_val rfl ?_
 simp only[aeval,evl_eq,ob]
 cases evlS G sl x with
 | none=>rfl
 | some v=>cases v with
   | mp j i off=>simp only[Option.bind_eq_bind,Option.bind_some,loadS,M.st];cases h j with
     | none=>rfl
     | some o=>cases o with
       | rows s rs z=>
         simp only
         cases rs[i]? with
         | none=>rfl
         | some row=>simp only[Option.bind_some];cases rd row off k with
           | none=>rfl
           | some r=>simp only[Option.bind_some];cases wrapAg ag r<;>rfl
       | _=>rfl
   | t x=>cases x with
     | ip cs=>simp only[Option.bind_eq_bind,Option.bind_some,loadS];cases rd cs 0 k with
       | none=>rfl
       | some r=>simp only[Option.bind_some];cases wrapAg ag (r.map V.t)<;>rfl
     | _=>rfl
   | _=>rfl
@[go_sem ↓]theorem y_faddr (t:Nat) (off:Nat) (x:Opd) (w:W4 _ _ _ _):
 wO Γ G d p (⟨none,some t,.faddr off x⟩::l) Q ⟨sl,u,h,n,b⟩ w=putV (u t) (ob (evlS G sl x) (faddrS h off) ⟨0⟩) (fun v=>wO Γ G d (p+1) l Q ⟨updC sl t ⟨v,none,none⟩,u,h,n,b⟩ ⟨0⟩) ⟨0⟩:=by
 refine wO_val rfl ?_
 simp only[aeval,evl_eq,ob]
 cases evlS G sl x with
 | none=>rfl
 | some v=>cases v with
   | mp k i o=>simp only[Option.bind_eq_bind,Option.bind_some,faddrS,M.st];cases h k with
     | none=>rfl
     | some o=>cases o<;>rfl
   | t x=>cases x<;>rfl
   | _=>rfl
@[go_sem ↓]theorem y_field (t:Nat) (ag:Bool) (off k:Nat) (x:Opd) (w:W4 _ _ _ _):
 wO Γ G d p (⟨none,some t,.field ag off k x⟩::l) Q ⟨sl,u,h,n,b⟩ w=putV (u t) (ob (evlS G sl x) (fieldS ag off k) ⟨0⟩) (fun v=>wO Γ G d (p+1) l Q ⟨updC sl t ⟨v,none,none⟩,u,h,n,b⟩ ⟨0⟩) ⟨0⟩:=by
 refine wO_val rfl ?_
 simp only[aeval,evl_eq,ob]
 cases evlS G sl x with
 | none=>rfl
 | some v=>cases v with
   | agg cs=>simp only[Option.bind_eq_bind,Option.bind_some,fieldS];cases rd cs off k with
     | none=>rfl
     | some r=>simp only[Option.bind_some];cases wrapAg ag r<;>rfl
   | _=>rfl
@[go_sem ↓]theorem y_iaddrS (t:Nat) (sz:Nat) (x i:Opd) (w:W4 _ _ _ _):
 wO Γ G d p (⟨none,some t,.iaddrS sz x i⟩::l) Q ⟨sl,u,h,n,b⟩ w=putV (u t) (ob (evlS G sl i) (fun v=>ob (intS v) (fun k=>ob (evlS G sl x) (iaddrSS h sz k) ⟨0⟩) ⟨0⟩) ⟨0⟩) (fun v=>wO Γ G d (p+1) l Q ⟨updC sl t ⟨v,none,none⟩,u,h,n,b⟩ ⟨0⟩) ⟨0⟩:=by
 refine wO_val rfl ?_
 simp only[aeval,evl_eq,evInt_eq,ob]
 cases evlS G sl i with
 | none=>rfl
 | some v=>simp only[Option.bind_eq_bind,Option.bind_some];cases intS v with
   | none=>rfl
   | some k=>cases evlS G sl x with
     | none=>rfl
     | some v=>cases v with
       | ms q j len=>simp only[Option.bind_some,iaddrSS,M.st];cases h q with
         | none=>rfl
         | some o=>cases o with
           | rows s rs z=>simp only;split<;>rfl
           | _=>rfl
       | t x=>cases x with
         | sl es=>
           simp only[Option.bind_some,iaddrSS]
           split
           ·cases es[k.toNat]? with
            | none=>rfl
            | some row=>simp only[Option.bind_some];split<;>rfl
           ·rfl
         | _=>rfl
       | _=>rfl
@[go_sem ↓]theorem y_iaddrA (t:Nat) (len sz:Nat) (x i:Opd) (w:W4 _ _ _ _):
 wO Γ G d p (⟨none,some t,.iaddrA len sz x i⟩::l) Q ⟨sl,u,h,n,b⟩ w=putV (u t) (ob (evlS G sl i) (fun v=>ob (intS v) (fun k=>ob (evlS G sl x) (iaddrAS h len sz k) ⟨0⟩) ⟨0⟩) ⟨0⟩) (fun v=>wO Γ G d (p+1) l Q ⟨updC sl t ⟨v,none,none⟩,u,h,n,b⟩ ⟨0⟩) ⟨0⟩:=by
 refine wO_val rfl ?_
 simp only[aeval,evl_eq,evInt_eq,ob]
 cases evlS G sl i with
 | none=>rfl
 | some v=>simp only[Option.bind_eq_bind,Option.bind_some];cases intS v with
   | none=>rfl
   | some k=>cases evlS G sl x with
     | none=>simp
     | some v=>simp only[Option.bind_some,iaddrAS];split
               ·cases v with
                | mp q j o=>simp only[M.st];cases h q with
                  | none=>rfl
                  | some o=>cases o<;>rfl
                | t x=>cases x<;>rfl
                | _=>rfl
               ·rfl
@[go_sem ↓]theorem y_idxA (t:Nat) (ag:Bool) (len sz:Nat) (x i:Opd) (w:W4 _ _ _ _):
 wO Γ G d p (⟨none,some t,.idxA ag len sz x i⟩::l) Q ⟨sl,u,h,n,b⟩ w=putV (u t) (ob (evlS G sl i) (fun v=>ob (intS v) (fun k=>ob (evlS G sl x) (idxAS ag len sz k) ⟨0⟩) ⟨0⟩) ⟨0⟩) (fun v=>wO Γ G d (p+1) l Q ⟨updC sl t ⟨v,none,none⟩,u,h,n,b⟩ ⟨0⟩) ⟨0⟩:=by
 refine wO_val rfl ?_
 simp only[aeval,evl_eq,evInt_eq,ob]
 cases evlS G sl i with
 | none=>rfl
 | some v=>simp only[Option.bind_eq_bind,Option.bind_some];cases intS v with
   | none=>rfl
   | some k=>cases evlS G sl x with
     | none=>rfl
     | some v=>cases v with
       | agg cs=>
         simp only[Option.bind_some,idxAS]
         split
         ·cases rd cs (k.toNat*sz) sz with
          | none=>rfl
          | some r=>simp only[Option.bind_some];cases wrapAg ag r<;>rfl
         ·rfl
       | _=>rfl
@[go_sem ↓]theorem y_idxS (t:Nat) (x i:Opd) (w:W4 _ _ _ _):
 wO Γ G d p (⟨none,some t,.idxS x i⟩::l) Q ⟨sl,u,h,n,b⟩ w=putV (u t) (ob (evlS G sl i) (fun v=>ob (intS v) (fun k=>ob (evlS G sl x) (idxSS k) ⟨0⟩) ⟨0⟩) ⟨0⟩) (fun v=>wO Γ G d (p+1) l Q ⟨updC sl t ⟨v,none,none⟩,u,h,n,b⟩ ⟨0⟩) ⟨0⟩:=by
 refine wO_val rfl ?_
 simp only[aeval,evl_eq,evInt_eq,ob]
 cases evlS G sl i with
 | none=>rfl
 | some v=>simp only[Option.bind_eq_bind,Option.bind_some];cases intS v with
   | none=>rfl
   | some k=>cases evlS G sl x with
     | none=>rfl
     | some v=>cases v with
       | t x=>cases x with
         | str s=>
           simp only[Option.bind_some,idxSS]
           split
           ·cases s[k.toNat]? <;>rfl
           ·rfl
         | _=>rfl
       | _=>rfl
@[go_sem ↓]theorem y_extr (t:Nat) (x:Opd) (i:Nat) (w:W4 _ _ _ _):
 wO Γ G d p (⟨none,some t,.extr x i⟩::l) Q ⟨sl,u,h,n,b⟩ w=putV (u t) (ob (evlS G sl x) (extrS i) ⟨0⟩) (fun v=>wO Γ G d (p+1) l Q ⟨updC sl t ⟨v,none,none⟩,u,h,n,b⟩ ⟨0⟩) ⟨0⟩:=by
 refine wO_val rfl ?_
 simp only[aeval,evl_eq,ob]
 cases evlS G sl x with
 | none=>rfl
 | some v=>cases v with
   | tup cs=>simp only[Option.bind_eq_bind,Option.bind_some,extrS];cases cs[i]? <;>rfl
   | _=>rfl
theorem lenOf_eq (sl:Nat->Slot) (u:Nat->Bool) (h:Nat->Option O) (n b:Nat) (v:V):lenOf (M.st ⟨sl,u,h,n,b⟩) v=lenS h v:=by
 cases v with
 | t x=>cases x<;>rfl
 | ms k i len=>simp only[lenOf,lenS,M.st];cases h k with
   | none=>rfl
   | some o=>cases o<;>rfl
 | _=>rfl
theorem rowsOf_eq (sl:Nat->Slot) (u:Nat->Bool) (h:Nat->Option O) (n b:Nat) (v:V):rowsOf (M.st ⟨sl,u,h,n,b⟩) v=rowsS h v:=by
 cases v with
 | t x=>cases x<;>rfl
 | ms k i len=>simp only[rowsOf,rowsS,M.st];cases h k with
   | none=>rfl
   | some o=>cases o<;>rfl
 | _=>rfl
@[go_sem ↓]theorem y_len (t:Nat) (x:Opd) (w:W4 _ _ _ _):
 wO Γ G d p (⟨none,some t,.len x⟩::l) Q ⟨sl,u,h,n,b⟩ w=putV (u t) (ob (evlS G sl x) (fun v=>ob (lenS h v) (fun k=>some (.t (.int .i64 k))) ⟨0⟩) ⟨0⟩) (fun v=>wO Γ G d (p+1) l Q ⟨updC sl t ⟨v,none,none⟩,u,h,n,b⟩ ⟨0⟩) ⟨0⟩:=by
 refine wO_val rfl ?_
 simp only[aeval,evl_eq,ob,lenOf_eq]
 cases evlS G sl x with
 | none=>rfl
 | some v=>simp only[Option.bind_eq_bind,Option.bind_some];cases lenS h v<;>rfl
@[go_sem ↓]theorem y_slen (t:Nat) (x:Opd) (w:W4 _ _ _ _):
 wO Γ G d p (⟨none,some t,.slen x⟩::l) Q ⟨sl,u,h,n,b⟩ w=putV (u t) (ob (evlS G sl x) slenS ⟨0⟩) (fun v=>wO Γ G d (p+1) l Q ⟨updC sl t ⟨v,none,none⟩,u,h,n,b⟩ ⟨0⟩) ⟨0⟩:=by
 refine wO_val rfl ?_
 simp only[aeval,evl_eq,ob]
 cases evlS G sl x with
 | none=>rfl
 | some v=>cases v with
   | t x=>cases x<;>rfl
   | _=>rfl
def capS (v:V):Option V:=match v with
 | .t .nils=>some (.t (.int .i64 0))
 | _=>none
@[go_sem]theorem capS_n:capS (.t .nils)=some (.t (.int .i64 0)):=rfl
@[go_sem ↓]theorem y_capN (t:Nat) (x:Opd) (w:W4 _ _ _ _):
 wO Γ G d p (⟨none,some t,.capN x⟩::l) Q ⟨sl,u,h,n,b⟩ w=putV (u t) (ob (evlS G sl x) capS ⟨0⟩) (fun v=>wO Γ G d (p+1) l Q ⟨updC sl t ⟨v,none,none⟩,u,h,n,b⟩ ⟨0⟩) ⟨0⟩:=by
 refine wO_val rfl ?_
 simp only[aeval,evl_eq,ob]
 cases evlS G sl x with
 | none=>rfl
 | some v=>cases v with
   | t x=>cases x<;>rfl
   | _=>rfl
def condO (o:Option V) (A B:Prop) (w:Wit A B):Prop:=match o with
 | some v=>condV v A B w
 | none=>False
@[go_sem]theorem condO_b (b:Bool) (A B:Prop) (w:Wit A B):condO (some (.t (.bool b))) A B w=condS b A B w:=rfl
@[go_sem ↓]theorem y_pick (t:Nat) (c x y:Opd) (w:W4 _ _ _ _):
 wO Γ G d p (⟨none,some t,.pick c x y⟩::l) Q ⟨sl,u,h,n,b⟩ w=condO (evlS G sl c)
  (putV (u t) (evlS G sl x) (fun v=>wO Γ G d (p+1) l Q ⟨updC sl t ⟨v,none,none⟩,u,h,n,b⟩ ⟨0⟩) ⟨0⟩)
  (putV (u t) (evlS G sl y) (fun v=>wO Γ G d (p+1) l Q ⟨updC sl t ⟨v,none,none⟩,u,h,n,b⟩ ⟨0⟩) ⟨0⟩) ⟨0⟩:=by
 rw[wO_val (ov:=((evlS G sl c).bind boolS).bind fun t=>evlS G sl (if t then x else y)) rfl (by
  simp only[aeval,evl_eq,evBool_eq]
  cases(evlS G sl c).bind boolS with
  | none=>rfl
  | some v=>simp only[Option.bind_eq_bind,Option.bind_some];cases evlS G sl (if v=true then x else y)<;>rfl)]
 cases evlS G sl c with
 | none=>rfl
 | some v=>cases v with
   | t z=>cases z with
     | bool z=>cases z<;>simp[condO,condV,condS,boolS]
     | _=>rfl
   | _=>rfl
@[go_sem ↓]theorem y_allocL (t:Nat) (cs:List V) (w:W4 _ _ _ _):
 wO Γ G d p (⟨none,some t,.allocL cs⟩::l) Q ⟨sl,u,h,n,b⟩ w=putV (u t) (some cs) (fun cs=>wO Γ G d (p+1) l Q ⟨updC sl t ⟨.lb,some cs,none⟩,u,h,n,b⟩ ⟨0⟩) ⟨0⟩:=by
 (try rw[updC_eq (α:=Slot)])
 (try rw[updC_eq (α:=Bool)])
 (try rw[hpC_eq])
 unfold wO
 rw[wpOo_eq]
 rw[r_wpO_cons,stepO_nc rfl]
 simp[aeval,M.free,M.apply,setBox,putV,hpUpd]
@[go_sem ↓]theorem y_boxL (t k:Nat) (x:Opd) (w:W4 _ _ _ _):
 wO Γ G d p (⟨none,some t,.boxL k x⟩::l) Q ⟨sl,u,h,n,b⟩ w=putV (u t) (ob (evlS G sl x) (fun v=>ob v.cells (fun cs=>if cs.length=k then some cs else none) ⟨0⟩) ⟨0⟩)
  (fun cs=>wO Γ G d (p+1) l Q ⟨updC sl t ⟨.lb,some cs,none⟩,u,h,n,b⟩ ⟨0⟩) ⟨0⟩:=by
 (try rw[updC_eq (α:=Slot)])
 (try rw[updC_eq (α:=Bool)])
 (try rw[hpC_eq])
 unfold wO
 rw[wpOo_eq]
 rw[r_wpO_cons,stepO_nc rfl]
 simp only[aeval,evl_eq,ob]
 cases evlS G sl x with
 | none=>rfl
 | some v=>
   simp only[Option.bind_eq_bind,Option.bind_some]
   cases v.cells with
   | none=>rfl
   | some cs=>
     simp only[Option.bind_some]
     by_cases hk:cs.length=k
     ·simp[M.free,M.apply,setBox,putV,hpUpd,hk]
     ·simp[putV,hk]
def refK {β:Type} (ad:Option (Nat×Nat)) (v:V) (t:Nat) (K:Nat->Nat->Option β) (_:WK K):Option β:=match ad with
 | some r=>K r.1 r.2
 | none=>match v with
   | .lb=>K t 0
   | _=>none
@[go_sem]theorem refK_some {β:Type} (a o:Nat) (v:V) (t:Nat) (K:Nat->Nat->Option β) (w:WK K):refK (some (a,o)) v t K w=K a o:=rfl
@[go_sem]theorem refK_lb {β:Type} (t:Nat) (K:Nat->Nat->Option β) (w:WK K):refK none .lb t K w=K t 0:=rfl
theorem refL_eq (sl:Nat->Slot) (u:Nat->Bool) (h:Nat->Option O) (n b t:Nat) {β:Type} (K:Nat->Nat->Option β) (w:WK K):
 ((refL (M.st ⟨sl,u,h,n,b⟩) (.s t)).bind fun r=>K r.1 r.2)=refK (sl t).ad (sl t).v t K w:=by
 simp only[refL,M.st,refK]
 cases(sl t).ad with
 | some r=>rfl
 | none=>cases(sl t).v<;>rfl
@[go_sem ↓]theorem y_loadL (t:Nat) (ag:Bool) (k a:Nat) (w:W4 _ _ _ _):
 wO Γ G d p (⟨none,some t,.loadL ag k (.s a)⟩::l) Q ⟨sl,u,h,n,b⟩ w=putV (u t) (refK (sl a).ad (sl a).v a (fun r off=>ob (sl r).box (fun cs=>ob (rd cs off k) (wrapAg ag) ⟨0⟩) ⟨0⟩) ⟨0⟩) (fun v=>wO Γ G d (p+1) l Q ⟨updC sl t ⟨v,none,none⟩,u,h,n,b⟩ ⟨0⟩) ⟨0⟩:=by
 refine wO_val rfl ?_
 rw[<- refL_eq sl u h n b a]
 simp only[aeval,ob]
 cases refL (M.st ⟨sl,u,h,n,b⟩) (.s a)with
 | none=>rfl
 | some r=>
   simp only[Option.bind_eq_bind,Option.bind_some,M.st]
   cases(sl r.1).box with
   | none=>rfl
   | some cs=>simp only[Option.bind_some];cases rd cs r.2 k with
     | none=>rfl
     | some x=>simp only[Option.bind_some];cases wrapAg ag x<;>rfl
@[go_sem ↓]theorem y_storeL (k a:Nat) (x:Opd) (w:W4 _ _ _ _):
 wO Γ G d p (⟨none,none,.storeL k (.s a) x⟩::l) Q ⟨sl,u,h,n,b⟩ w=
  put4 (refK (sl a).ad (sl a).v a (fun r off=>ob (sl r).box (fun cs=>ob (evlS G sl x) (fun v=>ob v.cells (fun new=>if new.length=k then ob (wr cs off new) (fun cs'=>some (r,(sl r).v,cs',(sl r).ad)) ⟨0⟩else none) ⟨0⟩) ⟨0⟩) ⟨0⟩) ⟨0⟩)
   (fun r v cs ad=>wO Γ G d (p+1) l Q ⟨updC sl r ⟨v,some cs,ad⟩,u,h,n,b⟩ ⟨0⟩) ⟨0⟩:=by
 (try rw[updC_eq (α:=Slot)])
 (try rw[updC_eq (α:=Bool)])
 (try rw[hpC_eq])
 unfold wO
 rw[wpOo_eq]
 rw[r_wpO_cons,stepO_nc rfl,<- refL_eq sl u h n b a]
 simp only[aeval,ob,evl_eq]
 cases refL (M.st ⟨sl,u,h,n,b⟩) (.s a)with
 | none=>rfl
 | some r=>
   simp only[Option.bind_eq_bind,Option.bind_some,M.st]
   cases(sl r.1).box with
   | none=>rfl
   | some cs=>simp only[Option.bind_some];cases evlS G sl x with
     | none=>rfl
     | some v=>simp only[Option.bind_some];cases v.cells with
       | none=>rfl
       | some new=>
         simp only[Option.bind_some]
         by_cases hk:new.length=k
         ·cases wr cs r.2 new with
          | none=>simp[put4,hk]
          | some cs'=>simp[M.free,M.apply,setBox,put4,hpUpd,hk]
         ·simp[put4,hk]
@[go_sem ↓]theorem y_faddrL (t off a:Nat) (w:W4 _ _ _ _):
 wO Γ G d p (⟨none,some t,.faddrL off (.s a)⟩::l) Q ⟨sl,u,h,n,b⟩ w=
  putA (u t) (refK (sl a).ad (sl a).v a (fun r o=>if(sl r).box.isSome=true/\r≠t then some (r,o+off)else none) ⟨0⟩)
   (fun r o=>wO Γ G d (p+1) l Q ⟨updC sl t ⟨.lb,none,some (r,o)⟩,updC u r true,h,n,b⟩ ⟨0⟩) ⟨0⟩:=by
 rw[putA_eq (w':=⟨0⟩)]
 (try rw[updC_eq (α:=Slot)])
 (try rw[updC_eq (α:=Bool)])
 (try rw[hpC_eq])
 unfold wO
 rw[wpOo_eq]
 rw[r_wpO_cons,stepO_nc rfl,<- refL_eq sl u h n b a]
 simp only[aeval]
 cases refL (M.st ⟨sl,u,h,n,b⟩) (.s a)with
 | none=>rfl
 | some r=>
   simp only[Option.bind_eq_bind,Option.bind_some,M.st]
   cases(sl r.1).box with
   | none=>simp[putV]
   | some cs=>
     simp only[Option.bind_some,Option.isSome_some,true_and]
     by_cases hrt:r.1=t
     ·simp[M.free,putV,hrt]
     ·simp[M.free,M.apply,setBox,putV,hpUpd,hrt]
@[go_sem ↓]theorem y_iaddrAL (t len sz a:Nat) (i:Opd) (w:W4 _ _ _ _):
 wO Γ G d p (⟨none,some t,.iaddrAL len sz (.s a) i⟩::l) Q ⟨sl,u,h,n,b⟩ w=
  putA (u t) (ob (evlS G sl i) (fun v=>ob (intS v) (fun k=>refK (sl a).ad (sl a).v a (fun r o=>if(sl r).box.isSome=true/\r≠t/\0<=k/\k<len then some (r,o+k.toNat*sz)else none) ⟨0⟩) ⟨0⟩) ⟨0⟩)
   (fun r o=>wO Γ G d (p+1) l Q ⟨updC sl t ⟨.lb,none,some (r,o)⟩,updC u r true,h,n,b⟩ ⟨0⟩) ⟨0⟩:=by
 rw[putA_eq (w':=⟨0⟩)]
 (try rw[updC_eq (α:=Slot)])
 (try rw[updC_eq (α:=Bool)])
 (try rw[hpC_eq])
 unfold wO
 rw[wpOo_eq]
 rw[r_wpO_cons,stepO_nc rfl]
 simp only[aeval,ob,evInt_eq]
 cases evlS G sl i with
 | none=>rfl
 | some v=>
   simp only[Option.bind_eq_bind,Option.bind_some]
   cases intS v with
   | none=>rfl
   | some k=>
     simp only[Option.bind_some]
     rw[<- refL_eq sl u h n b a]
     cases refL (M.st ⟨sl,u,h,n,b⟩) (.s a)with
     | none=>rfl
     | some r=>
       simp only[Option.bind_some,M.st]
       cases(sl r.1).box with
       | none=>simp[putV]
       | some cs=>
         simp only[Option.bind_some,Option.isSome_some,true_and]
         by_cases hrt:r.1=t
         ·by_cases hk:0<=k/\k<len
          ·simp[M.free,putV,hrt,hk]
          ·simp[M.free,putV,hrt,hk]
         ·by_cases hk:0<=k/\k<len
          ·simp[M.free,M.apply,setBox,putV,hpUpd,hrt,hk]
          ·have : ¬(r.1≠t/\0<=k/\k<len):=fun h=>hk h.2
           rw[if_neg hk,if_neg this];rfl
end
end Rg
end
