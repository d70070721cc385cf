/- Part of the proof of laws of relyguardtop. No condition. -/
import Derived.Test.YtoidcnbdndioaaaGreatDoorKartAI
import Derived.Stop.Joined
import Derived.ProofKit
import Derived.LaidMore
import Derived.Test.YtoidcnbdndioaaaGreatDoorKartAH
set_option linter.unusedSimpArgs false
set_option linter.unusedVariables false
section
namespace Rg
open Go
structure W3 (c:C) (Q:Ex->M->Prop) (m:M)where
 n:Nat
structure W4 (p:Nat) (l:List ROp) (Q:M->Prop) (m:M)where
 n:Nat
structure WK {α:Type} {β:Sort _} (K:α->β)where
 n:Nat
structure WV {α:Type} (x y:α)where
 n:Nat
def pk {α:Type} (b:Bool) (x y:α) (_:WV x y):α:=match b with
 | true=>x
 | false=>y
@[go_sem]theorem zFr {α:Type} (x y:α) (w:WV x y):pk true x y w=x:=rfl
@[go_sem]theorem zFs {α:Type} (x y:α) (w:WV x y):pk false x y w=y:=rfl
theorem zql {α:Type} (i j:Nat) (x y:α) (w:WV x y):pk (j==i) x y w=if j=i then x else y:=by
 by_cases h:j=i
 ·simp[h,pk]
 ·have:(j==i)=false:=by simpa using h
  rw[this,if_neg h];rfl
noncomputable def updC {α:Type}:(Nat->α)->Nat->α->Nat->α:=(Classical.choice (⟨⟨@upd α,rfl⟩⟩:Nonempty {g:(Nat->α)->Nat->α->Nat->α// g= @upd α})).1
theorem zaL {α:Type}: @updC α= @upd α:=(Classical.choice (⟨⟨@upd α,rfl⟩⟩:Nonempty {g:(Nat->α)->Nat->α->Nat->α// g= @upd α})).2
noncomputable def begC:(Nat->Slot)->Nat->Slot:=(Classical.choice (⟨⟨beg,rfl⟩⟩:Nonempty {g:(Nat->Slot)->Nat->Slot// g=beg})).1
theorem zjL:begC=beg:=(Classical.choice (⟨⟨beg,rfl⟩⟩:Nonempty {g:(Nat->Slot)->Nat->Slot// g=beg})).2
noncomputable def ovrC:List Nat->(Nat->Slot)->(Nat->Slot)->Nat->Slot:=(Classical.choice (⟨⟨ovr,rfl⟩⟩:Nonempty {g:List Nat->(Nat->Slot)->(Nat->Slot)->Nat->Slot// g=ovr})).1
theorem zlr:ovrC=ovr:=(Classical.choice (⟨⟨ovr,rfl⟩⟩:Nonempty {g:List Nat->(Nat->Slot)->(Nat->Slot)->Nat->Slot// g=ovr})).2
def zjJ (k:Nat):List Nat:=(List.range (k.log2+1)).filter fun t=>(k>>> t) % 2==1
theorem zfO (k t:Nat):(zjJ k).contains t=((k>>> t) % 2==1):=by
 by_cases ht:t<k.log2+1
 ·cases h:((k>>> t) % 2==1)with
  | true=>simp only[List.contains_eq_mem,zjJ,List.mem_filter,List.mem_range,ht,h,and_self,decide_true]
  | false=>simp only[List.contains_eq_mem,zjJ,List.mem_filter,List.mem_range,ht,h,zG,and_false,decide_false]
 ·have h0:k>>> t=0:=by
   rw[Nat.shiftRight_eq_div_pow];exact Nat.div_eq_of_lt (Nat.lt_of_lt_of_le Nat.lt_log2_self (Nat.pow_le_pow_right (by omega) (by omega)))
  rw[h0];simp only[List.contains_eq_mem,zjJ,List.mem_filter,List.mem_range,ht,false_and,decide_false];rfl
noncomputable def slotsC:List V->Nat->Nat->Slot:=(Classical.choice (⟨⟨slots,rfl⟩⟩:Nonempty {g:List V->Nat->Nat->Slot// g=slots})).1
theorem ziG:slotsC=slots:=(Classical.choice (⟨⟨slots,rfl⟩⟩:Nonempty {g:List V->Nat->Nat->Slot// g=slots})).2
noncomputable def At:(Nat->Option O)->List (Nat×O)->Nat->Option O:=(Classical.choice (⟨⟨zbf,rfl⟩⟩:Nonempty {g:(Nat->Option O)->List (Nat×O)->Nat->Option O// g=zbf})).1
theorem zek:At=zbf:=(Classical.choice (⟨⟨zbf,rfl⟩⟩:Nonempty {g:(Nat->Option O)->List (Nat×O)->Nat->Option O// g=zbf})).2
noncomputable def addC:Nat->List ROp->Nat:=(Classical.choice (⟨⟨fun n l=>n+l.length,rfl⟩⟩:Nonempty {g:Nat->List ROp->Nat// g=fun n l=>n+l.length})).1
theorem zfQ:addC=fun n l=>n+l.length:=(Classical.choice (⟨⟨fun n l=>n+l.length,rfl⟩⟩:Nonempty {g:Nat->List ROp->Nat// g=fun n l=>n+l.length})).2
theorem zhI (n:Nat) (l:List ROp):n<=addC n l:=by rw[zfQ];exact Nat.le_add_right n _
@[go_sem]theorem zAR (n:Nat) (l:List ROp):addC n l=n+l.length:=by rw[zfQ]
@[go_sem ↓]theorem zCq (f:Nat->Bool) (i j:Nat):updC f i true j=pk (j==i) true (f j) ⟨0⟩:=by rw[zaL,zql];rfl
@[go_sem]theorem zaa {α:Type} (f:Nat->α) (i j:Nat) (v:α):updC f i v j=if j=i then v else f j:=by rw[zaL];rfl
@[go_sem ↓]theorem zaA (h:Nat->Option O):At h []=h:=by rw[zek];rfl
@[go_sem ↓]theorem zaC (h:Nat->Option O) (k:Nat) (o:O) (r:List (Nat×O)):At h ((k,o)::r)=At (updC h k (some o)) r:=by rw[zek,zaL];rfl
def ob {α β:Type} (o:Option α) (K:α->Option β) (_:WK K):Option β:=o.bind K
@[go_sem]theorem zBv {α β:Type} (a:α) (K:α->Option β) (w:WK K):ob (some a) K w=K a:=rfl
def zdr {α:Type} (us:Bool) (o:Option α) (K:α->Prop) (_:WK K):Prop:=match o with
 | none=>False
 | some v=>us=false/\K v
@[go_sem]theorem zym {α:Type} (v:α) (K:α->Prop) (w:WK K):zdr false (some v) K w=K v:=by simp[zdr]
def ziX {α β:Type} (us:Bool) (o:Option (α×β)) (K:α->β->Prop) (_:WK K):Prop:=match o with
 | none=>False
 | some (a,b)=>us=false/\K a b
@[go_sem]theorem zcb {α β:Type} (a:α) (b:β) (K:α->β->Prop) (w:WK K):ziX false (some (a,b)) K w=K a b:=by simp[ziX]
theorem zln {α β:Type} (us:Bool) (o:Option (α×β)) (K:α->β->Prop) (w:WK K) (w':WK fun y:α×β=>K y.1 y.2):ziX us o K w=zdr us o (fun y=>K y.1 y.2) w':=by
 cases o<;>rfl
def zyq {α β γ δ:Type} (o:Option (α×β×γ×δ)) (K:α->β->γ->δ->Prop) (_:WK K):Prop:=match o with
 | none=>False
 | some (a,b,c,d)=>K a b c d
@[go_sem]theorem zyp {α β γ δ:Type} (a:α) (b:β) (c:γ) (d:δ) (K:α->β->γ->δ->Prop) (w:WK K):zyq (some (a,b,c,d)) K w=K a b c d:=rfl
def valOf:V->Option V
 | .undef=>none
 | .lb=>none
 | v=>some v
@[go_sem]theorem zBd (x:T):valOf (.t x)=some (.t x):=rfl
@[go_sem]theorem zzw (k i l:Nat):valOf (.ms k i l)=some (.ms k i l):=rfl
@[go_sem]theorem zzx (k i l:Nat):valOf (.mp k i l)=some (.mp k i l):=rfl
@[go_sem]theorem zzy (k:Nat):valOf (.mm k)=some (.mm k):=rfl
@[go_sem]theorem zzv (k:Nat):valOf (.yl k)=some (.yl k):=rfl
@[go_sem]theorem zzz (f:Nat) (a b:List V):valOf (.fn f a b)=some (.fn f a b):=rfl
@[go_sem]theorem zxK (c:List V):valOf (.agg c)=some (.agg c):=rfl
@[go_sem]theorem zxJ (c:List V):valOf (.tup c)=some (.tup c):=rfl
abbrev tyC:=(Nat->Option F)->(Nat->List T)->C->M->(Ex->M->Prop)->Prop
abbrev tyO:=(Nat->Option F)->(Nat->List T)->Bool->Nat->List ROp->M->(M->Prop)->Prop
noncomputable def wpCo:tyC:=(Classical.choice (⟨⟨@wpC,rfl⟩⟩:Nonempty {g:tyC// g= @wpC})).1
theorem zbS:wpCo= @wpC:=(Classical.choice (⟨⟨@wpC,rfl⟩⟩:Nonempty {g:tyC// g= @wpC})).2
noncomputable def WLo:tyC:=(Classical.choice (⟨⟨@WL,rfl⟩⟩:Nonempty {g:tyC// g= @WL})).1
theorem zfi:WLo= @WL:=(Classical.choice (⟨⟨@WL,rfl⟩⟩:Nonempty {g:tyC// g= @WL})).2
noncomputable def wpOo:tyO:=(Classical.choice (⟨⟨@wpO,rfl⟩⟩:Nonempty {g:tyO// g= @wpO})).1
theorem zaX:wpOo= @wpO:=(Classical.choice (⟨⟨@wpO,rfl⟩⟩:Nonempty {g:tyO// g= @wpO})).2
section
variable (Γ:Nat->Option F) (G:Nat->List T)
noncomputable def wC (c:C) (Q:Ex->M->Prop) (m:M) (_:W3 c Q m):Prop:=wpCo Γ G c m Q
noncomputable def wL (c:C) (Q:Ex->M->Prop) (m:M) (_:W3 c Q m):Prop:=WLo Γ G c m Q
noncomputable def wO (d:Bool) (p:Nat) (l:List ROp) (Q:M->Prop) (m:M) (_:W4 p l Q m):Prop:=wpOo Γ G d p l m Q
def zQ9 (mt:List (Nat×Nat)):V->Option V
 | .ifc k x=>(mt.lookup k).map fun g=> .fn g [x] []
 | _=>none
def zaW (sl:Nat->Slot):Opd->Option V
 | .s t=>valOf (sl t).v
 | .c v=>some v
 | .g k=>some (.t (.ip (G k)))
 | .m mt t=>zQ9 mt (sl t).v
end
section
variable {Γ:Nat->Option F} {G:Nat->List T}
@[go_sem ↓]theorem zCJ (sl:Nat->Slot) (t:Nat):zaW G sl (.s t)=valOf (sl t).v:=rfl
@[go_sem ↓]theorem zCL (sl:Nat->Slot) (v:V):zaW G sl (.c v)=some v:=rfl
@[go_sem ↓]theorem zCK (sl:Nat->Slot) (k:Nat):zaW G sl (.g k)=some (.t (.ip (G k))):=rfl
theorem za2 (sl:Nat->Slot) (u:Nat->Bool) (h:Nat->Option O) (n b:Nat) (x:Opd):evl G (M.st ⟨sl,u,h,n,b⟩) x=zaW G sl x:=by
 cases x with
 | s t=>simp only[evl,M.st,zaW];cases(sl t).v<;>rfl
 | c v=>rfl
 | g k=>rfl
 | m mt t=>simp only[evl,M.st,zaW];cases(sl t).v<;>rfl
@[go_sem ↓]theorem zAS (f:Nat->Slot) (i j:Nat) (v:V) (bx:Option (List V)) (ad:Option (Nat×Nat)):(updC f i ⟨v,bx,ad⟩ j).v=pk (j==i) v (f j).v ⟨0⟩:=by rw[zaL,zql];unfold upd;split<;>rfl
@[go_sem ↓]theorem zxB (f:Nat->Slot) (i j:Nat) (v:V) (bx:Option (List V)) (ad:Option (Nat×Nat)):(updC f i ⟨v,bx,ad⟩ j).box=pk (j==i) bx (f j).box ⟨0⟩:=by rw[zaL,zql];unfold upd;split<;>rfl
@[go_sem ↓]theorem zze (f:Nat->Slot) (i j:Nat) (v:V) (bx:Option (List V)) (ad:Option (Nat×Nat)):(updC f i ⟨v,bx,ad⟩ j).ad=pk (j==i) ad (f j).ad ⟨0⟩:=by rw[zaL,zql];unfold upd;split<;>rfl
@[go_sem ↓]theorem zBc (f:Nat->Slot) (t:Nat):(begC f t).v=(f t).v:=by rw[zjL];rfl
@[go_sem ↓]theorem zxH (f:Nat->Slot) (t:Nat):(begC f t).box=(f t).box:=by rw[zjL];rfl
@[go_sem ↓]theorem zzr (f:Nat->Slot) (t:Nat):(begC f t).ad=none:=by rw[zjL];rfl
noncomputable def ovrM (k:Nat) (f g:Nat->Slot):Nat->Slot:=ovrC (zjJ k) f g
theorem zr0 {α:Type} (b:Bool) (x y:α) (w:WV x y):pk b x y w=if b=true then x else y:=by cases b<;>rfl
@[go_sem ↓]theorem zA0 (k:Nat) (f g:Nat->Slot) (t:Nat):(ovrM k f g t).v=pk ((k>>> t) % 2==1) (f t).v (g t).v ⟨0⟩:=by
 rw[ovrM,zlr,zBu,zfO,zr0]
@[go_sem ↓]theorem zxE (k:Nat) (f g:Nat->Slot) (t:Nat):(ovrM k f g t).box=pk ((k>>> t) % 2==1) (f t).box (g t).box ⟨0⟩:=by
 rw[ovrM,zlr,zwH,zfO,zr0]
@[go_sem ↓]theorem zxC (v:V) (l:List V) (i t:Nat):(slotsC (v::l) i t).v=pk (t==i) v (slotsC l (i+1) t).v ⟨0⟩:=by rw[ziG,zql];simp only[slots,upd];split<;>rfl
inductive Kf where
 | seq (y:C)
 | blk (id:Nat)
variable (Γ G) in
def zqi:List Kf->(Ex->M->Prop)->Ex->M->Prop
 | [],Q=>Q
 | .seq y::ks,Q=>zf8 (fun m'=>wpC Γ G y m' (zqi ks Q)) (zqi ks Q)
 | .blk id::ks,Q=>zjI id (zqi ks Q)
abbrev tyQ:=(Nat->Option F)->(Nat->List T)->List Kf->(Ex->M->Prop)->Ex->M->Prop
noncomputable def qOf:tyQ:=(Classical.choice (⟨⟨@zqi,rfl⟩⟩:Nonempty {g:tyQ// g= @zqi})).1
theorem zcz:qOf= @zqi:=(Classical.choice (⟨⟨@zqi,rfl⟩⟩:Nonempty {g:tyQ// g= @zqi})).2
@[go_sem ↓]theorem zC4 (Q:Ex->M->Prop) (e:Ex) (m:M):qOf Γ G [] Q e m=Q e m:=by(try unfold wC);(try rw[zbS]);rw[zcz];rfl
@[go_sem ↓]theorem zCA (y:C) (ks:List Kf) (Q:Ex->M->Prop) (m:M):qOf Γ G (.seq y::ks) Q .normal m=wC Γ G y (qOf Γ G ks Q) m ⟨0⟩:=by(try unfold wC);(try rw[zbS]);rw[zcz];rfl
@[go_sem ↓]theorem zCz (y:C) (ks:List Kf) (Q:Ex->M->Prop) (m:M):qOf Γ G (.seq y::ks) Q .ret m=qOf Γ G ks Q .ret m:=by(try unfold wC);(try rw[zbS]);rw[zcz];rfl
@[go_sem ↓]theorem zCy (y:C) (ks:List Kf) (Q:Ex->M->Prop) (m:M) (id:Nat):qOf Γ G (.seq y::ks) Q (.exit id) m=qOf Γ G ks Q (.exit id) m:=by(try unfold wC);(try rw[zbS]);rw[zcz];rfl
@[go_sem ↓]theorem zCD (i:Nat) (ks:List Kf) (Q:Ex->M->Prop) (m:M):qOf Γ G (.blk i::ks) Q .normal m=qOf Γ G ks Q .normal m:=by rw[zcz];simp[zqi,zjI]
@[go_sem ↓]theorem zCC (i:Nat) (ks:List Kf) (Q:Ex->M->Prop) (m:M):qOf Γ G (.blk i::ks) Q .ret m=qOf Γ G ks Q .ret m:=by rw[zcz];simp[zqi,zjI]
structure W6 (P R:Prop)where
 n:Nat
def ifX (b:Bool) (P R:Prop) (_:W6 P R):Prop:=match b with
 | true=>P
 | false=>R
@[go_sem]theorem zC7 (P R:Prop) (w:W6 P R):ifX true P R w=P:=rfl
@[go_sem]theorem zC8 (P R:Prop) (w:W6 P R):ifX false P R w=R:=rfl
@[go_sem ↓]theorem zCB (i id:Nat) (ks:List Kf) (Q:Ex->M->Prop) (m:M):qOf Γ G (.blk i::ks) Q (.exit id) m=ifX (id==i) (qOf Γ G ks Q .normal m) (qOf Γ G ks Q (.exit id) m) ⟨0⟩:=by
 rw[zcz]
 by_cases h:id=i
 ·simp[zqi,zjI,h,ifX]
 ·have:(id==i)=false:=by simpa using h
  simp[zqi,zjI,h,this,ifX]
@[go_sem ↓]theorem zB7 (Q:Ex->M->Prop) (m:M) (w:W3 .skip Q m):wC Γ G .skip Q m w=Q .normal m:=by(try unfold wC wO);(try unfold wC);(try unfold wL);(try rw[zbS]);(try rw[zaX]);(try rw[zfi]);(try rw[zcz]);rfl
@[go_sem ↓]theorem zCS (Q:Ex->M->Prop) (m:M) (w:W3 .ret Q m):wC Γ G .ret Q m w=Q .ret m:=by(try unfold wC wO);(try unfold wC);(try unfold wL);(try rw[zbS]);(try rw[zaX]);(try rw[zfi]);(try rw[zcz]);rfl
@[go_sem ↓]theorem zCg (id:Nat) (Q:Ex->M->Prop) (m:M) (w:W3 (.exit id) Q m):wC Γ G (.exit id) Q m w=Q (.exit id) m:=by(try unfold wC wO);(try unfold wC);(try unfold wL);(try rw[zbS]);(try rw[zaX]);(try rw[zfi]);(try rw[zcz]);rfl
@[go_sem ↓]theorem zzh (d:Bool) (l:List ROp) (Q:Ex->M->Prop) (sl:Nat->Slot) (u:Nat->Bool) (h:Nat->Option O) (n b:Nat) (w:W3 (.region d l) Q ⟨sl,u,h,n,b⟩):
 wC Γ G (.region d l) Q ⟨sl,u,h,n,b⟩ w=wO Γ G d 0 l (Q .normal) ⟨begC sl,fun _=>false,h,addC n l,n⟩ ⟨0⟩:=by(try unfold wC wO);(try unfold wC);(try unfold wL);(try rw[zbS]);(try rw[zaX]);(try rw[zfi]);(try rw[zcz]);rw[zjL,zfQ];rfl
@[go_sem ↓]theorem zCR (x y:C) (ks:List Kf) (Q:Ex->M->Prop) (m:M) (w:W3 (.seq x y) (qOf Γ G ks Q) m):wC Γ G (.seq x y) (qOf Γ G ks Q) m w=wC Γ G x (qOf Γ G (.seq y::ks) Q) m ⟨0⟩:=by(try unfold wC wO);(try unfold wC);(try unfold wL);(try rw[zbS]);(try rw[zaX]);(try rw[zfi]);(try rw[zcz]);rfl
@[go_sem ↓]theorem zCj (t:Nat) (x y:C) (Q:Ex->M->Prop) (sl:Nat->Slot) (u:Nat->Bool) (h:Nat->Option O) (n b:Nat) (w:W3 (.cond (.s t) x y) Q ⟨sl,u,h,n,b⟩):
 wC Γ G (.cond (.s t) x y) Q ⟨sl,u,h,n,b⟩ w=zqN (sl t).v (wC Γ G x Q ⟨sl,u,h,n,b⟩ ⟨0⟩) (wC Γ G y Q ⟨sl,u,h,n,b⟩ ⟨0⟩) ⟨0⟩:=by(try unfold wC wO);(try unfold wC);(try unfold wL);(try rw[zbS]);(try rw[zaX]);(try rw[zfi]);(try rw[zcz]);exact zyl sl u h n b t x y Q
@[go_sem ↓]theorem zBb (id:Nat) (x:C) (ks:List Kf) (Q:Ex->M->Prop) (m:M) (w:W3 (.block id x) (qOf Γ G ks Q) m):wC Γ G (.block id x) (qOf Γ G ks Q) m w=wC Γ G x (qOf Γ G (.blk id::ks) Q) m ⟨0⟩:=by(try unfold wC wO);(try unfold wC);(try unfold wL);(try rw[zbS]);(try rw[zaX]);(try rw[zfi]);(try rw[zcz]);rfl
@[go_sem ↓]theorem zCa (x:C) (Q:Ex->M->Prop) (m:M) (w:W3 (.loop x) Q m):wC Γ G (.loop x) Q m w=wL Γ G x Q m ⟨0⟩:=by(try unfold wC wO);(try unfold wC);(try unfold wL);(try rw[zbS]);(try rw[zaX]);(try rw[zfi]);(try rw[zcz]);rfl
@[go_sem ↓]theorem zAV (K:M->Prop) (Q:Ex->M->Prop) (m:M):zf8 K Q .normal m=K m:=rfl
@[go_sem ↓]theorem zAU (K:M->Prop) (Q:Ex->M->Prop) (m:M):zf8 K Q .ret m=Q .ret m:=rfl
@[go_sem ↓]theorem zAT (K:M->Prop) (Q:Ex->M->Prop) (m:M) (id:Nat):zf8 K Q (.exit id) m=Q (.exit id) m:=rfl
theorem zuV {v:V} {g:Bool} {A B B':Prop} {w:Wit A B} {w':Wit A B'} (h:B=B'):zgj v g A B w=zgj v g A B' w':=by
 subst h;rfl
@[go_sem ↓]theorem zCT (d:Bool) (p:Nat) (Q:M->Prop) (m:M) (w:W4 p [] Q m):wO Γ G d p [] Q m w=Q m:=by unfold wO;rw[zaX];rfl
@[go_sem ↓]theorem zA3 (d:Bool) (p g:Nat) (want:Bool) (t:Nat) (op:AOp) (l:List ROp) (Q:M->Prop) (sl:Nat->Slot) (u:Nat->Bool) (h:Nat->Option O) (n b:Nat)
 (w:W4 p (⟨some (g,want),some t,op⟩::l) Q ⟨sl,u,h,n,b⟩):
 wO Γ G d p (⟨some (g,want),some t,op⟩::l) Q ⟨sl,u,h,n,b⟩ w=zgj (sl g).v want (wO Γ G d p (⟨none,some t,op⟩::l) Q ⟨sl,u,h,n,b⟩ ⟨0⟩)
  (zdr (u t) (some V.undef) (fun v=>wO Γ G d (p+1) l Q ⟨updC sl t ⟨v,none,none⟩,u,h,n,b⟩ ⟨0⟩) ⟨0⟩) ⟨0⟩:=by
 (try rw[zaL (α:=Slot)])
 (try rw[zaL (α:=Bool)])
 (try rw[zek])
 unfold wO;rw[zaX];rw[znU,zbs];refine zuV ?_;simp[M.free,M.apply,zcy,zdr,zbf]
def AOp.isCall:AOp->Bool
 | .call _ _ _=>true
 | .fcall _ _=>true
 | _=>false
theorem zec {d:Bool} {p:Nat} {m:M} {dst:Option Nat} {op:AOp} {K:M->Prop} (hc:op.isCall=false):
 ziE Γ G d p m dst op K=match zaj G p m.st op with | none=>False | some e=>m.free dst e=true/\K (m.apply dst e):=by
 cases op<;>first | rfl | simp[AOp.isCall]at hc
theorem zbW {d:Bool} {p t:Nat} {op:AOp} {l:List ROp} {Q:M->Prop} {sl:Nat->Slot} {u:Nat->Bool} {h:Nat->Option O} {n b:Nat} {w:W4 p (⟨none,some t,op⟩::l) Q ⟨sl,u,h,n,b⟩} {ov:Option V}
 (hc:op.isCall=false) (ha:zaj G p (M.st ⟨sl,u,h,n,b⟩) op=ov.map fun v=>({ val:=v }:Eff)):
 wO Γ G d p (⟨none,some t,op⟩::l) Q ⟨sl,u,h,n,b⟩ w=zdr (u t) ov (fun v=>wO Γ G d (p+1) l Q ⟨updC sl t ⟨v,none,none⟩,u,h,n,b⟩ ⟨0⟩) ⟨0⟩:=by
 (try rw[zaL (α:=Slot)])
 (try rw[zaL (α:=Bool)])
 (try rw[zek])
 unfold wO;rw[zaX];rw[zbs,zec hc,ha]
 cases ov with
 | none=>rfl
 | some v=>simp[M.free,M.apply,zcy,zdr,zbf]
theorem zma {d:Bool} {p t:Nat} {op:AOp} {l:List ROp} {Q:M->Prop} {sl:Nat->Slot} {u:Nat->Bool} {h:Nat->Option O} {n b:Nat} {w:W4 p (⟨none,some t,op⟩::l) Q ⟨sl,u,h,n,b⟩} {ov:Option (V×List (Nat×O))}
 (hc:op.isCall=false) (ha:zaj G p (M.st ⟨sl,u,h,n,b⟩) op=ov.map fun v=>({ val:=v.1,hp:=v.2 }:Eff)):
 wO Γ G d p (⟨none,some t,op⟩::l) Q ⟨sl,u,h,n,b⟩ w=ziX (u t) ov (fun v hp=>wO Γ G d (p+1) l Q ⟨updC sl t ⟨v,none,none⟩,u,At h hp,n,b⟩ ⟨0⟩) ⟨0⟩:=by
 rw[zln (w':=⟨0⟩)]
 (try rw[zaL (α:=Slot)])
 (try rw[zaL (α:=Bool)])
 (try rw[zek])
 unfold wO;rw[zaX];rw[zbs,zec hc,ha]
 cases ov with
 | none=>rfl
 | some v=>simp[M.free,M.apply,zcy,zdr]
theorem zrd {d:Bool} {p:Nat} {op:AOp} {l:List ROp} {Q:M->Prop} {sl:Nat->Slot} {u:Nat->Bool} {h:Nat->Option O} {n b:Nat} {w:W4 p (⟨none,none,op⟩::l) Q ⟨sl,u,h,n,b⟩} {ov:Option (V×List (Nat×O))}
 (hc:op.isCall=false) (ha:zaj G p (M.st ⟨sl,u,h,n,b⟩) op=ov.map fun v=>({ val:=v.1,hp:=v.2 }:Eff)):
 wO Γ G d p (⟨none,none,op⟩::l) Q ⟨sl,u,h,n,b⟩ w=ziX false ov (fun _ hp=>wO Γ G d (p+1) l Q ⟨sl,u,At h hp,n,b⟩ ⟨0⟩) ⟨0⟩:=by
 rw[zln (w':=⟨0⟩)]
 (try rw[zaL (α:=Slot)])
 (try rw[zaL (α:=Bool)])
 (try rw[zek])
 unfold wO;rw[zaX];rw[zbs,zec hc,ha]
 cases ov with
 | none=>rfl
 | some v=>simp[M.free,M.apply,zcy,zdr]
def zBU (op:BinOp):V->V->Option V
 | .t a,.t b=>(zvs op a b).map V.t
 | _,_=>none
def mxS (mn:Bool):V->V->Option V
 | .t a,.t b=>(mxT mn a b).map V.t
 | _,_=>none
def unS (op:UnOp):V->Option V
 | .t a=>(unT op a).map V.t
 | _=>none
def zlT:V->Option Bool
 | .t (.bool b)=>some b
 | _=>none
def zji:V->Option Int
 | .t (.int _ n)=>some n
 | _=>none
def zBN (neg:Bool) (ks:List Nat):V->V->Option V
 | .agg a,.agg b=>(zbh ks a b).map fun r=> .t (.bool (r != neg))
 | _,_=>none
def zuA (h:Nat->Option O) (ag:Bool) (n:Nat):V->Option V
 | .mp k i off=>match h k with
   | some (.rows _ rs _)=>(rs[i]?).bind fun row=>(rd row off n).bind (zb9 ag)
   | _=>none
 | .t (.ip cs)=>(rd cs 0 n).bind fun r=>zb9 ag (r.map V.t)
 | _=>none
def zBw (h:Nat->Option O):V->Option V
 | .mp k i off=>match h k with
   | some (.rows _ _ _)=>some (.mp k i off)
   | _=>none
 | .t (.ip cs)=>some (.t (.ip cs))
 | .fn f a b=>some (.fn f a b)
 | .t (.fn f a b)=>some (.t (.fn f a b))
 | .t (.fa f c)=>some (.t (.fa f c))
 | _=>none
def zsM (h:Nat->Option O) (off:Nat):V->Option V
 | .mp k i o=>match h k with
   | some (.rows _ _ _)=>some (.mp k i (o+off))
   | _=>none
 | .t (.ip cs)=>some (.t (.ip (cs.drop off)))
 | _=>none
def zsI (ag:Bool) (off n:Nat):V->Option V
 | .agg cs=>(rd cs off n).bind (zb9 ag)
 | _=>none
def zlx (h:Nat->Option O) (sz:Nat) (n:Int):V->Option V
 | .t (.sl es)=>if 0<=n then(es[n.toNat]?).bind fun row=>if row.length=sz then some (.t (.ip row))else none else none
 | .t (.slc es)=>if 0<=n then(es[n.toNat]?).bind fun row=>if row.length=sz then some (.t (.ip row))else none else none
 | .ms k j len=>match h k with
   | some (.rows sz' _ _)=>if 0<=n/\n<len/\sz'=sz then some (.mp k (j+n.toNat) 0)else none
   | _=>none
 | _=>none
def zoe (h:Nat->Option O) (len sz:Nat) (n:Int) (v:V):Option V:=
 if 0<=n/\n<len then match v with
  | .mp k j o=>match h k with
    | some (.rows _ _ _)=>some (.mp k j (o+n.toNat*sz))
    | _=>none
  | .t (.ip cs)=>some (.t (.ip (cs.drop (n.toNat*sz))))
  | _=>none
 else none
def zwX (ag:Bool) (len sz:Nat) (n:Int):V->Option V
 | .agg cs=>if 0<=n/\n<len then(rd cs (n.toNat*sz) sz).bind (zb9 ag)else none
 | _=>none
def zwV (n:Int):V->Option V
 | .t (.str b)=>if 0<=n then(b[n.toNat]?).map fun c=> .t (.int .u8 c.toNat)else none
 | _=>none
def zw3 (i:Nat):V->Option V
 | .tup cs=>cs[i]?
 | _=>none
def lenS (h:Nat->Option O):V->Option Nat
 | .t .nils=>some 0
 | .t (.sl es)=>some es.length
 | .t (.slc es)=>some es.length
 | .ms k _ len=>match h k with
   | some (.rows _ _ _)=>some len
   | _=>none
 | _=>none
def zxT:V->Option V
 | .t (.str b)=>some (.t (.int .i64 b.size))
 | _=>none
def rowsS (h:Nat->Option O):V->Option (List (List V))
 | .t .nils=>some []
 | .t (.sl es)=>some (es.map (·.map V.t))
 | .t (.slc es)=>some (es.map (·.map V.t))
 | .ms k i len=>match h k with
   | some (.rows _ rs _)=>rd rs i len
   | _=>none
 | _=>none
attribute [go_sem] zBU mxS unS zlT zji zBN zuA zBw zsM zsI zlx zoe zwX zwV zw3 zxT
@[go_sem]theorem zyE (h:Nat->Option O):lenS h (.t .nils)=some 0:=rfl
@[go_sem]theorem zBC (h:Nat->Option O) (es:List (List T)):lenS h (.t (.sl es))=some es.length:=rfl
@[go_sem]theorem zBD (h:Nat->Option O) (k i len:Nat):lenS h (.ms k i len)=match h k with
 | some (.rows _ _ _)=>some len
 | _=>none:=rfl
@[go_sem]theorem zxs (h:Nat->Option O):rowsS h (.t .nils)=some []:=rfl
@[go_sem]theorem zzC (h:Nat->Option O) (es:List (List T)):rowsS h (.t (.sl es))=some (es.map (·.map V.t)):=rfl
@[go_sem]theorem zzD (h:Nat->Option O) (k i len:Nat):rowsS h (.ms k i len)=match h k with
 | some (.rows _ rs _)=>rd rs i len
 | _=>none:=rfl
variable (G) in
def zdE (sl:Nat->Slot):List Opd->Option (List V)
 | []=>some []
 | x::xs=>ob (zaW G sl x) (fun v=>ob (zdE sl xs) (fun vs=>some (v::vs)) ⟨0⟩) ⟨0⟩
@[go_sem ↓]theorem zyS (sl:Nat->Slot):zdE G sl []=some []:=rfl
@[go_sem ↓]theorem zqJ (sl:Nat->Slot) (x:Opd) (xs:List Opd):zdE G sl (x::xs)=ob (zaW G sl x) (fun v=>ob (zdE G sl xs) (fun vs=>some (v::vs)) ⟨0⟩) ⟨0⟩:=rfl
theorem zgD (sl:Nat->Slot) (u:Nat->Bool) (h:Nat->Option O) (n b:Nat): ∀xs:List Opd,zgE G (M.st ⟨sl,u,h,n,b⟩) xs=zdE G sl xs
 | []=>rfl
 | x::xs=>by
   rw[zgE,zqJ,za2,zgD sl u h n b xs];rfl
theorem zds (sl:Nat->Slot) (u:Nat->Bool) (h:Nat->Option O) (n b:Nat) (x:Opd):zex G (M.st ⟨sl,u,h,n,b⟩) x=(zaW G sl x).bind zji:=by
 rw[zex,za2]
 cases zaW G sl x with
 | none=>rfl
 | some v=>cases v with
   | t x=>cases x<;>rfl
   | _=>rfl
theorem zm9 (sl:Nat->Slot) (u:Nat->Bool) (h:Nat->Option O) (n b:Nat) (x:Opd):zd5 G (M.st ⟨sl,u,h,n,b⟩) x=(zaW G sl x).bind zlT:=by
 rw[zd5,za2]
 cases zaW G sl x with
 | none=>rfl
 | some v=>cases v with
   | t x=>cases x<;>rfl
   | _=>rfl
variable (d:Bool) (p:Nat) (l:List ROp) (Q:M->Prop) (sl:Nat->Slot) (u:Nat->Bool) (h:Nat->Option O) (n b:Nat)
@[go_sem ↓]theorem zFm (t:Nat) (x:Opd) (w:W4 _ _ _ _):
 wO Γ G d p (⟨none,some t,.mv x⟩::l) Q ⟨sl,u,h,n,b⟩ w=zdr (u t) (zaW G sl x) (fun v=>wO Γ G d (p+1) l Q ⟨updC sl t ⟨v,none,none⟩,u,h,n,b⟩ ⟨0⟩) ⟨0⟩:=by
 refine zbW rfl ?_;simp only[zaj,za2];cases zaW G sl x<;>rfl
@[go_sem ↓]theorem zzj (t:Nat) (x:Opd) (w:W4 _ _ _ _):
 wO Γ G d p (⟨none,some t,.nilchk x⟩::l) Q ⟨sl,u,h,n,b⟩ w=zdr (u t) (ob (zaW G sl x) (zBw h) ⟨0⟩) (fun v=>wO Γ G d (p+1) l Q ⟨updC sl t ⟨v,none,none⟩,u,h,n,b⟩ ⟨0⟩) ⟨0⟩:=by
 refine zbW rfl ?_;simp only[zaj,za2,ob]
 cases zaW G sl x with
 | none=>rfl
 | some v=>cases v with
   | mp k i off=>simp only[zC,zD,zBw,M.st];cases h k with
     | none=>rfl
     | some o=>cases o<;>rfl
   | t x=>cases x<;>rfl
   | _=>rfl
@[go_sem ↓]theorem zCZ (t:Nat) (op:BinOp) (x y:Opd) (w:W4 _ _ _ _):
 wO Γ G d p (⟨none,some t,.bin op x y⟩::l) Q ⟨sl,u,h,n,b⟩ w=zdr (u t) (ob (zaW G sl x) (fun a=>ob (zaW G sl y) (zBU op a) ⟨0⟩) ⟨0⟩) (fun v=>wO Γ G d (p+1) l Q ⟨updC sl t ⟨v,none,none⟩,u,h,n,b⟩ ⟨0⟩) ⟨0⟩:=by
 refine zbW rfl ?_;simp only[zaj,za2,ob]
 cases zaW G sl x with
 | none=>rfl
 | some v=>cases zaW G sl y with
   | none=>rfl
   | some v'=>cases v<;>cases v'<;>simp only[zC,zD,zBU,Option.map_none]
              rename_i a c;cases zvs op a c<;>rfl
@[go_sem ↓]theorem zFl (t:Nat) (mn:Bool) (x y:Opd) (w:W4 _ _ _ _):
 wO Γ G d p (⟨none,some t,.mx mn x y⟩::l) Q ⟨sl,u,h,n,b⟩ w=zdr (u t) (ob (zaW G sl x) (fun a=>ob (zaW G sl y) (mxS mn a) ⟨0⟩) ⟨0⟩) (fun v=>wO Γ G d (p+1) l Q ⟨updC sl t ⟨v,none,none⟩,u,h,n,b⟩ ⟨0⟩) ⟨0⟩:=by
 refine zbW rfl ?_;simp only[zaj,za2,ob]
 cases zaW G sl x with
 | none=>rfl
 | some v=>cases zaW G sl y with
   | none=>rfl
   | some v'=>cases v<;>cases v'<;>simp only[zC,zD,mxS,Option.map_none]
              rename_i a c;cases mxT mn a c<;>rfl
@[go_sem ↓]theorem zFk (t:Nat) (op:UnOp) (x:Opd) (w:W4 _ _ _ _):
 wO Γ G d p (⟨none,some t,.un op x⟩::l) Q ⟨sl,u,h,n,b⟩ w=zdr (u t) (ob (zaW G sl x) (unS op) ⟨0⟩) (fun v=>wO Γ G d (p+1) l Q ⟨updC sl t ⟨v,none,none⟩,u,h,n,b⟩ ⟨0⟩) ⟨0⟩:=by
 refine zbW rfl ?_;simp only[zaj,za2,ob]
 cases zaW G sl x with
 | none=>rfl
 | some v=>cases v<;>simp only[zC,zD,unS,Option.map_none]
           rename_i a;cases unT op a<;>rfl
@[go_sem ↓]theorem zCi (t:Nat) (k:IntKind) (x:Opd) (w:W4 _ _ _ _):
 wO Γ G d p (⟨none,some t,.conv k x⟩::l) Q ⟨sl,u,h,n,b⟩ w=zdr (u t) (ob (zaW G sl x) (fun v=>ob (zji v) (fun n=>some (.t (.int k (k.wrap n)))) ⟨0⟩) ⟨0⟩) (fun v=>wO Γ G d (p+1) l Q ⟨updC sl t ⟨v,none,none⟩,u,h,n,b⟩ ⟨0⟩) ⟨0⟩:=by
 refine zbW rfl ?_;simp only[zaj,zds,ob]
 cases zaW G sl x with
 | none=>rfl
 | some v=>simp only[zC,zD];cases zji v<;>rfl
@[go_sem ↓]theorem zCb (t:Nat) (ag:Bool) (k:Nat) (x:Opd) (w:W4 _ _ _ _):
 wO Γ G d p (⟨none,some t,.load ag k x⟩::l) Q ⟨sl,u,h,n,b⟩ w=zdr (u t) (ob (zaW G sl x) (zuA h ag k) ⟨0⟩) (fun v=>wO Γ G d (p+1) l Q ⟨updC sl t ⟨v,none,none⟩,u,h,n,b⟩ ⟨0⟩) ⟨0⟩:=by
 refine zbW rfl ?_;simp only[zaj,za2,ob]
 cases zaW G sl x with
 | none=>rfl
 | some v=>cases v with
   | mp j i off=>simp only[zC,zD,zuA,M.st];cases h j with
     | none=>rfl
     | some o=>cases o with
       | rows s rs z=>
         simp only
         cases rs[i]? with
         | none=>rfl
         | some row=>simp only[zD];cases rd row off k with
           | none=>rfl
           | some r=>simp only[zD];cases zb9 ag r<;>rfl
       | _=>rfl
   | t x=>cases x with
     | ip cs=>simp only[zC,zD,zuA];cases rd cs 0 k with
       | none=>rfl
       | some r=>simp only[zD];cases zb9 ag (r.map V.t)<;>rfl
     | _=>rfl
   | _=>rfl
@[go_sem ↓]theorem zA8 (t:Nat) (off:Nat) (x:Opd) (w:W4 _ _ _ _):
 wO Γ G d p (⟨none,some t,.faddr off x⟩::l) Q ⟨sl,u,h,n,b⟩ w=zdr (u t) (ob (zaW G sl x) (zsM h off) ⟨0⟩) (fun v=>wO Γ G d (p+1) l Q ⟨updC sl t ⟨v,none,none⟩,u,h,n,b⟩ ⟨0⟩) ⟨0⟩:=by
 refine zbW rfl ?_;simp only[zaj,za2,ob]
 cases zaW G sl x with
 | none=>rfl
 | some v=>cases v with
   | mp k i o=>simp only[zC,zD,zsM,M.st];cases h k with
     | none=>rfl
     | some o=>cases o<;>rfl
   | t x=>cases x<;>rfl
   | _=>rfl
@[go_sem ↓]theorem zA6 (t:Nat) (ag:Bool) (off k:Nat) (x:Opd) (w:W4 _ _ _ _):
 wO Γ G d p (⟨none,some t,.field ag off k x⟩::l) Q ⟨sl,u,h,n,b⟩ w=zdr (u t) (ob (zaW G sl x) (zsI ag off k) ⟨0⟩) (fun v=>wO Γ G d (p+1) l Q ⟨updC sl t ⟨v,none,none⟩,u,h,n,b⟩ ⟨0⟩) ⟨0⟩:=by
 refine zbW rfl ?_;simp only[zaj,za2,ob]
 cases zaW G sl x with
 | none=>rfl
 | some v=>cases v with
   | agg cs=>simp only[zC,zD,zsI];cases rd cs off k with
     | none=>rfl
     | some r=>simp only[zD];cases zb9 ag r<;>rfl
   | _=>rfl
@[go_sem ↓]theorem zzm (t:Nat) (sz:Nat) (x i:Opd) (w:W4 _ _ _ _):
 wO Γ G d p (⟨none,some t,.iaddrS sz x i⟩::l) Q ⟨sl,u,h,n,b⟩ w=zdr (u t) (ob (zaW G sl i) (fun v=>ob (zji v) (fun k=>ob (zaW G sl x) (zlx h sz k) ⟨0⟩) ⟨0⟩) ⟨0⟩) (fun v=>wO Γ G d (p+1) l Q ⟨updC sl t ⟨v,none,none⟩,u,h,n,b⟩ ⟨0⟩) ⟨0⟩:=by
 refine zbW rfl ?_;simp only[zaj,za2,zds,ob]
 cases zaW G sl i with
 | none=>rfl
 | some v=>simp only[zC,zD];cases zji v with
   | none=>rfl
   | some k=>cases zaW G sl x with
     | none=>rfl
     | some v=>cases v with
       | ms q j len=>simp only[zD,zlx,M.st];cases h q with
         | none=>rfl
         | some o=>cases o with
           | rows s rs z=>simp only;split<;>rfl
           | _=>rfl
       | t x=>cases x with
         | sl es=>
           simp only[zD,zlx];split
           ·cases es[k.toNat]? with
            | none=>rfl
            | some row=>simp only[zD];split<;>rfl
           ·rfl
         | slc es=>
           simp only[zD,zlx];split
           ·cases es[k.toNat]? with
            | none=>rfl
            | some row=>simp only[zD];split<;>rfl
           ·rfl
         | _=>rfl
       | _=>rfl
@[go_sem ↓]theorem zzn (t:Nat) (len sz:Nat) (x i:Opd) (w:W4 _ _ _ _):
 wO Γ G d p (⟨none,some t,.iaddrA len sz x i⟩::l) Q ⟨sl,u,h,n,b⟩ w=zdr (u t) (ob (zaW G sl i) (fun v=>ob (zji v) (fun k=>ob (zaW G sl x) (zoe h len sz k) ⟨0⟩) ⟨0⟩) ⟨0⟩) (fun v=>wO Γ G d (p+1) l Q ⟨updC sl t ⟨v,none,none⟩,u,h,n,b⟩ ⟨0⟩) ⟨0⟩:=by
 refine zbW rfl ?_;simp only[zaj,za2,zds,ob]
 cases zaW G sl i with
 | none=>rfl
 | some v=>simp only[zC,zD];cases zji v with
   | none=>rfl
   | some k=>cases zaW G sl x with
     | none=>simp
     | some v=>simp only[zD,zoe];split
               ·cases v with
                | mp q j o=>simp only[M.st];cases h q with
                  | none=>rfl
                  | some o=>cases o<;>rfl
                | t x=>cases x<;>rfl
                | _=>rfl
               ·rfl
@[go_sem ↓]theorem zCd (t:Nat) (ag:Bool) (len sz:Nat) (x i:Opd) (w:W4 _ _ _ _):
 wO Γ G d p (⟨none,some t,.idxA ag len sz x i⟩::l) Q ⟨sl,u,h,n,b⟩ w=zdr (u t) (ob (zaW G sl i) (fun v=>ob (zji v) (fun k=>ob (zaW G sl x) (zwX ag len sz k) ⟨0⟩) ⟨0⟩) ⟨0⟩) (fun v=>wO Γ G d (p+1) l Q ⟨updC sl t ⟨v,none,none⟩,u,h,n,b⟩ ⟨0⟩) ⟨0⟩:=by
 refine zbW rfl ?_;simp only[zaj,za2,zds,ob]
 cases zaW G sl i with
 | none=>rfl
 | some v=>simp only[zC,zD];cases zji v with
   | none=>rfl
   | some k=>cases zaW G sl x with
     | none=>rfl
     | some v=>cases v with
       | agg cs=>
         simp only[zD,zwX];split
         ·cases rd cs (k.toNat*sz) sz with
          | none=>rfl
          | some r=>simp only[zD];cases zb9 ag r<;>rfl
         ·rfl
       | _=>rfl
@[go_sem ↓]theorem zCc (t:Nat) (x i:Opd) (w:W4 _ _ _ _):
 wO Γ G d p (⟨none,some t,.idxS x i⟩::l) Q ⟨sl,u,h,n,b⟩ w=zdr (u t) (ob (zaW G sl i) (fun v=>ob (zji v) (fun k=>ob (zaW G sl x) (zwV k) ⟨0⟩) ⟨0⟩) ⟨0⟩) (fun v=>wO Γ G d (p+1) l Q ⟨updC sl t ⟨v,none,none⟩,u,h,n,b⟩ ⟨0⟩) ⟨0⟩:=by
 refine zbW rfl ?_;simp only[zaj,za2,zds,ob]
 cases zaW G sl i with
 | none=>rfl
 | some v=>simp only[zC,zD];cases zji v with
   | none=>rfl
   | some k=>cases zaW G sl x with
     | none=>rfl
     | some v=>cases v with
       | t x=>cases x with
         | str s=>
           simp only[zD,zwV];split
           ·cases s[k.toNat]? <;>rfl
           ·rfl
         | _=>rfl
       | _=>rfl
@[go_sem ↓]theorem zCf (t:Nat) (x:Opd) (i:Nat) (w:W4 _ _ _ _):
 wO Γ G d p (⟨none,some t,.extr x i⟩::l) Q ⟨sl,u,h,n,b⟩ w=zdr (u t) (ob (zaW G sl x) (zw3 i) ⟨0⟩) (fun v=>wO Γ G d (p+1) l Q ⟨updC sl t ⟨v,none,none⟩,u,h,n,b⟩ ⟨0⟩) ⟨0⟩:=by
 refine zbW rfl ?_;simp only[zaj,za2,ob]
 cases zaW G sl x with
 | none=>rfl
 | some v=>cases v with
   | tup cs=>simp only[zC,zD,zw3];cases cs[i]? <;>rfl
   | _=>rfl
theorem zlw (sl:Nat->Slot) (u:Nat->Bool) (h:Nat->Option O) (n b:Nat) (v:V):lenOf (M.st ⟨sl,u,h,n,b⟩) v=lenS h v:=by
 cases v with
 | t x=>cases x<;>rfl
 | ms k i len=>simp only[lenOf,lenS,M.st];cases h k with
   | none=>rfl
   | some o=>cases o<;>rfl
 | _=>rfl
theorem ziP (sl:Nat->Slot) (u:Nat->Bool) (h:Nat->Option O) (n b:Nat) (v:V):zdw (M.st ⟨sl,u,h,n,b⟩) v=rowsS h v:=by
 cases v with
 | t x=>cases x<;>rfl
 | ms k i len=>simp only[zdw,rowsS,M.st];cases h k with
   | none=>rfl
   | some o=>cases o<;>rfl
 | _=>rfl
@[go_sem ↓]theorem zCU (t:Nat) (x:Opd) (w:W4 _ _ _ _):
 wO Γ G d p (⟨none,some t,.len x⟩::l) Q ⟨sl,u,h,n,b⟩ w=zdr (u t) (ob (zaW G sl x) (fun v=>ob (lenS h v) (fun k=>some (.t (.int .i64 k))) ⟨0⟩) ⟨0⟩) (fun v=>wO Γ G d (p+1) l Q ⟨updC sl t ⟨v,none,none⟩,u,h,n,b⟩ ⟨0⟩) ⟨0⟩:=by
 refine zbW rfl ?_;simp only[zaj,za2,ob,zlw]
 cases zaW G sl x with
 | none=>rfl
 | some v=>simp only[zC,zD];cases lenS h v<;>rfl
@[go_sem ↓]theorem zB6 (t:Nat) (x:Opd) (w:W4 _ _ _ _):
 wO Γ G d p (⟨none,some t,.slen x⟩::l) Q ⟨sl,u,h,n,b⟩ w=zdr (u t) (ob (zaW G sl x) zxT ⟨0⟩) (fun v=>wO Γ G d (p+1) l Q ⟨updC sl t ⟨v,none,none⟩,u,h,n,b⟩ ⟨0⟩) ⟨0⟩:=by
 refine zbW rfl ?_;simp only[zaj,za2,ob]
 cases zaW G sl x with
 | none=>rfl
 | some v=>cases v with
   | t x=>cases x<;>rfl
   | _=>rfl
def zCO (v:V):Option V:=match v with
 | .t .nils=>some (.t (.int .i64 0))
 | _=>none
@[go_sem]theorem zCN:zCO (.t .nils)=some (.t (.int .i64 0)):=rfl
@[go_sem ↓]theorem zCk (t:Nat) (x:Opd) (w:W4 _ _ _ _):
 wO Γ G d p (⟨none,some t,.capN x⟩::l) Q ⟨sl,u,h,n,b⟩ w=zdr (u t) (ob (zaW G sl x) zCO ⟨0⟩) (fun v=>wO Γ G d (p+1) l Q ⟨updC sl t ⟨v,none,none⟩,u,h,n,b⟩ ⟨0⟩) ⟨0⟩:=by
 refine zbW rfl ?_;simp only[zaj,za2,ob]
 cases zaW G sl x with
 | none=>rfl
 | some v=>cases v with
   | t x=>cases x<;>rfl
   | _=>rfl
def zxc (o:Option V) (A B:Prop) (w:Wit A B):Prop:=match o with
 | some v=>zqN v A B w
 | none=>False
@[go_sem]theorem zBS (b:Bool) (A B:Prop) (w:Wit A B):zxc (some (.t (.bool b))) A B w=zfJ b A B w:=rfl
@[go_sem ↓]theorem zB8 (t:Nat) (c x y:Opd) (w:W4 _ _ _ _):
 wO Γ G d p (⟨none,some t,.pick c x y⟩::l) Q ⟨sl,u,h,n,b⟩ w=zxc (zaW G sl c)
  (zdr (u t) (zaW G sl x) (fun v=>wO Γ G d (p+1) l Q ⟨updC sl t ⟨v,none,none⟩,u,h,n,b⟩ ⟨0⟩) ⟨0⟩)
  (zdr (u t) (zaW G sl y) (fun v=>wO Γ G d (p+1) l Q ⟨updC sl t ⟨v,none,none⟩,u,h,n,b⟩ ⟨0⟩) ⟨0⟩) ⟨0⟩:=by
 rw[zbW (ov:=((zaW G sl c).bind zlT).bind fun t=>zaW G sl (if t then x else y)) rfl (by
  simp only[zaj,za2,zm9]
  cases(zaW G sl c).bind zlT with
  | none=>rfl
  | some v=>simp only[zC,zD];cases zaW G sl (if v=true then x else y)<;>rfl)]
 cases zaW G sl c with
 | none=>rfl
 | some v=>cases v with
   | t z=>cases z with
     | bool z=>cases z<;>simp[zxc,zqN,zfJ,zlT]
     | _=>rfl
   | _=>rfl
@[go_sem ↓]theorem zzt (t:Nat) (cs:List V) (w:W4 _ _ _ _):
 wO Γ G d p (⟨none,some t,.allocL cs⟩::l) Q ⟨sl,u,h,n,b⟩ w=zdr (u t) (some cs) (fun cs=>wO Γ G d (p+1) l Q ⟨updC sl t ⟨.lb,some cs,none⟩,u,h,n,b⟩ ⟨0⟩) ⟨0⟩:=by
 (try rw[zaL (α:=Slot)])
 (try rw[zaL (α:=Bool)])
 (try rw[zek])
 unfold wO;rw[zaX];rw[zbs,zec rfl];simp[zaj,M.free,M.apply,zcy,zdr,zbf]
@[go_sem ↓]theorem zCn (t k:Nat) (x:Opd) (w:W4 _ _ _ _):
 wO Γ G d p (⟨none,some t,.boxL k x⟩::l) Q ⟨sl,u,h,n,b⟩ w=zdr (u t) (ob (zaW G sl x) (fun v=>ob v.cells (fun cs=>if cs.length=k then some cs else none) ⟨0⟩) ⟨0⟩)
  (fun cs=>wO Γ G d (p+1) l Q ⟨updC sl t ⟨.lb,some cs,none⟩,u,h,n,b⟩ ⟨0⟩) ⟨0⟩:=by
 (try rw[zaL (α:=Slot)])
 (try rw[zaL (α:=Bool)])
 (try rw[zek])
 unfold wO;rw[zaX];rw[zbs,zec rfl];simp only[zaj,za2,ob]
 cases zaW G sl x with
 | none=>rfl
 | some v=>
   simp only[zC,zD]
   cases v.cells with
   | none=>rfl
   | some cs=>
     simp only[zD]
     by_cases hk:cs.length=k
     ·simp[M.free,M.apply,zcy,zdr,zbf,hk]
     ·simp[zdr,hk]
def zvI {β:Type} (ad:Option (Nat×Nat)) (v:V) (t:Nat) (K:Nat->Nat->Option β) (_:WK K):Option β:=match ad with
 | some r=>K r.1 r.2
 | none=>match v with
   | .lb=>K t 0
   | _=>none
@[go_sem]theorem zyh {β:Type} (a o:Nat) (v:V) (t:Nat) (K:Nat->Nat->Option β) (w:WK K):zvI (some (a,o)) v t K w=K a o:=rfl
@[go_sem]theorem zBq {β:Type} (t:Nat) (K:Nat->Nat->Option β) (w:WK K):zvI none .lb t K w=K t 0:=rfl
theorem zlj (sl:Nat->Slot) (u:Nat->Bool) (h:Nat->Option O) (n b t:Nat) {β:Type} (K:Nat->Nat->Option β) (w:WK K):
 ((zd8 (M.st ⟨sl,u,h,n,b⟩) (.s t)).bind fun r=>K r.1 r.2)=zvI (sl t).ad (sl t).v t K w:=by
 simp only[zd8,M.st,zvI]
 cases(sl t).ad with
 | some r=>rfl
 | none=>cases(sl t).v<;>rfl
@[go_sem ↓]theorem zA2 (t:Nat) (ag:Bool) (k a:Nat) (w:W4 _ _ _ _):
 wO Γ G d p (⟨none,some t,.loadL ag k (.s a)⟩::l) Q ⟨sl,u,h,n,b⟩ w=zdr (u t) (zvI (sl a).ad (sl a).v a (fun r off=>ob (sl r).box (fun cs=>ob (rd cs off k) (zb9 ag) ⟨0⟩) ⟨0⟩) ⟨0⟩) (fun v=>wO Γ G d (p+1) l Q ⟨updC sl t ⟨v,none,none⟩,u,h,n,b⟩ ⟨0⟩) ⟨0⟩:=by
 refine zbW rfl ?_;rw[<- zlj sl u h n b a];simp only[zaj,ob]
 cases zd8 (M.st ⟨sl,u,h,n,b⟩) (.s a)with
 | none=>rfl
 | some r=>
   simp only[zC,zD,M.st]
   cases(sl r.1).box with
   | none=>rfl
   | some cs=>simp only[zD];cases rd cs r.2 k with
     | none=>rfl
     | some x=>simp only[zD];cases zb9 ag x<;>rfl
@[go_sem ↓]theorem zzf (k a:Nat) (x:Opd) (w:W4 _ _ _ _):
 wO Γ G d p (⟨none,none,.storeL k (.s a) x⟩::l) Q ⟨sl,u,h,n,b⟩ w=
  zyq (zvI (sl a).ad (sl a).v a (fun r off=>ob (sl r).box (fun cs=>ob (zaW G sl x) (fun v=>ob v.cells (fun new=>if new.length=k then ob (wr cs off new) (fun cs'=>some (r,(sl r).v,cs',(sl r).ad)) ⟨0⟩else none) ⟨0⟩) ⟨0⟩) ⟨0⟩) ⟨0⟩)
   (fun r v cs ad=>wO Γ G d (p+1) l Q ⟨updC sl r ⟨v,some cs,ad⟩,u,h,n,b⟩ ⟨0⟩) ⟨0⟩:=by
 (try rw[zaL (α:=Slot)])
 (try rw[zaL (α:=Bool)])
 (try rw[zek])
 unfold wO;rw[zaX];rw[zbs,zec rfl,<- zlj sl u h n b a];simp only[zaj,ob,za2]
 cases zd8 (M.st ⟨sl,u,h,n,b⟩) (.s a)with
 | none=>rfl
 | some r=>
   simp only[zC,zD,M.st]
   cases(sl r.1).box with
   | none=>rfl
   | some cs=>simp only[zD];cases zaW G sl x with
     | none=>rfl
     | some v=>simp only[zD];cases v.cells with
       | none=>rfl
       | some new=>
         simp only[zD]
         by_cases hk:new.length=k
         ·cases wr cs r.2 new with
          | none=>simp[zyq,hk]
          | some cs'=>simp[M.free,M.apply,zcy,zyq,zbf,hk]
         ·simp[zyq,hk]
@[go_sem ↓]theorem zzo (t off a:Nat) (w:W4 _ _ _ _):
 wO Γ G d p (⟨none,some t,.faddrL off (.s a)⟩::l) Q ⟨sl,u,h,n,b⟩ w=
  ziX (u t) (zvI (sl a).ad (sl a).v a (fun r o=>if(sl r).box.isSome=true/\r≠t then some (r,o+off)else none) ⟨0⟩)
   (fun r o=>wO Γ G d (p+1) l Q ⟨updC sl t ⟨.lb,none,some (r,o)⟩,updC u r true,h,n,b⟩ ⟨0⟩) ⟨0⟩:=by
 rw[zln (w':=⟨0⟩)]
 (try rw[zaL (α:=Slot)])
 (try rw[zaL (α:=Bool)])
 (try rw[zek])
 unfold wO;rw[zaX];rw[zbs,zec rfl,<- zlj sl u h n b a];simp only[zaj]
 cases zd8 (M.st ⟨sl,u,h,n,b⟩) (.s a)with
 | none=>rfl
 | some r=>
   simp only[zC,zD,M.st]
   cases(sl r.1).box with
   | none=>simp[zdr]
   | some cs=>
     simp only[zD,Option.isSome_some,true_and]
     by_cases DM:r.1=t
     ·simp[M.free,zdr,DM]
     ·simp[M.free,M.apply,zcy,zdr,zbf,DM]
@[go_sem ↓]theorem zxG (t len sz a:Nat) (i:Opd) (w:W4 _ _ _ _):
 wO Γ G d p (⟨none,some t,.iaddrAL len sz (.s a) i⟩::l) Q ⟨sl,u,h,n,b⟩ w=
  ziX (u t) (ob (zaW G sl i) (fun v=>ob (zji v) (fun k=>zvI (sl a).ad (sl a).v a (fun r o=>if(sl r).box.isSome=true/\r≠t/\0<=k/\k<len then some (r,o+k.toNat*sz)else none) ⟨0⟩) ⟨0⟩) ⟨0⟩)
   (fun r o=>wO Γ G d (p+1) l Q ⟨updC sl t ⟨.lb,none,some (r,o)⟩,updC u r true,h,n,b⟩ ⟨0⟩) ⟨0⟩:=by
 rw[zln (w':=⟨0⟩)]
 (try rw[zaL (α:=Slot)])
 (try rw[zaL (α:=Bool)])
 (try rw[zek])
 unfold wO;rw[zaX];rw[zbs,zec rfl];simp only[zaj,ob,zds]
 cases zaW G sl i with
 | none=>rfl
 | some v=>
   simp only[zC,zD]
   cases zji v with
   | none=>rfl
   | some k=>
     simp only[zD];rw[<- zlj sl u h n b a]
     cases zd8 (M.st ⟨sl,u,h,n,b⟩) (.s a)with
     | none=>rfl
     | some r=>
       simp only[zD,M.st]
       cases(sl r.1).box with
       | none=>simp[zdr]
       | some cs=>
         simp only[zD,Option.isSome_some,true_and]
         by_cases DM:r.1=t
         ·by_cases hk:0<=k/\k<len
          ·simp[M.free,zdr,DM,hk]
          ·simp[M.free,zdr,DM,hk]
         ·by_cases hk:0<=k/\k<len
          ·simp[M.free,M.apply,zcy,zdr,zbf,DM,hk]
          ·have : ¬(r.1≠t/\0<=k/\k<len):=fun h=>hk h.2
           rw[if_neg hk,if_neg this];rfl
end
end Rg
end
section
namespace Rg
open Go
section
variable {Γ:Nat->Option F} {G:Nat->List T}
variable (G) in
def zjn (sl:Nat->Slot):List V->List (Nat×Nat×Opd)->Option (List V)
 | cs,[]=>some cs
 | cs,(off,k,x)::r=>ob (zaW G sl x) (fun v=>ob v.cells (fun new=>if new.length=k then ob (wr cs off new) (fun cs'=>zjn sl cs' r) ⟨0⟩else none) ⟨0⟩) ⟨0⟩
@[go_sem ↓]theorem zxx (sl:Nat->Slot) (cs:List V):zjn G sl cs []=some cs:=rfl
@[go_sem ↓]theorem zol (sl:Nat->Slot) (cs:List V) (off k:Nat) (x:Opd) (r:List (Nat×Nat×Opd)):
 zjn G sl cs ((off,k,x)::r)=ob (zaW G sl x) (fun v=>ob v.cells (fun new=>if new.length=k then ob (wr cs off new) (fun cs'=>zjn G sl cs' r) ⟨0⟩else none) ⟨0⟩) ⟨0⟩:=rfl
theorem zm4 (sl:Nat->Slot) (u:Nat->Bool) (h:Nat->Option O) (n b:Nat): ∀(r:List (Nat×Nat×Opd)) (cs:List V),zbY G cs (M.st ⟨sl,u,h,n,b⟩) r=zjn G sl cs r
 | [],cs=>rfl
 | (off,k,x)::r,cs=>by
   rw[zbY,zol,za2];simp only[ob,zC]
   congr 1;funext v;congr 1;funext new
   split
   ·congr 1;funext cs';exact zm4 sl u h n b r cs'
   ·rfl
variable (G) in
def zjm (sl:Nat->Slot) (sz:Nat):List (List V)->List (Nat×Opd)->Option (List (List V))
 | rs,[]=>some rs
 | rs,(i,x)::r=>ob (zaW G sl x) (fun v=>ob v.cells (fun new=>if new.length=sz/\i<rs.length then zjm sl sz (rs.set i new) r else none) ⟨0⟩) ⟨0⟩
@[go_sem ↓]theorem zxw (sl:Nat->Slot) (sz:Nat) (rs:List (List V)):zjm G sl sz rs []=some rs:=rfl
@[go_sem ↓]theorem zok (sl:Nat->Slot) (sz:Nat) (rs:List (List V)) (i:Nat) (x:Opd) (r:List (Nat×Opd)):
 zjm G sl sz rs ((i,x)::r)=ob (zaW G sl x) (fun v=>ob v.cells (fun new=>if new.length=sz/\i<rs.length then zjm G sl sz (rs.set i new) r else none) ⟨0⟩) ⟨0⟩:=rfl
theorem zm3 (sl:Nat->Slot) (u:Nat->Bool) (h:Nat->Option O) (n b sz:Nat): ∀(r:List (Nat×Opd)) (rs:List (List V)),zcH G rs sz (M.st ⟨sl,u,h,n,b⟩) r=zjm G sl sz rs r
 | [],rs=>rfl
 | (i,x)::r,rs=>by
   rw[zcH,zok,za2];simp only[ob,zC]
   congr 1;funext v;congr 1;funext new
   split
   ·exact zm3 sl u h n b sz r _
   ·rfl
variable (G) in
def zpG (sl:Nat->Slot) (d:Nat):Option Opd->Option Int
 | none=>some d
 | some x=>ob (zaW G sl x) zji ⟨0⟩
@[go_sem ↓]theorem zCI (sl:Nat->Slot) (d:Nat):zpG G sl d none=some (d:Int):=rfl
@[go_sem ↓]theorem zCH (sl:Nat->Slot) (d:Nat) (x:Opd):zpG G sl d (some x)=ob (zaW G sl x) zji ⟨0⟩:=rfl
theorem zsU (sl:Nat->Slot) (u:Nat->Bool) (h:Nat->Option O) (n b d:Nat) (x:Option Opd):zew G (M.st ⟨sl,u,h,n,b⟩) d x=zpG G sl d x:=by
 cases x with
 | none=>rfl
 | some x=>simp only[zew,zds,zpG,ob]
def zkk (h:Nat->Option O) (sz:Nat) (lo hi:Int):V->Option V
 | .ms k i _=>match h k with
   | some (.rows sz' rs _)=>if sz'=sz/\0<=lo/\lo<=hi/\(i:Int)+hi<=rs.length then some (.ms k (i+lo.toNat) (hi-lo).toNat)else none
   | _=>none
 | _=>none
def zry (h:Nat->Option O) (sz n:Nat) (lo hi:Int) (v:V):Option V:=
 if 0<=lo/\lo<=hi/\hi<=n then
  match v with
  | .t .nils=>some (.t .nils)
  | .t (.sl es)=>if es.all (·.length=sz)then some (.t (.sl ((es.drop lo.toNat).take (hi-lo).toNat)))else none
  | .ms k i _=>match h k with
    | some (.rows sz' _ _)=>if sz'=sz then some (.ms k (i+lo.toNat) (hi-lo).toNat)else none
    | _=>none
  | _=>none
 else zkk h sz lo hi v
def zC1:V->Option ByteArray
 | .t (.str b)=>some b
 | _=>none
attribute [go_sem] zry zC1 zmn
variable (d:Bool) (p:Nat) (l:List ROp) (Q:M->Prop) (sl:Nat->Slot) (u:Nat->Bool) (h:Nat->Option O) (n b:Nat)
@[go_sem ↓]theorem zBa (t:Nat) (z:List V) (ps:List (Nat×Nat×Opd)) (w:W4 _ _ _ _):
 wO Γ G d p (⟨none,some t,.build z ps⟩::l) Q ⟨sl,u,h,n,b⟩ w=zdr (u t) (ob (zjn G sl z ps) (fun cs=>some (.agg cs)) ⟨0⟩) (fun v=>wO Γ G d (p+1) l Q ⟨updC sl t ⟨v,none,none⟩,u,h,n,b⟩ ⟨0⟩) ⟨0⟩:=by
 refine zbW rfl ?_;simp only[zaj,zm4,ob];cases zjn G sl z ps<;>rfl
@[go_sem ↓]theorem zAX (t:Nat) (sz:Nat) (x:Opd) (lo hi:Option Opd) (w:W4 _ _ _ _):
 wO Γ G d p (⟨none,some t,.slice sz x lo hi none⟩::l) Q ⟨sl,u,h,n,b⟩ w=zdr (u t) (ob (zaW G sl x) (fun v=>ob (lenS h v) (fun k=>ob (zpG G sl k hi) (fun AK=>ob (zpG G sl 0 lo) (fun lo'=>zry h sz k lo' AK v) ⟨0⟩) ⟨0⟩) ⟨0⟩) ⟨0⟩) (fun v=>wO Γ G d (p+1) l Q ⟨updC sl t ⟨v,none,none⟩,u,h,n,b⟩ ⟨0⟩) ⟨0⟩:=by
 refine zbW rfl ?_;simp only[zaj,za2,ob,zlw,zsU]
 cases zaW G sl x with
 | none=>rfl
 | some v=>
   simp only[zC,zD]
   cases lenS h v with
   | none=>rfl
   | some k=>
     simp only[zD]
     cases zpG G sl k hi with
     | none=>rfl
     | some AK=>
       simp only[zD]
       cases zpG G sl 0 lo with
       | none=>rfl
       | some lo'=>
         simp only[zD,zry];split
         ·cases v with
          | t x=>cases x with
            | sl es=>simp only;split<;>rfl
            | _=>rfl
          | ms q i j=>
            simp only[M.st]
            cases h q with
            | none=>rfl
            | some o=>cases o with
              | rows s rs z=>simp only;split<;>rfl
              | _=>rfl
          | _=>rfl
         ·cases v with
          | ms q i j=>
            simp only[M.st,zkk]
            cases h q with
            | none=>rfl
            | some o=>cases o with
              | rows s rs z=>simp only;split<;>rfl
              | _=>rfl
          | _=>rfl
attribute [go_sem] zqq zeF
@[go_sem ↓]theorem zB9 (t:Nat) (f:Nat) (x y:List Opd) (w:W4 _ _ _ _):
 wO Γ G d p (⟨none,some t,.mkfn f x y⟩::l) Q ⟨sl,u,h,n,b⟩ w=zdr (u t) (ob (zdE G sl x) (fun a=>ob (zdE G sl y) (fun c=>zqq f a c) ⟨0⟩) ⟨0⟩) (fun v=>wO Γ G d (p+1) l Q ⟨updC sl t ⟨v,none,none⟩,u,h,n,b⟩ ⟨0⟩) ⟨0⟩:=by
 refine zbW rfl ?_;simp only[zaj,zgD,ob]
 cases zdE G sl x with
 | none=>rfl
 | some a=>
   simp only[zC,zD]
   cases zdE G sl y with
   | none=>rfl
   | some c=>simp only[zD];(cases zqq f a c<;>rfl)
@[go_sem ↓]theorem zzu (t:Nat) (cs:List V) (w:W4 _ _ _ _):
 wO Γ G d p (⟨none,some t,.allocH cs⟩::l) Q ⟨sl,u,h,n,b⟩ w=ziX (u t) (some (V.mp (b+p) 0 0,[(b+p,O.rows cs.length [cs] false)])) (fun v hp=>wO Γ G d (p+1) l Q ⟨updC sl t ⟨v,none,none⟩,u,At h hp,n,b⟩ ⟨0⟩) ⟨0⟩:=by
 refine zma rfl ?_;rfl
def zPn (h:Nat->Option O) (n:Nat) (lo hi:Option Int):V->Option V
 | .mp k 0 0=>match h k with
   | some (.rows 1 rs _)=>hi.bind fun hi=>lo.bind fun lo=>if 0<=lo/\lo<=hi/\hi<=n/\rs.length=n then some (.ms k lo.toNat (hi-lo).toNat)else none
   | _=>none
 | _=>none
attribute [go_sem] zPn
def zOy (h:Nat->Option O) (n:Nat) (o:Option (List V)):V->Option (V×List (Nat×O))
 | .mp k 0 0=>match h k with
   | some (.rows 1 rs false)=>o.bind fun new=>if new.length=n/\rs.length=n then some (.undef,[(k,.rows 1 (new.map fun c=>[c]) false)])else none
   | _=>none
 | _=>none
attribute [go_sem] zOy
@[go_sem ↓]theorem zCo (t:Nat) (k:Nat) (x:Opd) (w:W4 _ _ _ _):
 wO Γ G d p (⟨none,some t,.boxH k x⟩::l) Q ⟨sl,u,h,n,b⟩ w=ziX (u t) (ob (zaW G sl x) (fun v=>ob v.cells (fun cs=>if cs.length=k then some (V.mp (b+p) 0 0,[(b+p,O.rows k [cs] false)])else none) ⟨0⟩) ⟨0⟩) (fun v hp=>wO Γ G d (p+1) l Q ⟨updC sl t ⟨v,none,none⟩,u,At h hp,n,b⟩ ⟨0⟩) ⟨0⟩:=by
 refine zma rfl ?_;simp only[zaj,za2,ob]
 cases zaW G sl x with
 | none=>rfl
 | some v=>
   simp only[zC,zD]
   cases v.cells with
   | none=>rfl
   | some cs=>simp only[zD];split<;>rfl
@[go_sem ↓]theorem zzq (t:Nat) (sz len:Nat) (z:List V) (ps:List (Nat×Opd)) (w:W4 _ _ _ _):
 wO Γ G d p (⟨none,some t,.bslice sz len z ps⟩::l) Q ⟨sl,u,h,n,b⟩ w=ziX (u t) (ob (zjm G sl sz (List.replicate len z) ps) (fun rs=>some (V.ms (b+p) 0 len,[(b+p,O.rows sz rs false)])) ⟨0⟩) (fun v hp=>wO Γ G d (p+1) l Q ⟨updC sl t ⟨v,none,none⟩,u,At h hp,n,b⟩ ⟨0⟩) ⟨0⟩:=by
 refine zma rfl ?_;simp only[zaj,zm3,ob];cases zjm G sl sz (List.replicate len z) ps<;>rfl
def zRa (rs:List (List V)):Option (V×List (Nat×O)):=(rs.mapM zeF).map fun ts=>(V.t (.sl ts),[])
attribute [go_sem] zRa
@[go_sem ↓]theorem zRp (t:Nat) (sz len:Nat) (z:List V) (ps:List (Nat×Opd)) (w:W4 _ _ _ _):
 wO Γ G d p (⟨none,some t,.lit sz len z ps⟩::l) Q ⟨sl,u,h,n,b⟩ w=ziX (u t) (ob (zjm G sl sz (List.replicate len z) ps) zRa ⟨0⟩) (fun v hp=>wO Γ G d (p+1) l Q ⟨updC sl t ⟨v,none,none⟩,u,At h hp,n,b⟩ ⟨0⟩) ⟨0⟩:=by
 refine zma rfl ?_;simp only[zaj,zm3,ob]
 cases zjm G sl sz (List.replicate len z) ps with
 | none=>rfl
 | some rs=>
   simp only[zC,zD,zRa];cases rs.mapM zeF<;>rfl
def zrq (h:Nat->Option O) (k:Nat) (new:List V):V->Option (V×List (Nat×O))
 | .mp q i off=>match h q with
   | some (.rows sz rs false)=>(rs[i]?).bind fun row=>if new.length=k then(wr row off new).bind fun row'=>some (V.undef,[(q,O.rows sz (rs.set i row') false)])else none
   | _=>none
 | _=>none
def zck (h:Nat->Option O) (q:Nat) (sz bytes:Nat) (u:V) (a b:List (List V)):Option (V×List (Nat×O)):=
 if(a.length+b.length<=2^32/\bytes<=2^12)/\b.all (·.length=sz)/\a.all (·.length=sz)then
  if b.isEmpty then some (u,[])
  else match u with
   | .t .nils=>some (.ms q 0 b.length,[(q,.rows sz b false)])
   | .t (.slc _)=>((a++b).mapM zeF).bind fun ts=>some (.t (.sl ts),[])
   | .ms k i _=>match h k with
     | some (.rows sz' rs false)=>if sz'=sz/\i=0 then some (.ms q 0 (a.length+b.length),[(k,.dead),(q,.rows sz (zbU a b rs) false)])else none
     | _=>none
   | _=>none
 else none
@[go_sem]theorem zfP {α:Type} (a b:List α):zbU a b a=a++b:=if_pos (Nat.le_add_right _ _)
def zxb (h:Nat->Option O) (sz:Nat) (b:List (List V)):V->Option (V×List (Nat×O))
 | .t .nils=>some (.t (.int .i64 0),[])
 | .ms k i len=>match h k with
   | some (.rows sz' rs false)=>if sz'=sz/\b.all (·.length=sz)then(wr rs i (b.take len)).bind fun rs'=>some (.t (.int .i64 (min b.length len:Nat)),[(k,.rows sz rs' false)])else none
   | _=>none
 | _=>none
def zBy (h:Nat->Option O):V->Option (List (T×V))
 | .t .nilm=>some []
 | .mm j=>match h j with
   | some (.map es)=>some es
   | _=>none
 | _=>none
def zsh (h:Nat->Option O) (key:T) (x:V):V->Option (V×List (Nat×O))
 | .mm j=>match h j with
   | some (.map es)=>(zbF key x es).bind fun es'=>if x.one then some (V.undef,[(j,.map es')])else none
   | _=>none
 | _=>none
attribute [go_sem] zrq zxb zBy zsh
@[go_sem ↓]theorem zAW (k:Nat) (a x:Opd) (w:W4 _ _ _ _):
 wO Γ G d p (⟨none,none,.store k a x⟩::l) Q ⟨sl,u,h,n,b⟩ w=ziX false (ob (zaW G sl a) (fun q=>ob (zaW G sl x) (fun v=>ob v.cells (fun new=>zrq h k new q) ⟨0⟩) ⟨0⟩) ⟨0⟩) (fun _ hp=>wO Γ G d (p+1) l Q ⟨sl,u,At h hp,n,b⟩ ⟨0⟩) ⟨0⟩:=by
 refine zrd rfl ?_;simp only[zaj,za2,ob]
 cases zaW G sl a with
 | none=>rfl
 | some q=>
   simp only[zC,zD]
   cases hx:zaW G sl x with
   | none=>
     cases q with
     | mp j i off=>
       simp only[M.st,Option.bind_none]
       cases h j with
       | none=>rfl
       | some o=>cases o with
         | rows sz rs z=>cases z with
           | false=>simp only;cases rs[i]? <;>rfl
           | true=>rfl
         | _=>rfl
     | _=>rfl
   | some v=>
     simp only[zD]
     cases hc:v.cells with
     | none=>
       cases q with
       | mp j i off=>
         simp only[M.st,Option.bind_none]
         cases h j with
         | none=>rfl
         | some o=>cases o with
           | rows sz rs z=>cases z with
             | false=>simp only;cases rs[i]? <;>rfl
             | true=>rfl
           | _=>rfl
       | _=>rfl
     | some new=>
       cases q with
       | mp j i off=>
         simp only[M.st,zD,zrq]
         cases h j with
         | none=>rfl
         | some o=>cases o with
           | rows sz rs z=>cases z with
             | false=>
               simp only
               cases rs[i]? with
               | none=>rfl
               | some row=>
                 simp only[zD];split
                 ·cases wr row off new<;>rfl
                 ·rfl
             | true=>rfl
           | _=>rfl
       | _=>rfl
def zxk (sz bytes:Nat) (z:List V) (k:Nat) (v:V) (m:Int):Option (V×List (Nat×O)):=match v with
 | .t .nils=>if 1<=m/\m<=2^32/\bytes<=2^12/\z.length=sz then some (V.ms k 0 m.toNat,[(k,O.rows sz (List.replicate m.toNat z) false)])else none
 | _=>none
@[go_sem]theorem zBV (sz bytes:Nat) (z:List V) (k:Nat) (m:Int):zxk sz bytes z k (.t .nils) m=if 1<=m/\m<=2^32/\bytes<=2^12/\z.length=sz then some (V.ms k 0 m.toNat,[(k,O.rows sz (List.replicate m.toNat z) false)])else none:=rfl
@[go_sem ↓]theorem zCp (t:Nat) (sz bytes:Nat) (z:List V) (x y:Opd) (w:W4 _ _ _ _):
 wO Γ G d p (⟨none,some t,.appz sz bytes z x y⟩::l) Q ⟨sl,u,h,n,b⟩ w=ziX (u t) (ob (zaW G sl y) (fun v'=>ob (zji v') (fun m=>ob (zaW G sl x) (fun v=>zxk sz bytes z (b+p) v m) ⟨0⟩) ⟨0⟩) ⟨0⟩) (fun v hp=>wO Γ G d (p+1) l Q ⟨updC sl t ⟨v,none,none⟩,u,At h hp,n,b⟩ ⟨0⟩) ⟨0⟩:=by
 refine zma rfl ?_;simp only[zaj,zds,za2,ob]
 cases zaW G sl y with
 | none=>rfl
 | some v'=>
   simp only[zC,zD]
   cases zji v' with
   | none=>rfl
   | some m=>
     simp only[zD]
     cases zaW G sl x with
     | none=>rfl
     | some v=>cases v with
       | t x=>cases x<;>first | rfl | (simp only[zD,zxk];split<;>rfl)
       | _=>rfl
@[go_sem ↓]theorem zxF (t:Nat) (sz bytes:Nat) (z:List V) (x y:Opd) (w:W4 _ _ _ _):
 wO Γ G d p (⟨none,some t,.mkslice sz bytes z x y⟩::l) Q ⟨sl,u,h,n,b⟩ w=ziX (u t) (ob (zaW G sl x) (fun v=>ob (zji v) (fun k=>ob (zaW G sl y) (fun v'=>ob (zji v') (fun m=>if 0<=k/\k<=m/\m<=2^32/\bytes<=2^12/\z.length=sz then some (V.ms (b+p) 0 k.toNat,[(b+p,O.rows sz (List.replicate k.toNat z) false)])else none) ⟨0⟩) ⟨0⟩) ⟨0⟩) ⟨0⟩) (fun v hp=>wO Γ G d (p+1) l Q ⟨updC sl t ⟨v,none,none⟩,u,At h hp,n,b⟩ ⟨0⟩) ⟨0⟩:=by
 refine zma rfl ?_;simp only[zaj,zds,ob]
 cases zaW G sl x with
 | none=>rfl
 | some v=>
   simp only[zC,zD]
   cases zji v with
   | none=>rfl
   | some k=>
     simp only[zD]
     cases zaW G sl y with
     | none=>rfl
     | some v'=>
       simp only[zD]
       cases zji v' with
       | none=>rfl
       | some m=>simp only[zD];split<;>rfl
@[go_sem ↓]theorem zzs (t:Nat) (sz bytes:Nat) (x y:Opd) (w:W4 _ _ _ _):
 wO Γ G d p (⟨none,some t,.append sz bytes x y⟩::l) Q ⟨sl,u,h,n,b⟩ w=ziX (u t) (ob (zaW G sl x) (fun v=>ob (zaW G sl y) (fun v'=>ob (rowsS h v) (fun a=>ob (rowsS h v') (fun c=>zck h (b+p) sz bytes v a c) ⟨0⟩) ⟨0⟩) ⟨0⟩) ⟨0⟩) (fun v hp=>wO Γ G d (p+1) l Q ⟨updC sl t ⟨v,none,none⟩,u,At h hp,n,b⟩ ⟨0⟩) ⟨0⟩:=by
 refine zma rfl ?_;simp only[zaj,za2,ob,ziP]
 cases zaW G sl x with
 | none=>rfl
 | some v=>
   simp only[zC,zD]
   cases zaW G sl y with
   | none=>rfl
   | some v'=>
     simp only[zD]
     cases rowsS h v with
     | none=>rfl
     | some a=>
       simp only[zD]
       cases rowsS h v' with
       | none=>rfl
       | some c=>
         simp only[zD,zck];split
         ·split
          ·rfl
          ·cases v with
           | t z=>cases z<;>first | rfl | (cases List.mapM zeF (a++c)<;>rfl)
           | ms k i j=>
             simp only[M.st]
             cases h k with
             | none=>rfl
             | some o=>cases o with
               | rows s rs z=>cases z with
                 | false=>simp only;split<;>rfl
                 | true=>rfl
               | _=>rfl
           | _=>rfl
         ·rfl
def zyz (h:Nat->Option O) (f:Nat):V->Option (V×List (Nat×O))
 | .mp k i off=>match h k with
   | some (.rows sz [row] _)=>if i=0/\off=0 then(zeF row).bind fun ts=>some (.t (.fn f [] [.ip ts]),[(k,.rows sz [row] true)])else none
   | _=>none
 | _=>none
attribute [go_sem] zyz
@[go_sem ↓]theorem zA1 (t:Nat)  (w:W4 _ _ _ _):
 wO Γ G d p (⟨none,some t,.mkmap⟩::l) Q ⟨sl,u,h,n,b⟩ w=ziX (u t) (some (V.mm (b+p),[(b+p,O.map [])])) (fun v hp=>wO Γ G d (p+1) l Q ⟨updC sl t ⟨v,none,none⟩,u,At h hp,n,b⟩ ⟨0⟩) ⟨0⟩:=by
 refine zma rfl ?_;rfl
@[go_sem ↓]theorem zzl (t:Nat) (kd:Nat) (z:V) (ok:Bool) (x y:Opd) (w:W4 _ _ _ _):
 wO Γ G d p (⟨none,some t,.lookup kd z ok x y⟩::l) Q ⟨sl,u,h,n,b⟩ w=zdr (u t) (ob (zaW G sl y) (fun k=>ob (zj1 kd k) (fun key=>ob (zaW G sl x) (fun v=>ob (zBy h v) (fun es=>ob (zbo key es) (fun r=>some (if ok then V.tup [r.getD z,.t (.bool r.isSome)]else r.getD z)) ⟨0⟩) ⟨0⟩) ⟨0⟩) ⟨0⟩) ⟨0⟩) (fun v=>wO Γ G d (p+1) l Q ⟨updC sl t ⟨v,none,none⟩,u,h,n,b⟩ ⟨0⟩) ⟨0⟩:=by
 refine zbW rfl ?_;simp only[zaj,za2,ob]
 cases zaW G sl y with
 | none=>rfl
 | some k=>
   simp only[zC,zD]
   cases zj1 kd k with
   | none=>rfl
   | some key=>
     simp only[zD]
     cases zaW G sl x with
     | none=>rfl
     | some v=>
       simp only[zD]
       cases v with
       | mm j=>
         simp only[zBy,M.st]
         cases h j with
         | none=>rfl
         | some o=>cases o with
           | map es=>
             simp only[zD]
             cases zbo key es with
             | none=>rfl
             | some r=>cases ok<;>rfl
           | _=>rfl
       | t q=>cases q with
         | nilm=>cases ok<;>rfl
         | _=>rfl
       | _=>rfl
@[go_sem ↓]theorem zzk (kd:Nat) (x y z:Opd) (w:W4 _ _ _ _):
 wO Γ G d p (⟨none,none,.mapupd kd x y z⟩::l) Q ⟨sl,u,h,n,b⟩ w=ziX false (ob (zaW G sl y) (fun k=>ob (zj1 kd k) (fun key=>ob (zaW G sl z) (fun r=>ob (zaW G sl x) (zsh h key r) ⟨0⟩) ⟨0⟩) ⟨0⟩) ⟨0⟩) (fun _ hp=>wO Γ G d (p+1) l Q ⟨sl,u,At h hp,n,b⟩ ⟨0⟩) ⟨0⟩:=by
 refine zrd rfl ?_;simp only[zaj,za2,ob]
 cases zaW G sl y with
 | none=>rfl
 | some k=>
   simp only[zC,zD]
   cases zj1 kd k with
   | none=>rfl
   | some key=>
     simp only[zD]
     cases zaW G sl z with
     | none=>rfl
     | some r=>
       simp only[zD]
       cases zaW G sl x with
       | none=>rfl
       | some v=>
         simp only[zD]
         cases v with
         | mm j=>
           simp only[M.st,zsh]
           cases h j with
           | none=>rfl
           | some o=>cases o with
             | map es=>
               simp only
               cases zbF key r es with
               | none=>rfl
               | some es'=>simp only[zD];split<;>rfl
             | _=>rfl
         | _=>rfl
def zqW (d us:Bool) (h:Nat->Option O) (g:Nat) (vs:List V) (o:Option (List V)) (K:V->(Nat->Option O)->Prop) (_:WK K):Prop:=match o with
 | none=>False
 | some rs=>match Den Γ G g rs with
   | none=>False
   | some r=>us=false/\if r.scalar then K r h else(d=true->vs.flatMap (zba h)=[])/\K r (At h (freezes h (vs.flatMap (zba h))))
def zlN (o:Option V) (d:Bool) (h:Nat->Option O) (vs:List V) (K:V->(Nat->Option O)->Prop) (_:WK K):Prop:=match o with
 | none=>False
 | some r=>if r.scalar then K r h else(d=true->vs.flatMap (zba h)=[])/\K r (At h (freezes h (vs.flatMap (zba h))))
@[go_sem]theorem zyX (d:Bool) (h:Nat->Option O) (g:Nat) (vs rs:List V) (K:V->(Nat->Option O)->Prop) (w:WK K):
 zqW (Γ:=Γ) (G:=G) d false h g vs (some rs) K w=zlN (Den Γ G g rs) d h vs K ⟨0⟩:=by
 simp only[zqW,zlN]
 cases Den Γ G g rs with
 | none=>rfl
 | some r=>simp
@[go_sem]theorem zAP (k:IntKind) (n:Int) (d:Bool) (h:Nat->Option O) (vs:List V) (K:V->(Nat->Option O)->Prop) (w:WK K):zlN (some (.t (.int k n))) d h vs K w=K (.t (.int k n)) h:=by
 simp[zlN,V.scalar,V.scalar2,V.scalar1,T.scalar]
@[go_sem]theorem zyW (x:Bool) (d:Bool) (h:Nat->Option O) (vs:List V) (K:V->(Nat->Option O)->Prop) (w:WK K):zlN (some (.t (.bool x))) d h vs K w=K (.t (.bool x)) h:=by
 simp[zlN,V.scalar,V.scalar2,V.scalar1,T.scalar]
@[go_sem]theorem zs4 (r:V) (d:Bool) (h:Nat->Option O) (vs:List V) (K:V->(Nat->Option O)->Prop) (w:WK K) (ht:vs.all V.tree=true):
 zlN (some r) d h vs K w=K r h:=by
 have hr:vs.flatMap (zba h)=[]:=by
  simp only[List.flatMap_eq_nil_iff];intro v hv;exact zkt (zN.1 ht v hv)
 simp[zlN,hr,freezes,zaA]
@[go_sem]theorem zAO (r:V) (d:Bool) (h:Nat->Option O) (K:V->(Nat->Option O)->Prop) (w:WK K):zlN (some r) d h [] K w=K r h:=zs4 r d h [] K w rfl
def zhE (K:List V->Prop) (_:WK K) (o:Option (List V)):Prop:=match o with
 | none=>False
 | some vs=>K vs
@[go_sem]theorem zxy (vs:List V) (K:List V->Prop) (w:WK K):zhE K w (some vs)=K vs:=rfl
theorem zrX {d:Bool} {t:Nat} {l:List ROp} {p:Nat} {Q:M->Prop} {sl:Nat->Slot} {u:Nat->Bool} {h:Nat->Option O} {n b g:Nat} {vs:List V}:
 zvr Γ G d ⟨sl,u,h,n,b⟩ (some t) g vs (fun m'=>wpO Γ G d (p+1) l m' Q)=
  zqW (Γ:=Γ) (G:=G) d (u t) h g vs (vs.mapM (toT1 h)) (fun r h'=>wO Γ G d (p+1) l Q ⟨updC sl t ⟨r,none,none⟩,u,h',n,b⟩ ⟨0⟩) ⟨0⟩:=by
 rw[zaL (α:=Slot)];rw[zwB];simp only[zqW,M.free,Bool.and_true,wO,zaX,zek]
 cases vs.mapM (toT1 h)with
 | none=>simp
 | some rs=>
   simp only
   cases Den Γ G g rs with
   | none=>simp
   | some r=>
     simp only[zzH,M.apply,zcy,zbf,Bool.not_eq_true']
@[go_sem ↓]theorem zCl (t g:Nat) (args:List Opd) (w:W4 _ _ _ _):
 wO Γ G d p (⟨none,some t,.call false (.c (.t (.fn g [] []))) args⟩::l) Q ⟨sl,u,h,n,b⟩ w=
  zhE (fun vs=>zqW (Γ:=Γ) (G:=G) d (u t) h g vs (vs.mapM (toT1 h)) (fun r h'=>wO Γ G d (p+1) l Q ⟨updC sl t ⟨r,none,none⟩,u,h',n,b⟩ ⟨0⟩) ⟨0⟩) ⟨0⟩ (zdE G sl args):=by
 unfold wO;rw[zaX];rw[zbs];simp only[ziE,evl,zD,zfC,List.map_nil,zgD]
 cases zdE G sl args with
 | none=>rfl
 | some vs=>
   simp only[zhE,List.nil_append,List.append_nil,zG,if_false];have e:=zrX (Γ:=Γ) (G:=G) (d:=d) (t:=t) (l:=l) (p:=p) (Q:=Q) (sl:=sl) (u:=u) (h:=h) (n:=n) (b:=b) (g:=g) (vs:=vs);unfold wO at e;rw[zaX]at e;exact e
def fnK (o:Option V) (K:Nat->List V->List V->Prop) (_:WK K):Prop:=match o with
 | none=>False
 | some v=>match zfC v with
   | none=>False
   | some (g,a,c)=>K g a c
@[go_sem]theorem zDd (g:Nat) (a c:List T) (K:Nat->List V->List V->Prop) (w:WK K):fnK (some (.t (.fn g a c))) K w=K g (a.map V.t) (c.map V.t):=rfl
@[go_sem]theorem zDc (g:Nat) (a c:List V) (K:Nat->List V->List V->Prop) (w:WK K):fnK (some (.fn g a c)) K w=K g a c:=rfl
@[go_sem ↓]theorem zA9 (t x:Nat) (args:List Opd) (w:W4 _ _ _ _):
 wO Γ G d p (⟨none,some t,.call false (.s x) args⟩::l) Q ⟨sl,u,h,n,b⟩ w=
  fnK (zaW G sl (.s x)) (fun g a c=>zhE (fun vs=>zqW (Γ:=Γ) (G:=G) d (u t) h g (a++vs++c) ((a++vs++c).mapM (toT1 h)) (fun r h'=>wO Γ G d (p+1) l Q ⟨updC sl t ⟨r,none,none⟩,u,h',n,b⟩ ⟨0⟩) ⟨0⟩) ⟨0⟩ (zdE G sl args)) ⟨0⟩:=by
 unfold wO;rw[zaX];rw[zbs];simp only[ziE,za2,zgD]
 cases zaW G sl (.s x)with
 | none=>cases zdE G sl args<;>rfl
 | some v=>
   simp only[zD,fnK]
   cases zfC v with
   | none=>
     simp only
     cases zdE G sl args with
     | none=>rfl
     | some vs=>
       simp only[zG,false_and]
       split<;>rfl
   | some q=>
     obtain⟨g,a,c⟩:=q;simp only
     cases zdE G sl args with
     | none=>rfl
     | some vs=>
       simp only[zhE,zG,if_false];have e:=zrX (Γ:=Γ) (G:=G) (d:=d) (t:=t) (l:=l) (p:=p) (Q:=Q) (sl:=sl) (u:=u) (h:=h) (n:=n) (b:=b) (g:=g) (vs:=a++vs++c);unfold wO at e;rw[zaX]at e;exact e
def zvK (us:Bool) (o:Option (V×(Nat->Option O)×Nat)) (K:V->(Nat->Option O)->Nat->Prop) (_:WK K):Prop:=match o with
 | none=>False
 | some (r,h,n)=>us=false/\K r h n
theorem zpM {d:Bool} {t:Nat} {l:List ROp} {p:Nat} {Q:M->Prop} {sl:Nat->Slot} {u:Nat->Bool} {h:Nat->Option O} {n b g:Nat} {vs:List V}:
 zvq Γ G ⟨sl,u,h,n,b⟩ (some t) g vs (fun m'=>wpO Γ G d (p+1) l m' Q)=
  zvK (u t) (DenR Γ G g vs h n) (fun r h' n'=>wO Γ G d (p+1) l Q ⟨updC sl t ⟨r,none,none⟩,u,h',n',b⟩ ⟨0⟩) ⟨0⟩:=by
 (try rw[zaL (α:=Slot)])
 rw[zwA];simp only[zvK,M.free,Bool.and_true,wO,zaX]
 cases DenR Γ G g vs h n with
 | none=>simp
 | some q=>
   obtain⟨r,h',n'⟩:=q;simp only[M.apply,zcy,zbf,Bool.not_eq_true']
@[go_sem ↓]theorem zAY (t g:Nat) (args:List Opd) (w:W4 _ _ _ _):
 wO Γ G d p (⟨none,some t,.call true (.c (.t (.fn g [] []))) args⟩::l) Q ⟨sl,u,h,n,b⟩ w=
  zhE (fun vs=>zvK (u t) (DenR Γ G g vs h n) (fun r h' n'=>wO Γ G d (p+1) l Q ⟨updC sl t ⟨r,none,none⟩,u,h',n',b⟩ ⟨0⟩) ⟨0⟩) ⟨0⟩ (zdE G sl args):=by
 unfold wO;rw[zaX];rw[zbs];simp only[ziE,evl,zD,zfC,List.map_nil,zgD]
 cases zdE G sl args with
 | none=>rfl
 | some vs=>
   simp only[zhE,List.nil_append,List.append_nil,if_true];have e:=zpM (Γ:=Γ) (G:=G) (d:=d) (t:=t) (l:=l) (p:=p) (Q:=Q) (sl:=sl) (u:=u) (h:=h) (n:=n) (b:=b) (g:=g) (vs:=vs);unfold wO at e;rw[zaX]at e;exact e
def fnY (o:Option V) (K:Nat->List V->List V->Prop) (Y:Nat->Prop) (_:WK K) (_:WK Y):Prop:=match o with
 | none=>False
 | some v=>match zfC v with
   | some (g,a,c)=>K g a c
   | none=>match ztL v with
     | some k=>Y k
     | none=>False
@[go_sem]theorem zDb (g:Nat) (a c:List V) (K:Nat->List V->List V->Prop) (Y:Nat->Prop) (w:WK K) (w':WK Y):fnY (some (.fn g a c)) K Y w w'=K g a c:=rfl
@[go_sem]theorem zDa (k:Nat) (K:Nat->List V->List V->Prop) (Y:Nat->Prop) (w:WK K) (w':WK Y):fnY (some (.yl k)) K Y w w'=Y k:=rfl
theorem zPC {v:V} {g:Nat} {a c:List V} (h:zfC v=some (g,a,c)) (K:Nat->List V->List V->Prop) (Y:Nat->Prop) (w:WK K) (w':WK Y):fnY (some v) K Y w w'=K g a c:=by
 simp only[fnY,h]
theorem zvo {d:Bool} {t:Nat} {l:List ROp} {p:Nat} {Q:M->Prop} {sl:Nat->Slot} {u:Nat->Bool} {h:Nat->Option O} {n b k:Nat} {vs:List V}:
 zvp Γ G ⟨sl,u,h,n,b⟩ (some t) k vs (fun m'=>wpO Γ G d (p+1) l m' Q)=
  zvK (u t) (DenY Γ G k vs h n) (fun r h' n'=>wO Γ G d (p+1) l Q ⟨updC sl t ⟨r,none,none⟩,u,h',n',b⟩ ⟨0⟩) ⟨0⟩:=by
 (try rw[zaL (α:=Slot)])
 rw[zwz];simp only[zvK,M.free,Bool.and_true,wO,zaX]
 cases DenY Γ G k vs h n with
 | none=>simp
 | some q=>
   obtain⟨r,h',n'⟩:=q;simp only[M.apply,zcy,zbf,Bool.not_eq_true']
def zyL (us:Bool) (h:Nat->Option O) (key g:Nat) (vs:List V) (K:V->List (Nat×O)->Prop) (_:WK K):Prop:=
 us=false/\vs.flatMap (zba h)=[]/\ ∃rs,vs.mapM (toT1 h)=some rs/\ ∃r h' n',DenR Γ G g rs (fun _=>none) 0=some (r,h',n')/\ ∃e,zqm key r h'=some e/\K e.val e.hp
@[go_sem ↓]theorem zA7 (t g:Nat) (args:List Opd) (w:W4 _ _ _ _):
 wO Γ G d p (⟨none,some t,.fcall (.c (.t (.fn g [] []))) args⟩::l) Q ⟨sl,u,h,n,b⟩ w=
  zhE (fun vs=>zyL (Γ:=Γ) (G:=G) (u t) h (b+p) g vs (fun v hp=>wO Γ G d (p+1) l Q ⟨updC sl t ⟨v,none,none⟩,u,At h hp,n,b⟩ ⟨0⟩) ⟨0⟩) ⟨0⟩ (zdE G sl args):=by
 unfold wO;rw[zaX];rw[zbs];simp only[ziE,evl,zD,zfC,List.map_nil,zgD]
 cases zdE G sl args with
 | none=>rfl
 | some vs=>
   simp only[zhE,List.nil_append,List.append_nil,zyY,zyL,M.free,Bool.and_true,Bool.not_eq_true'];apply propext;constructor
   ·rintro⟨h1,h2,rs,h3,r,h',n',h4,_,e,h5,h6⟩;refine⟨h1,h2,rs,h3,r,h',n',zcI.2 h4,e,h5,?_⟩;obtain⟨s1,s2,s3⟩:=zeP h5;rw[zaL,zek];simpa[M.apply,zcy,s1,s2,s3]using h6
   ·rintro⟨h1,h2,rs,h3,r,h',n',h4,e,h5,h6⟩;refine⟨h1,h2,rs,h3,r,h',n',zcI.1 h4,zxp (zcI.1 h4),e,h5,?_⟩;obtain⟨s1,s2,s3⟩:=zeP h5;rw[zaL,zek]at h6;simpa[M.apply,zcy,s1,s2,s3]using h6
@[go_sem ↓]theorem zzi (t x:Nat) (args:List Opd) (w:W4 _ _ _ _):
 wO Γ G d p (⟨none,some t,.call true (.s x) args⟩::l) Q ⟨sl,u,h,n,b⟩ w=
  fnY (zaW G sl (.s x)) (fun g a c=>zhE (fun vs=>zvK (u t) (DenR Γ G g (a++vs++c) h n) (fun r h' n'=>wO Γ G d (p+1) l Q ⟨updC sl t ⟨r,none,none⟩,u,h',n',b⟩ ⟨0⟩) ⟨0⟩) ⟨0⟩ (zdE G sl args))
   (fun k=>zhE (fun vs=>zvK (u t) (DenY Γ G k vs h n) (fun r h' n'=>wO Γ G d (p+1) l Q ⟨updC sl t ⟨r,none,none⟩,u,h',n',b⟩ ⟨0⟩) ⟨0⟩) ⟨0⟩ (zdE G sl args)) ⟨0⟩ ⟨0⟩:=by
 unfold wO;rw[zaX];rw[zbs];simp only[ziE,za2,zgD]
 cases zaW G sl (.s x)with
 | none=>cases zdE G sl args<;>rfl
 | some v=>
   simp only[zD,fnY]
   cases zfC v with
   | none=>
     simp only
     cases ztL v with
     | none=>cases zdE G sl args<;>rfl
     | some k=>
       simp only
       cases zdE G sl args with
       | none=>rfl
       | some vs=>
         simp only[zhE,true_and];have e:=zvo (Γ:=Γ) (G:=G) (d:=d) (t:=t) (l:=l) (p:=p) (Q:=Q) (sl:=sl) (u:=u) (h:=h) (n:=n) (b:=b) (k:=k) (vs:=vs);unfold wO at e;rw[zaX]at e
         exact e
   | some q=>
     obtain⟨g,a,c⟩:=q;simp only
     cases zdE G sl args with
     | none=>rfl
     | some vs=>
       simp only[zhE,if_true];have e:=zpM (Γ:=Γ) (G:=G) (d:=d) (t:=t) (l:=l) (p:=p) (Q:=Q) (sl:=sl) (u:=u) (h:=h) (n:=n) (b:=b) (g:=g) (vs:=a++vs++c);unfold wO at e;rw[zaX]at e;exact e
def resVal:V->Option V
 | .undef=>none
 | .lb=>none
 | .tup _=>none
 | v=>some v
attribute [go_sem] resVal
theorem zBn (sl:Nat->Slot) (u:Nat->Bool) (h:Nat->Option O) (n b t:Nat):zer (M.st ⟨sl,u,h,n,b⟩) (.s t)=resVal (sl t).v:=by
 simp only[zer,M.st];cases(sl t).v<;>rfl
theorem zBo (sl:Nat->Slot) (u:Nat->Bool) (h:Nat->Option O) (n b t:Nat) (ag:Bool) (k:Nat):zer (M.st ⟨sl,u,h,n,b⟩) (.l t ag k)=ob (sl t).box (fun cs=>ob (rd cs 0 k) (zb9 ag) ⟨0⟩) ⟨0⟩:=rfl
def zyu:List V->V
 | [v]=>v
 | vs=> .tup vs
attribute [go_sem] zyu
theorem zrN (sl:Nat->Slot) (u u':Nat->Bool) (h:Nat->Option O) (n b n' b':Nat) (r:Res):zer (M.st ⟨sl,u,h,n,b⟩) r=zer (M.st ⟨sl,u',h,n',b'⟩) r:=by
 cases r<;>rfl
structure W5 (sl:Nat->Slot) (h:Nat->Option O) (rs:List Res) (acc:List V) (K:V->Prop)where
 n:Nat
def znt (sl:Nat->Slot) (h:Nat->Option O) (rs:List Res) (acc:List V) (K:V->Prop) (_:W5 sl h rs acc K):Prop:=
 match rs.mapM (zer (M.st ⟨sl,fun _=>false,h,0,0⟩))with
 | none=>False
 | some vs=>K (zyu (acc++vs))
@[go_sem ↓]theorem zzF (sl:Nat->Slot) (h:Nat->Option O) (acc:List V) (K:V->Prop) (w:W5 sl h [] acc K):znt sl h [] acc K w=K (zyu acc):=by simp[znt]
theorem ziR (sl:Nat->Slot) (h:Nat->Option O) (r:Res) (rs:List Res) (acc:List V) (K:V->Prop) (w:W5 sl h (r::rs) acc K):
 znt sl h (r::rs) acc K w=zdr false (zer (M.st ⟨sl,fun _=>false,h,0,0⟩) r) (fun v=>znt sl h rs (acc++[v]) K ⟨0⟩) ⟨0⟩:=by
 simp only[znt,List.mapM_cons,zC]
 cases zer (M.st ⟨sl,fun _=>false,h,0,0⟩) r with
 | none=>rfl
 | some v=>
   simp only[zD,zdr,true_and]
   cases rs.mapM (zer (M.st ⟨sl,fun _=>false,h,0,0⟩))with
   | none=>rfl
   | some vs=>simp
@[go_sem ↓]theorem zCv (sl:Nat->Slot) (h:Nat->Option O) (t:Nat) (rs:List Res) (acc:List V) (K:V->Prop) (w:W5 sl h (.s t::rs) acc K):
 znt sl h (.s t::rs) acc K w=zdr false (resVal (sl t).v) (fun v=>znt sl h rs (acc++[v]) K ⟨0⟩) ⟨0⟩:=by rw[ziR,zBn]
@[go_sem ↓]theorem zCw (sl:Nat->Slot) (h:Nat->Option O) (t:Nat) (ag:Bool) (k:Nat) (rs:List Res) (acc:List V) (K:V->Prop) (w:W5 sl h (.l t ag k::rs) acc K):
 znt sl h (.l t ag k::rs) acc K w=zdr false (ob (sl t).box (fun cs=>ob (rd cs 0 k) (zb9 ag) ⟨0⟩) ⟨0⟩) (fun v=>znt sl h rs (acc++[v]) K ⟨0⟩) ⟨0⟩:=by rw[ziR,zBo]
theorem ziS (sl:Nat->Slot) (u:Nat->Bool) (h:Nat->Option O) (n b:Nat) (rs:List Res) (K:V->Prop):
 (∃v,zeM (M.st ⟨sl,u,h,n,b⟩) rs=some v/\K v)=znt sl h rs [] K ⟨0⟩:=by
 have:zer (M.st ⟨sl,u,h,n,b⟩)=zer (M.st ⟨sl,fun _=>false,h,0,0⟩):=funext fun r=>zrN sl u _ h n b 0 0 r
 simp only[zeM,this,znt,List.nil_append,zC]
 cases rs.mapM (zer (M.st ⟨sl,fun _=>false,h,0,0⟩))with
 | none=>simp
 | some vs=>
   simp only[zD]
   cases vs with
   | nil=>simp[zyu]
   | cons v vs=>cases vs<;>simp[zyu]
def Fi (rs:List Res) (r:V) (e:Ex) (m:M):Prop:=Fin rs r e m
@[go_sem ↓]theorem zCe (rs:List Res) (r:V) (sl:Nat->Slot) (u:Nat->Bool) (h:Nat->Option O) (n b:Nat):Fi rs r .ret ⟨sl,u,h,n,b⟩=znt sl h rs [] (fun v=>reify h v=some r) ⟨0⟩:=by
 rw[Fi,zyk,ziS]
def FiR (rs:List Res) (P:V->(Nat->Option O)->Nat->Prop) (e:Ex) (m:M):Prop:=zxA rs P e m
@[go_sem ↓]theorem zA4 (rs:List Res) (P:V->(Nat->Option O)->Nat->Prop) (sl:Nat->Slot) (u:Nat->Bool) (h:Nat->Option O) (n b:Nat):FiR rs P .ret ⟨sl,u,h,n,b⟩=znt sl h rs [] (fun v=>SpN (P v h n) ⟨0⟩) ⟨0⟩:=by
 rw[FiR,zwx,<- ziS sl u h n b];rfl
@[go_sem ↓]theorem zA5 (rs:List Res) (P:V->(Nat->Option O)->Nat->Prop) (sl:Nat->Slot) (u:Nat->Bool) (h:Nat->Option O) (n b:Nat):FiR rs P .normal ⟨sl,u,h,n,b⟩=znt sl h rs [] (fun v=>SpN (P v h n) ⟨0⟩) ⟨0⟩:=by
 rw[FiR,zwy,<- ziS sl u h n b];rfl
theorem zag {g:Nat} {args:List V} {fn:F} {r:V} (hg:Γ g=some fn) (hr:fn.raw=false)
 (h:wC Γ G fn.body (qOf Γ G [] (Fi fn.results r)) ⟨slotsC args 0,fun _=>false,fun _=>none,0,0⟩ ⟨0⟩):Den Γ G g args=some r:=zyV hg hr (by unfold wC at h;rw[zbS,zcz,ziG]at h;exact h)
theorem zay {g:Nat} {args:List V} {fn:F} {hp:Nat->Option O} {n:Nat} {P:V->(Nat->Option O)->Nat->Prop} (hg:Γ g=some fn) (hr:fn.raw=true)
 (h:wC Γ G fn.body (qOf Γ G [] (FiR fn.results P)) ⟨slotsC args 0,fun _=>false,hp,n,n⟩ ⟨0⟩): ∃r h' n',DenR Γ G g args hp n=some (r,h',n')/\P r h' n':=zw9 hg hr (by unfold wC at h;rw[zbS,zcz,ziG]at h;exact h)
theorem zaT {b:C} {sl:Nat->Slot} {us:Nat->Bool} {nx ba:Nat} {Q:Ex->M->Prop} {w:W3 b Q ⟨sl,us,fun _=>none,nx,ba⟩} (k:Nat) (n:Nat) (Inv:Nat->(Nat->Slot)->Prop) (hW:b.wrIn (zjJ k)=true) (hH:b.noH=true)
 (h0:Inv 0 sl)
 (h: ∀i f u x bs,i<=n->Inv i f->wC Γ G b (qOf Γ G [] (zf8 (fun m'=>SpN (i<n/\Inv (i+1) m'.sl) ⟨0⟩) Q)) ⟨ovrM k f sl,u,fun _=>none,x,bs⟩ ⟨0⟩):wL Γ G b Q ⟨sl,us,fun _=>none,nx,ba⟩ w:=
 by
  unfold wL;rw[zfi];exact zBA _ n Inv hW hH h0 (by unfold ovrM wC at h;rw[zlr,zbS,zcz]at h;exact h)
theorem zaq {b:C} {sl:Nat->Slot} {us:Nat->Bool} {hp:Nat->Option O} {nx ba:Nat} {Q:Ex->M->Prop} {w:W3 b Q ⟨sl,us,hp,nx,ba⟩} (k:Nat) (n:Nat) (Inv:Nat->(Nat->Slot)->(Nat->Option O)->Nat->Prop) (hW:b.wrIn (zjJ k)=true)
 (h0:Inv 0 sl hp nx)
 (h: ∀i f u h x bs,i<=n->Inv i f h x->wC Γ G b (qOf Γ G [] (zf8 (fun m'=>SpN (i<n/\Inv (i+1) m'.sl m'.heap m'.nxt) ⟨0⟩) Q)) ⟨ovrM k f sl,u,h,x,bs⟩ ⟨0⟩):wL Γ G b Q ⟨sl,us,hp,nx,ba⟩ w:=
 by
  unfold wL;rw[zfi];exact zyB _ n Inv hW h0 (by unfold ovrM wC at h;rw[zlr,zbS,zcz]at h;exact h)
@[go_sem ↓]theorem zB5 (sl:Nat->Slot) (u:Nat->Bool) (h:Nat->Option O) (n b:Nat):(M.mk sl u h n b).sl=sl:=rfl
end
end Rg
namespace Rg
open Go
theorem zaD {Γ:Nat->Option F} {G:Nat->List T} {b:C} {Q:Ex->M->Prop} {m:M} {w:W3 b Q m} (h:wC Γ G b (qOf Γ G [] (zf8 (fun m'=>wL Γ G b Q m' ⟨0⟩) Q)) m ⟨0⟩):wL Γ G b Q m w:=
 by
  unfold wC at h;rw[zbS,zcz]at h;unfold wL at h⊢;rw[zfi]at h⊢;exact ztt (zq7 h)
end Rg
namespace Rg
open Go
theorem zas {o:Option (V×(Nat->Option O)×Nat)} {P:V->(Nat->Option O)->Nat->Prop} {K:V->(Nat->Option O)->Nat->Prop} {w:WK K}
 (h: ∃r h' n',o=some (r,h',n')/\P r h' n') (hk: ∀r h' n',P r h' n'->K r h' n'):zvK false o K w:=by
 obtain⟨r,h',n',rfl,hp⟩:=h;exact⟨rfl,hk r h' n' hp⟩
attribute [go_sem] List.isEmpty_cons List.isEmpty_nil List.set_cons_zero List.set_cons_succ Nat.lt_add_one Nat.zero_add Option.isSome_some ne_eq Int.cast_ofNat_Int decide_true decide_false not_false_eq_true not_true_eq_false and_self exists_eq_left' V.t.injEq T.bool.injEq T.int.injEq V.agg.injEq V.tup.injEq List.cons.injEq
theorem zah:(∀(p:Prop) [Decidable p],(decide p=true)=p)/\(∀(p:Prop) [Decidable p],(decide p=false)<-> ¬p)/\(∀(α:Type) [BEq α] [LawfulBEq α] (a b:α),(a==b)=true<->a=b)
 /\(∀(α:Type) [BEq α] [LawfulBEq α] (a b:α),(a != b)=true<->a≠b)/\(∀(α:Type) [BEq α] [LawfulBEq α] (x y:α),(x==y)=false<->x≠y)/\(∀(α:Type) [BEq α] [LawfulBEq α] (a b:α),(a != b)=false<->a=b)
 /\(∀b:Bool,((!b)=true)=(b=false))/\(∀b:Bool,((!b)=false)=(b=true))/\(∀b c:Bool,((!b)=c)=(b= !c))/\((!true)=false)/\((!false)=true)/\(∀(α:Type) (a b:α),(a≠b)= ¬a=b)/\(∀(p:Prop) [Decidable p],¬¬p<->p):=
 ⟨fun _ _=>decide_eq_true_eq,fun _ _=>decide_eq_false_iff_not,fun _ _ _ _ _=>beq_iff_eq,fun _ _ _ _ _=>bne_iff_ne,fun _ _ _ _ _=>beq_eq_false_iff_ne,fun _ _ _ _ _=>bne_eq_false_iff_eq,Bool.not_eq_true',Bool.not_eq_false',
  fun _ _=>by simp,rfl,rfl,fun _ _ _=>rfl,fun _ _=>Decidable.not_not⟩
end Rg
end
section
set_option maxRecDepth 100000
namespace Go.Proofs.YtoidcnbdndioaaaGreatDoor
open Go Rg Go.ChangeShapes Go.WideShapes Go.ChangeAt Go.WideMaps Go.WideElems Go.RowKit
theorem own:ownKnob Tryz.prog.godebug=none:=by kernel_rfl
theorem zwP:laidOutB Tryz.prog=true:=by kernel_rfl
def ty:Tys:=⟨3,4,9,5,32,0,43,31,52,22,135,136,138,33,141,34,36,25,45,23,47,24,27,0,0,0,0,0⟩
theorem zjU:ty.Ok0 Tryz.prog:=⟨by kernel_rfl,by kernel_rfl,by kernel_rfl,by kernel_rfl,by kernel_rfl,by kernel_rfl,by kernel_rfl,by kernel_rfl,by kernel_rfl,by kernel_rfl,by kernel_rfl,by kernel_rfl,by kernel_rfl,by kernel_rfl,by kernel_rfl,by kernel_rfl,by kernel_rfl,by kernel_rfl,by kernel_rfl,by kernel_rfl,by kernel_rfl,by kernel_rfl⟩
abbrev zsj:List (String×DataW Unit):=Rows.topSetsDecideRow.laid
theorem zw0 {W:World} (h:laidMetH Tryz.prog zsj W):zpW Seat.N (fun r=>r<W.heap.size) W:=by
 intro k j x hx
 match k,hx with
 | 0, hx => exact zpt (nm := "relyguard/expr.masks") (g := 0) (k := 0) (t := 195) (e := 3) (ls := [.int .i64 0, .int .i64 1, .int .i64 3, .int .i64 7, .int .i64 15, .int .i64 31, .int .i64 63, .int .i64 127, .int .i64 255]) (by kernel_rfl) h (zL (i := 1) rfl) (by kernel_rfl) (by kernel_rfl) (by kernel_rfl) (.inr ⟨.i64, by kernel_rfl⟩) (by kernel_rfl) (by kernel_rfl) rfl rfl j x hx
 | 1,hx=>exact(by have h0:([]:List T)[j]? =some x:=hx;rw[List.getElem?_nil]at h0;cases h0)
 | 2,hx=>exact(by have h0:([]:List T)[j]? =some x:=hx;rw[List.getElem?_nil]at h0;cases h0)
 | 3, hx => exact zpt (nm := "math/bits.deBruijn64tab") (g := 1) (k := 3) (t := 199) (e := 5) (ls := [.int .u8 0, .int .u8 1, .int .u8 56, .int .u8 2, .int .u8 57, .int .u8 49, .int .u8 28, .int .u8 3, .int .u8 61, .int .u8 58, .int .u8 42, .int .u8 50, .int .u8 38, .int .u8 29, .int .u8 17, .int .u8 4, .int .u8 62, .int .u8 47, .int .u8 59, .int .u8 36, .int .u8 45, .int .u8 43, .int .u8 51, .int .u8 22, .int .u8 53, .int .u8 39, .int .u8 33, .int .u8 30, .int .u8 24, .int .u8 18, .int .u8 12, .int .u8 5, .int .u8 63, .int .u8 55, .int .u8 48, .int .u8 27, .int .u8 60, .int .u8 41, .int .u8 37, .int .u8 16, .int .u8 46, .int .u8 35, .int .u8 44, .int .u8 21, .int .u8 52, .int .u8 32, .int .u8 23, .int .u8 11, .int .u8 54, .int .u8 26, .int .u8 40, .int .u8 15, .int .u8 34, .int .u8 20, .int .u8 31, .int .u8 10, .int .u8 25, .int .u8 14, .int .u8 19, .int .u8 9, .int .u8 13, .int .u8 8, .int .u8 7, .int .u8 6]) (by kernel_rfl) h (zL (i := 0) rfl) (by kernel_rfl) (by kernel_rfl) (by kernel_rfl) (.inr ⟨.u8, by kernel_rfl⟩) (by kernel_rfl) (by kernel_rfl) rfl rfl j x hx
 | k+4,hx=>exact(by have h0:([]:List T)[j]? =some x:=hx;rw[List.getElem?_nil]at h0;cases h0)
theorem zOT {tbl:List Nat} {gi:Nat->Option Nat} {gm:Nat->Nat} {G:Nat->List T} {cr:Code->Nat->C->Prop} {tB tU:Nat} (hg: ∀q k,gi q=some k->gm k=q/\G k≠[]):
 Inv.Ok ⟨fun f=>tbl.findIdx? (· ==f),gi,Option.none,[]⟩ ⟨fun k=>tbl.getD k 0,gm,G,G,cr,tB,tU⟩:=by
 refine⟨fun f k h=> ?_,fun q k h=>⟨(hg q k h).1,(hg q k h).2,rfl⟩,(fun t h=>by cases h),fun k t h=>by cases h⟩;obtain⟨Ad,he,_⟩:=List.findIdx?_eq_some_iff_getElem.1 h;show tbl.getD k 0=f;rw[zK,zI Ad];simpa using he
theorem inv:Seat.I.Ok Seat.N:=zOT (fun q k h=>by
 split at h
 ·cases h;rename_i hq;exact⟨hq.symm,by intro h;cases h⟩
 ·split at h
  ·cases h;rename_i hq;exact⟨hq.symm,by intro h;cases h⟩
  ·cases h)
theorem zBf:ztu Tryz.prog Seat.I Seat.N Rg.Γ:=fun g fn h=>Seat.all (g,fn) (zkG h)
theorem zwD {g:Nat} {av:List V} {r:V} (h:Den Rg.Γ Rg.G g av=some r):zjO Tryz.prog Seat.N g av r:=
 zte inv zBf (by kernel_rfl) (fun _ _ _=>Iff.rfl) (zhC.1 h)
section
end
theorem zu7 (os:Os) (args:Array Value):laidMetH Tryz.prog zsj ((World.doorLaid Tryz.prog 400 os).forCall (fun _ _=>0) ⟨#[],args,[]⟩).memory:=
 laidMetH_of_parts3 (fuel:=8) (laidMet_of_run' 8 (by kernel_rfl) (by kernel_rfl)) (by kernel_rfl) (by kernel_rfl)
end Go.Proofs.YtoidcnbdndioaaaGreatDoor
end
section
namespace Rg
open Go
theorem zd1 (n:Int) (hn:n<=62):Den Γ G 33 [vi n]=some (vi (2^n.toNat)):=by
 (refine zag Γ33 rfl ?_;dsimp only[f33])
 simp -dsimp only[go_sem,seval];refine zaT 4088 n.toNat (fun i f=>(f 4).v=vi i/\(f 3).v=vi (2^i)) rfl rfl ⟨by simp -dsimp only[go_sem,seval],by simp -dsimp only[go_sem,seval,Int.pow_zero]⟩ ?_;rintro i f u kk bb hi ⟨h4,h3⟩;have hw:=zan i (by omega);simp -dsimp only[go_sem,seval,h4,h3,hw];refine zac (fun h=> ?_) (fun h=> ?_)<;>(try simp only[zah]at h)<;>(try simp -dsimp only[go_sem,seval,h4,h3,hw, *])
 ·have h2:(2:Int)^i<=2^61:=zes (by omega);have BV:=zcn i;have hp:IntKind.i64.wrap ((2:Int)^i*2)=2^(i+1):=by rw[zaH (by omega),Int.pow_succ]
  exact⟨by omega,by simp -dsimp only[go_sem,seval],by simp -dsimp only[go_sem,seval,hp]⟩
 ·have:i=n.toNat:=by omega
  rw[this]
def zcO (op:Int):Int:=
 if 1<=op/\op<=3 then 0 else if op=4 then 1 else if 5<=op/\op<=13 then 2 else if op=14 then 3 else -1
theorem zti (op:Int):Den Γ G 116 [vi op]=some (vi (zcO op)):=by
 (refine zag Γ116 rfl ?_;dsimp only[f116])
 simp -dsimp only[go_sem,seval]
 repeat'(refine zac (fun h=> ?_) (fun h=> ?_)<;>(try simp only[zah]at h)<;>(try simp -dsimp only[go_sem,seval, *]))
 all_goals(unfold zcO;grind)
theorem zoT (e:Expr): ∀l:Int,l<2^40->Den Γ G 47 [(.agg [.t (ti (e).op),.t (ti (e).w),.t (ti (e).n),.t (.sl ((e).kids.map (Expr.enc)))]),vi l]=some (vi (if l<=0 then 0 else min (e.size:Int) l)):=by
 induction e using Expr.ind with
 | _ e ih=>
 intro l hl;have AS:=Expr.size_eq e;have Ac:=Expr.len_le_size e.kids
 (refine zag Γ47 rfl ?_;dsimp only[f47])
 simp -dsimp only[go_sem,seval];refine zac (fun h=> ?_) (fun h=> ?_)<;>(try simp only[zah]at h)<;>(try simp -dsimp only[go_sem,seval, *])
 refine zaT 4294966880 e.kids.length (fun i f=>(f 6).v=vi i/\(f 5).v=vi (min (1+((e.kids.take i).map Expr.size).sum:Nat) l)) rfl rfl ⟨by simp -dsimp only[go_sem,seval],by simp -dsimp only[go_sem,seval];simp;omega⟩ ?_;rintro i f u kk bb hi ⟨h6,h5⟩;have hp:=Expr.take_le_size e.kids i;have AK:=Expr.len_le_size (e.kids.take i);rw[List.length_take,Nat.min_eq_left hi]at AK;simp -dsimp only[go_sem,seval,h6,h5];refine zac (fun h=> ?_) (fun h=> ?_)<;>(try simp only[zah]at h)<;>(try simp -dsimp only[go_sem,seval,h6,h5, *])
 ·refine zac (fun h=> ?_) (fun h=> ?_)<;>(try simp only[zah]at h)<;>(try simp -dsimp only[go_sem,seval,h6,h5, *])
  ·have hw:=zan i (by omega);obtain⟨x,hx,hm⟩:=zai ‹i<e.kids.length›;have ht:=zaf hx;have Fj:min (((1+((e.kids.take i).map Expr.size).sum:Nat):Int)) l=((1+((e.kids.take i).map Expr.size).sum:Nat):Int):=by omega
   rw[Fj]at h5;have Cj:IntKind.i64.wrap (l-((1+((e.kids.take i).map Expr.size).sum:Nat):Int))=l-((1+((e.kids.take i).map Expr.size).sum:Nat):Int):=zaH (by omega);have hd:=ih x hm (l-((1+((e.kids.take i).map Expr.size).sum:Nat):Int)) (by omega);simp -dsimp only[go_sem,seval,h6,h5,hw,hx,Cj,hd];refine⟨by omega,by simp -dsimp only[go_sem,seval],?_⟩;simp -dsimp only[go_sem,seval];rw[if_neg (by omega),ht,zaH (by omega)];simp only[List.map_append,List.sum_append,List.map_cons,List.map_nil,List.sum_cons,List.sum_nil];omega
  ·omega
 ·have:i=e.kids.length:=by omega
  subst this;rw[List.take_length];omega
def zbk (e:Expr):Bool:=
 if zcO e.op≠e.kids.length\/e.w<1\/e.w>8 then false
 else if e.op=1 then decide (0<=e.n/\e.n<2^e.w.toNat)
 else if e.op=2\/e.op=3 then decide (0<=e.n/\e.n<32)
 else if e.op=4 then decide (e.n=0/\e.kw 0=e.w)
 else if e.op=11\/e.op=12\/e.op=13 then decide (e.n=0/\e.w=1/\e.kw 0=e.kw 1)
 else if e.op=14 then decide (e.n=0/\e.kw 0=1/\e.kw 1=e.w/\e.kw 2=e.w)
 else decide (e.n=0/\e.kw 0=e.w/\e.kw 1=e.w)
def Expr.deep:Nat->Expr->Bool
 | 0,_=>false
 | d+1,e=>zbk e&&e.kids.all (Expr.deep d)
theorem zdP {α:Type} {l:List α} {i:Nat} {x:α} {p:α->Bool} (h:l[i]? =some x) (h1:(l.take i).all p=true) (h2:p x=true):(l.take (i+1)).all p=true:=by
 rw[zaf h,List.all_append,h1];simp[h2]
theorem zcr {α:Type} {l:List α} {x:α} {p:α->Bool} (h:x∈l) (h2:p x=false):l.all p=false:=by
 rw[List.all_eq_false];exact⟨x,h,by simp[h2]⟩
theorem zvt (op:Int):zcO op<=3:=by unfold zcO;grind
theorem zdj {e:Expr} (h:zbk e=true):e.kids.length<=3:=by
 have:=zvt e.op;unfold zbk at h;split at h
 ·simp at h
 ·rename_i h';simp only[not_or,Decidable.not_not]at h';omega
end Rg
end
section
-- FULL
namespace Rg
open Go
theorem zeg (op:Int):op=1\/op=2\/op=3\/op=4\/op=5\/op=6\/op=7\/op=8\/op=9\/op=10\/op=11\/op=12\/op=13\/op=14\/(op<1\/14<op):=by omega
theorem zd7 {op:Int} (h:op<1\/14<op):zcO op= -1:=by unfold zcO;grind
set_option maxHeartbeats 2000000
theorem zuv (e:Expr):Den Γ G 89 [(.agg [.t (ti (e).op),.t (ti (e).w),.t (ti (e).n),.t (.sl ((e).kids.map (Expr.enc)))])]=some (vb (zbk e)):=by
 (refine zag Γ89 rfl ?_;dsimp only[f89])
 obtain⟨op,w,n,ks⟩:=e;have ha:=zti op
 by_cases hk:zcO op=(ks.length:Int)
 ·by_cases hw:1<=w/\w<=8
  ·have h1: ¬w<1:=by omega
   have h2: ¬w>8:=by omega
   have hp:=zd1 w (by omega);rcases zeg op with rfl | rfl | rfl | rfl | rfl | rfl | rfl | rfl | rfl | rfl | rfl | rfl | rfl | rfl | Ao
   rotate_right
   ·rw[zd7 Ao]at hk;omega
   all_goals(
    rcases ks with _ | ⟨a,_ | ⟨b,_ | ⟨c,_ | ⟨d,r⟩⟩⟩⟩
    all_goals(try(exfalso;simp[zcO]at hk;(try omega);done))
    all_goals(
     simp -dsimp [go_sem,ha,hp,hk,h1,h2,bne_self_eq_false]
     repeat'(refine zac (fun h=> ?_) (fun h=> ?_)<;>(try simp only[zah]at h)<;>(try simp -dsimp [go_sem,hp, *]))
     all_goals(simp only[zbk,go_sem,Expr.kw,List.getD_cons_zero,List.getD_cons_succ];grind)))
  ·by_cases h1:w<1
   ·simp -dsimp [go_sem,ha,hk,bne_self_eq_false,h1];simp only[zbk,go_sem];grind
   ·have h2:w>8:=by omega
    simp -dsimp [go_sem,ha,hk,bne_self_eq_false,h1,h2];simp only[zbk,go_sem];grind
 ·have Ah:(zcO op != (ks.length:Int))=true:=by simpa using hk
  simp -dsimp [go_sem,ha,Ah];simp only[zbk,go_sem];grind
end Rg
end
