/- Part of the proof of laws of relyguardlaw36. No condition. -/
import Derived.Test.YtaiokglcgiemnaaGreatDoorFartAV
import Derived.Test.YtaiokglcgiemnaaGreatDoorFartAP
import Derived.Test.YtaiokglcgiemnaaGreatDoorFartAO
set_option linter.unusedSimpArgs false
set_option linter.unusedVariables false
set_option linter.defProp false
section
-- APPS
set_option maxRecDepth 100000
namespace Rg
open Go
def i36:Expr:=.mk 2 2 0 []
def iW:Expr:=.mk 1 2 2 []
def u7:Expr:=.mk 1 1 1 []
def Vd (b:Bool):Expr:=if b then .mk 1 2 0 []else .mk 8 2 0 [i36,.mk 1 2 1 []]
def dG (b:Bool):Prog:=
 ⟨[⟨bs [116,46,105],2,0,0,false,0⟩],[⟨bs [77],bs [111],.mk 0 0 0 [],u7,[]⟩],[],
  [⟨bs [116],3,[.mk 13 1 0 [i36,iW],u7,u7],[0,0,0],
    [⟨1,0,1,.mk 12 1 0 [i36,iW],[],false,0,0⟩,⟨1,1,0,u7,[⟨0,Vd b⟩],false,0,0⟩,⟨1,0,2,.mk 11 1 0 [i36,iW],[],false,0,0⟩],
    [⟨0,[1],.mk 9 2 0 [iW,i36]⟩],false⟩]⟩
theorem uj (b:Bool):(dG b).sane:=by
 cases b<;>exact⟨aG,aG,aG,aG,by decide+kernel,by decide+kernel,by decide+kernel,by decide+kernel,by decide+kernel⟩
theorem tw (b:Bool):aM (dG b)=true:=by cases b<;>decide+kernel
set_option maxHeartbeats 4000000 in
theorem QL (b:Bool):Den Γ G 347 [vb b]=some (zP (dG b)):=by
 have a:=r8 1 1;have c:=r8 2 2;have d:=r8 1 2;have e:=r8 0 2;have f:=kaJ 0 2;have g:=yY 8 2 i36 (.mk 1 2 1 []);have h:=fun op=>yY op 1 i36 iW
 have i:=yY 9 2 iW i36;simp only[i36,iW,Expr.op,Expr.w,Expr.n,Expr.kids,ba]at a c d e f g h i;cases b<;>refine aB (q:=?_)
 ·simp -dsimp -implicitDefEqProofs only[go_sem,seval,aY,a,c,d,e,f,g,h,i];exact⟨rfl,rfl,rfl,rfl⟩
 ·simp -dsimp -implicitDefEqProofs only[go_sem,seval,aY,a,c,d,e,f,g,h,i];exact⟨rfl,rfl,rfl,rfl⟩
theorem kbA {l:List Int} {c:Int} (h:l.Pairwise (· < ·)) (a: ∀x,x∈l<->x=c):l=[c]:=by
 match l,h,a with
 | [],_,a=>have:=(a c).2 rfl;simp at this
 | [x],_,a=>rw[(a x).1 af]
 | x::y::l,h,a=>
   have b:=(a x).1 af;have d:=(a y).1 af;have:=(wh.1 h).1 y af;omega
theorem Vy:Den Γ G 336 [(zP (dG false)),vi 0,vi 0]=some (.tup [vi 2,vi 0]):=by
 have c:=tw false;obtain⟨A,b⟩:=Ht (t:=0) (j:=0) c rfl rfl;have h:=b.hA;cases h;have a:=ZJ (dG false) (uj false) c (t:=0) (j:=0) rfl rfl b
 have i:kQ (.mk 13 1 0 [i36,iW]) (.mk 9 2 0 [iW,i36])=[0]:=by
  refine kbA (V_ _) fun x=> ?_
  rw[kQ,J_];have d:Expr.sup 2 (.mk 13 1 0 [i36,iW])=[0]:=by decide+kernel
  have e:Expr.sup 2 (.mk 9 2 0 [iW,i36])=[0]:=by decide+kernel
  rw[d,e];simp
 rw[i]at a;have f:cM (dG false) [0]=2:=by decide+kernel
 have g:zu (dG false) [0] (.mk 13 1 0 [i36,iW]) (.mk 9 2 0 [iW,i36])=2:=by decide+kernel
 rw[f,g]at a;exact a
def Tu:List Choice:=[⟨0,0,0⟩,⟨0,1,0⟩,⟨0,0,0⟩,⟨0,1,0⟩,⟨0,2,0⟩]
theorem VA:Den Γ G 341 [(zP (dG false)),vi 0,.t (.sl (Tu.map Choice.enc)),vi 0,vi 0]=some (.tup [vi 2,vi 0]):=by
 have h:=z7 (dG false) (uj false) (tw false) 0 aG (t:=0) (j:=0) rfl rfl Tu aG (by decide+kernel);refine h.trans ?_;exact bx (fun x=>some (V.tup [vi x,vi 0])) (show _=(2:Int)by decide+kernel)
abbrev nc:Loop:=⟨0,[1],.mk 9 2 0 [iW,i36]⟩
def l36 (b:Bool):List Vis:=(ek (dG b) (if b then 0 else 1) 100).getD []
theorem yE (b:Bool) {l:List Vis} (h:ek (dG b) (if b then 0 else 1) 100=some l):l=l36 b:=by rw[l36,h];rfl
theorem Sj (b:Bool):ek (dG b) (if b then 0 else 1) 100≠none:=by
 have : ∀b,(ek (dG b) (if b then 0 else 1) 100).isSome=true:=by decide+kernel
 intro h;have:=this b;rw[h]at this;cases this
theorem CV: ∀u,u<(l36 false).length-> ∀e∈bM (dG false) 1 (l36 false) u,u<e.1:=by decide+kernel
theorem Vt {u v:Nat} (h:Rch (EI (dc (bM (dG false) 1 (l36 false))) (fO (l36 false) 0 nc)) u v):u<=v:=by
 induction h with
 | refl=>exact ax _
 | cons h _ d=>
   obtain⟨a,_,b⟩:=h;obtain⟨e,c,rfl⟩:=cv.1 b;simp only[fO,zF,aQ]at a;have:=CV _ a.1 e c;omega
theorem kcS:Den Γ G 343 [(zP (dG false)),vi 1,vi 0,vi 0,vi 100]=some (.tup [.t (.sl []),.t (.sl []),vi 4]):=by
 rcases zw (dG false) (uj false) (tw false) 1 aG (t:=0) (j:=0) (lp:=nc) rfl rfl 100 aG aG with⟨h,_⟩ | ⟨l,c,⟨i,_,⟨_,_,u,e,b,a,_,_,d,_⟩,_⟩ | ⟨_,h⟩⟩
 ·exact absurd h (Sj false)
 ·obtain rfl:=yE false c;simp only[fO,zF,aQ]at a;have f:=CV _ a.1 e b;have g:=Vt d.2;omega
 ·exact h
theorem kcR:Den Γ G 343 [(zP (dG true)),vi 0,vi 0,vi 0,vi 100]=some (.tup [.t (.sl []),.t (.sl ([⟨0,0,0⟩,⟨0,1,0⟩].map Choice.enc)),vi 0]):=by
 have a:iO (dG true) 0 (l36 true) 0 nc 0:=by
  have b:EI (dc (bM (dG true) 0 (l36 true))) (fO (l36 true) 0 nc) 0 1:=⟨by decide+kernel,by decide+kernel,by decide+kernel⟩
  have e:EI (dc (bM (dG true) 0 (l36 true))) (fO (l36 true) 0 nc) 1 0:=⟨by decide+kernel,by decide+kernel,by decide+kernel⟩
  have m:Mut (EI (dc (bM (dG true) 0 (l36 true))) (fO (l36 true) 0 nc)) 0 1:=⟨.cons b (.refl _),.cons e (.refl _)⟩
  exact⟨by decide+kernel,b.1,0,(1,⟨0,0,0⟩),by decide+kernel,b.1,b.2.1,by decide+kernel,m,.refl _,.refl _⟩
 rcases zw (dG true) (uj true) (tw true) 0 aG (t:=0) (j:=0) (lp:=nc) rfl rfl 100 aG aG with⟨h,_⟩ | ⟨l,d,⟨i,_,_,c,h⟩ | ⟨c,_⟩⟩
 ·exact absurd h (Sj true)
 ·obtain rfl:=yE true d
  have hi:i=0:=by
   rcases ng i with h | h
   ·exact h
   ·exact absurd a (c 0 h)
  subst hi;refine h.trans ?_;have f:dB (bM (dG true) 0 (l36 true)) (l36 true).length 0 0=[]:=by decide+kernel
  have g:dB (fN (dG true) 0 (l36 true) 0 nc) (2*(l36 true).length) (2*0) (2*0+1)=[⟨0,0,0⟩,⟨0,1,0⟩]:=by decide+kernel
  rw[f,g];rfl
 ·obtain rfl:=yE true d;exact absurd a (c 0 (by decide+kernel))
theorem Z1 {r:V} {h:ae} {vs:List V} {K:V->ae->Prop} {w:WK K} (a: ∀h',K r h'):fe (some r) false h vs K w:=by
 unfold fe;simp only;split
 ·exact a _
 ·exact⟨fun h=>Bool.noConfusion h,a _⟩
theorem YD:Den Γ G 334 []=some (vb true):=by
 have b:=QL false;have a:=QL true;have c:=Vy;have d:Den Γ G 341 [(zP (dG false)),vi 0,.t (.sl [[ti 0,ti 0,ti 0],[ti 0,ti 1,ti 0],[ti 0,ti 0,ti 0],[ti 0,ti 1,ti 0],[ti 0,ti 2,ti 0]]),vi 0,vi 0]=some (.tup [vi 2,vi 0]):=VA;have e:=kcS;have f:Den Γ G 343 [(zP (dG true)),vi 0,vi 0,vi 0,vi 100]=some (.tup [.t (.sl []),.t (.sl [[ti 0,ti 0,ti 0],[ti 0,ti 1,ti 0]]),vi 0]):=kcR;have g:Den Γ G 40 [.t (.sl [[ti 0,ti 0,ti 0],[ti 0,ti 1,ti 0]]),.t (.sl [[ti 0,ti 0,ti 0],[ti 0,ti 1,ti 0]])]=some (vb true):=(VJ [⟨0,0,0⟩,⟨0,1,0⟩] [⟨0,0,0⟩,⟨0,1,0⟩] aG).trans rfl
 refine aB (q:=?_)
 simp -dsimp -implicitDefEqProofs only[go_sem,seval,aY,b,a,c,d];refine Z1 fun h'=> ?_
 simp -dsimp -implicitDefEqProofs only[go_sem,seval,aY,a,e,f,g]
end Rg
end
