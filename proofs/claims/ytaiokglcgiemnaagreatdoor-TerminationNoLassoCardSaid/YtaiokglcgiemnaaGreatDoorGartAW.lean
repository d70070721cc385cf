/- Part of the proof of laws of relyguardlaw36. No condition. -/
import Derived.Test.YtaiokglcgiemnaaGreatDoorGartAV
import Derived.Test.YtaiokglcgiemnaaGreatDoorGartAP
import Derived.Test.YtaiokglcgiemnaaGreatDoorGartAO
set_option linter.unusedSimpArgs false
set_option linter.unusedVariables false
set_option linter.defProp false
section
-- APPS
set_option maxRecDepth 100000
namespace Rg
open Go
def i36:Expr:=.mk 2 2 0 []
def iU:Expr:=.mk 1 2 2 []
def vd:Expr:=.mk 1 1 1 []
def U5 (b:Bool):Expr:=if b then .mk 1 2 0 []else .mk 8 2 0 [i36,.mk 1 2 1 []]
def dD (b:Bool):Prog:=
 ⟨[⟨bs [116,46,105],2,0,0,false,0⟩],[⟨bs [77],bs [111],.mk 0 0 0 [],vd,[]⟩],[],
  [⟨bs [116],3,[.mk 13 1 0 [i36,iU],vd,vd],[0,0,0],
    [⟨1,0,1,.mk 12 1 0 [i36,iU],[],false,0,0⟩,⟨1,1,0,vd,[⟨0,U5 b⟩],false,0,0⟩,⟨1,0,2,.mk 11 1 0 [i36,iU],[],false,0,0⟩],
    [⟨0,[1],.mk 9 2 0 [iU,i36]⟩],false⟩]⟩
theorem um (b:Bool):(dD b).sane:=by
 cases b<;>exact⟨aG,aG,aG,aG,by decide+kernel,by decide+kernel,by decide+kernel,by decide+kernel,by decide+kernel⟩
theorem tA (b:Bool):aN (dD b)=true:=by cases b<;>decide+kernel
set_option maxHeartbeats 4000000 in
theorem Qe (b:Bool):Den Γ G 347 [vb b]=some (zP (dD b)):=by
 have a:=r_ 1 1;have c:=r_ 2 2;have d:=r_ 1 2;have e:=r_ 0 2;have f:=kay 0 2;have g:=yW 8 2 i36 (.mk 1 2 1 []);have h:=fun op=>yW op 1 i36 iU
 have i:=yW 9 2 iU i36;simp only[i36,iU,Expr.op,Expr.w,Expr.n,Expr.kids,bc]at a c d e f g h i;cases b<;>refine aD (q:=?_)
 ·simp -dsimp -implicitDefEqProofs only[go_sem,seval,aY,a,c,d,e,f,g,h,i];exact⟨rfl,rfl,rfl,rfl⟩
 ·simp -dsimp -implicitDefEqProofs only[go_sem,seval,aY,a,c,d,e,f,g,h,i];exact⟨rfl,rfl,rfl,rfl⟩
theorem kbq {l:List Int} {c:Int} (h:l.Pairwise (· < ·)) (a: ∀x,x∈l<->x=c):l=[c]:=by
 match l,h,a with
 | [],_,a=>have:=(a c).2 rfl;simp at this
 | [x],_,a=>rw[(a x).1 af]
 | x::y::l,h,a=>
   have b:=(a x).1 af;have d:=(a y).1 af;have:=(wb.1 h).1 y af;omega
theorem Vo:Den Γ G 336 [(zP (dD false)),vi 0,vi 0]=some (.tup [vi 2,vi 0]):=by
 have c:=tA false;obtain⟨A,b⟩:=zZ (t:=0) (j:=0) c rfl rfl;have h:=b.hA;cases h;have a:=Zy (dD false) (um false) c (t:=0) (j:=0) rfl rfl b
 have i:kQ (.mk 13 1 0 [i36,iU]) (.mk 9 2 0 [iU,i36])=[0]:=by
  refine kbq (V0 _) fun x=> ?_
  rw[kQ,Jz];have d:Expr.sup 2 (.mk 13 1 0 [i36,iU])=[0]:=by decide+kernel
  have e:Expr.sup 2 (.mk 9 2 0 [iU,i36])=[0]:=by decide+kernel
  rw[d,e];simp
 rw[i]at a;have f:cO (dD false) [0]=2:=by decide+kernel
 have g:zr (dD false) [0] (.mk 13 1 0 [i36,iU]) (.mk 9 2 0 [iU,i36])=2:=by decide+kernel
 rw[f,g]at a;exact a
def Tk:List Choice:=[⟨0,0,0⟩,⟨0,1,0⟩,⟨0,0,0⟩,⟨0,1,0⟩,⟨0,2,0⟩]
theorem Vq:Den Γ G 341 [(zP (dD false)),vi 0,.t (.sl (Tk.map Choice.enc)),vi 0,vi 0]=some (.tup [vi 2,vi 0]):=by
 have h:=Y8 (dD false) (um false) (tA false) 0 aG (t:=0) (j:=0) rfl rfl Tk aG (by decide+kernel);refine h.trans ?_;exact bz (fun x=>some (V.tup [vi x,vi 0])) (show _=(2:Int)by decide+kernel)
abbrev nf:Loop:=⟨0,[1],.mk 9 2 0 [iU,i36]⟩
def l36 (b:Bool):List Vis:=(eq (dD b) (if b then 0 else 1) 100).getD []
theorem yC (b:Bool) {l:List Vis} (h:eq (dD b) (if b then 0 else 1) 100=some l):l=l36 b:=by rw[l36,h];rfl
theorem R7 (b:Bool):eq (dD b) (if b then 0 else 1) 100≠none:=by
 have : ∀b,(eq (dD b) (if b then 0 else 1) 100).isSome=true:=by decide+kernel
 intro h;have:=this b;rw[h]at this;cases this
theorem B': ∀u,u<(l36 false).length-> ∀e∈bM (dD false) 1 (l36 false) u,u<e.1:=by decide+kernel
theorem Vj {u v:Nat} (h:Rch (EI (dg (bM (dD false) 1 (l36 false))) (fP (l36 false) 0 nf)) u v):u<=v:=by
 induction h with
 | refl=>exact ay _
 | cons h _ d=>
   obtain⟨a,_,b⟩:=h;obtain⟨e,c,rfl⟩:=cy.1 b;simp only[fP,zF,aQ]at a;have:=B' _ a.1 e c;omega
theorem kcI:Den Γ G 343 [(zP (dD false)),vi 1,vi 0,vi 0,vi 100]=some (.tup [.t (.sl []),.t (.sl []),vi 4]):=by
 rcases zt (dD false) (um false) (tA false) 1 aG (t:=0) (j:=0) (lp:=nf) rfl rfl 100 aG aG with⟨h,_⟩ | ⟨l,c,⟨i,_,⟨_,_,u,e,b,a,_,_,d,_⟩,_⟩ | ⟨_,h⟩⟩
 ·exact absurd h (R7 false)
 ·obtain rfl:=yC false c;simp only[fP,zF,aQ]at a;have f:=B' _ a.1 e b;have g:=Vj d.2;omega
 ·exact h
theorem kcH:Den Γ G 343 [(zP (dD true)),vi 0,vi 0,vi 0,vi 100]=some (.tup [.t (.sl []),.t (.sl ([⟨0,0,0⟩,⟨0,1,0⟩].map Choice.enc)),vi 0]):=by
 have a:iM (dD true) 0 (l36 true) 0 nf 0:=by
  have b:EI (dg (bM (dD true) 0 (l36 true))) (fP (l36 true) 0 nf) 0 1:=⟨by decide+kernel,by decide+kernel,by decide+kernel⟩
  have e:EI (dg (bM (dD true) 0 (l36 true))) (fP (l36 true) 0 nf) 1 0:=⟨by decide+kernel,by decide+kernel,by decide+kernel⟩
  have m:Mut (EI (dg (bM (dD true) 0 (l36 true))) (fP (l36 true) 0 nf)) 0 1:=⟨.cons b (.refl _),.cons e (.refl _)⟩
  exact⟨by decide+kernel,b.1,0,(1,⟨0,0,0⟩),by decide+kernel,b.1,b.2.1,by decide+kernel,m,.refl _,.refl _⟩
 rcases zt (dD true) (um true) (tA true) 0 aG (t:=0) (j:=0) (lp:=nf) rfl rfl 100 aG aG with⟨h,_⟩ | ⟨l,d,⟨i,_,_,c,h⟩ | ⟨c,_⟩⟩
 ·exact absurd h (R7 true)
 ·obtain rfl:=yC true d
  have hi:i=0:=by
   rcases nh i with h | h
   ·exact h
   ·exact absurd a (c 0 h)
  subst hi;refine h.trans ?_;have f:eG (bM (dD true) 0 (l36 true)) (l36 true).length 0 0=[]:=by decide+kernel
  have g:eG (fZ (dD true) 0 (l36 true) 0 nf) (2*(l36 true).length) (2*0) (2*0+1)=[⟨0,0,0⟩,⟨0,1,0⟩]:=by decide+kernel
  rw[f,g];rfl
 ·obtain rfl:=yC true d;exact absurd a (c 0 (by decide+kernel))
theorem ZQ {r:V} {h:ae} {vs:List V} {K:V->ae->Prop} {w:WK K} (a: ∀h',K r h'):fY (some r) false h vs K w:=by
 unfold fY;simp only;split
 ·exact a _
 ·exact⟨fun h=>Bool.noConfusion h,a _⟩
theorem Ys:Den Γ G 334 []=some (vb true):=by
 have b:=Qe false;have a:=Qe true;have c:=Vo;have d:Den Γ G 341 [(zP (dD false)),vi 0,.t (.sl [[ti 0,ti 0,ti 0],[ti 0,ti 1,ti 0],[ti 0,ti 0,ti 0],[ti 0,ti 1,ti 0],[ti 0,ti 2,ti 0]]),vi 0,vi 0]=some (.tup [vi 2,vi 0]):=Vq;have e:=kcI;have f:Den Γ G 343 [(zP (dD true)),vi 0,vi 0,vi 0,vi 100]=some (.tup [.t (.sl []),.t (.sl [[ti 0,ti 0,ti 0],[ti 0,ti 1,ti 0]]),vi 0]):=kcH;have g:Den Γ G 40 [.t (.sl [[ti 0,ti 0,ti 0],[ti 0,ti 1,ti 0]]),.t (.sl [[ti 0,ti 0,ti 0],[ti 0,ti 1,ti 0]])]=some (vb true):=(Vz [⟨0,0,0⟩,⟨0,1,0⟩] [⟨0,0,0⟩,⟨0,1,0⟩] aG).trans rfl
 refine aD (q:=?_)
 simp -dsimp -implicitDefEqProofs only[go_sem,seval,aY,b,a,c,d];refine ZQ fun h'=> ?_
 simp -dsimp -implicitDefEqProofs only[go_sem,seval,aY,a,e,f,g]
end Rg
end
