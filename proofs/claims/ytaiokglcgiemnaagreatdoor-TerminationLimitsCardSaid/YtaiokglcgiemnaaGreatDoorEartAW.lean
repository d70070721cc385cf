/- Part of the proof of laws of relyguardlaw36. No condition. -/
import Derived.Test.YtaiokglcgiemnaaGreatDoorEartAV
import Derived.Test.YtaiokglcgiemnaaGreatDoorEartAP
import Derived.Test.YtaiokglcgiemnaaGreatDoorEartAO
set_option linter.unusedSimpArgs false
set_option linter.unusedVariables false
set_option linter.defProp false
section
-- APPS
set_option maxRecDepth 100000
namespace Rg
open Go
def i36:Expr:=.mk 2 2 0 []
def iM:Expr:=.mk 1 2 2 []
def u7:Expr:=.mk 1 1 1 []
def UA (b:Bool):Expr:=if b then .mk 1 2 0 []else .mk 8 2 0 [i36,.mk 1 2 1 []]
def dw (b:Bool):Prog:=
 ⟨[⟨bs [116,46,105],2,0,0,false,0⟩],[⟨bs [77],bs [111],.mk 0 0 0 [],u7,[]⟩],[],
  [⟨bs [116],3,[.mk 13 1 0 [i36,iM],u7,u7],[0,0,0],
    [⟨1,0,1,.mk 12 1 0 [i36,iM],[],false,0,0⟩,⟨1,1,0,u7,[⟨0,UA b⟩],false,0,0⟩,⟨1,0,2,.mk 11 1 0 [i36,iM],[],false,0,0⟩],
    [⟨0,[1],.mk 9 2 0 [iM,i36]⟩],false⟩]⟩
theorem ui (b:Bool):(dw b).sane:=by
 cases b<;>exact⟨aI,aI,aI,aI,by decide+kernel,by decide+kernel,by decide+kernel,by decide+kernel,by decide+kernel⟩
theorem tu (b:Bool):aO (dw b)=true:=by cases b<;>decide+kernel
set_option maxHeartbeats 4000000 in
theorem O' (b:Bool):Den Γ G 347 [vb b]=some (zP (dw b)):=by
 have a:=r6 1 1;have c:=r6 2 2;have d:=r6 1 2;have e:=r6 0 2;have f:=kaa 0 2;have g:=yW 8 2 i36 (.mk 1 2 1 []);have h:=fun op=>yW op 1 i36 iM
 have i:=yW 9 2 iM i36;simp only[i36,iM,Expr.op,Expr.w,Expr.n,Expr.kids,be]at a c d e f g h i;cases b<;>refine aD (q:=?_)
 ·simp -dsimp -implicitDefEqProofs only[go_sem,seval,aZ,a,c,d,e,f,g,h,i];exact⟨rfl,rfl,rfl,rfl⟩
 ·simp -dsimp -implicitDefEqProofs only[go_sem,seval,aZ,a,c,d,e,f,g,h,i];exact⟨rfl,rfl,rfl,rfl⟩
theorem ka3 {l:List Int} {c:Int} (h:l.Pairwise (· < ·)) (a: ∀x,x∈l<->x=c):l=[c]:=by
 match l,h,a with
 | [],_,a=>have:=(a c).2 rfl;simp at this
 | [x],_,a=>rw[(a x).1 af]
 | x::y::l,h,a=>
   have b:=(a x).1 af;have d:=(a y).1 af;have:=(v8.1 h).1 y af;omega
theorem UV:Den Γ G 336 [(zP (dw false)),vi 0,vi 0]=some (.tup [vi 2,vi 0]):=by
 have c:=tu false;obtain⟨A,b⟩:=kaU (t:=0) (j:=0) c rfl rfl;have h:=b.hA;cases h;have a:=Y9 (dw false) (ui false) c (t:=0) (j:=0) rfl rfl b
 have i:kK (.mk 13 1 0 [i36,iM]) (.mk 9 2 0 [iM,i36])=[0]:=by
  refine ka3 (Vv _) fun x=> ?_
  rw[kK,Iu];have d:Expr.sup 2 (.mk 13 1 0 [i36,iM])=[0]:=by decide+kernel
  have e:Expr.sup 2 (.mk 9 2 0 [iM,i36])=[0]:=by decide+kernel
  rw[d,e];simp
 rw[i]at a;have f:cK (dw false) [0]=2:=by decide+kernel
 have g:zt (dw false) [0] (.mk 13 1 0 [i36,iM]) (.mk 9 2 0 [iM,i36])=2:=by decide+kernel
 rw[f,g]at a;exact a
def S1:List Choice:=[⟨0,0,0⟩,⟨0,1,0⟩,⟨0,0,0⟩,⟨0,1,0⟩,⟨0,2,0⟩]
theorem UX:Den Γ G 341 [(zP (dw false)),vi 0,.t (.sl (S1.map Choice.enc)),vi 0,vi 0]=some (.tup [vi 2,vi 0]):=by
 have h:=YG (dw false) (ui false) (tu false) 0 aI (t:=0) (j:=0) rfl rfl S1 aI (by decide+kernel);refine h.trans ?_;exact bz (fun x=>some (V.tup [vi x,vi 0])) (show _=(2:Int)by decide+kernel)
abbrev m8:Loop:=⟨0,[1],.mk 9 2 0 [iM,i36]⟩
def l36 (b:Bool):List Vis:=(dX (dw b) (if b then 0 else 1) 100).getD []
theorem yC (b:Bool) {l:List Vis} (h:dX (dw b) (if b then 0 else 1) 100=some l):l=l36 b:=by rw[l36,h];rfl
theorem QS (b:Bool):dX (dw b) (if b then 0 else 1) 100≠none:=by
 have : ∀b,(dX (dw b) (if b then 0 else 1) 100).isSome=true:=by decide+kernel
 intro h;have:=this b;rw[h]at this;cases this
theorem Gn: ∀u,u<(l36 false).length-> ∀e∈cn (dw false) 1 (l36 false) u,u<e.1:=by decide+kernel
theorem UQ {u v:Nat} (h:Rch (EI (dm (cn (dw false) 1 (l36 false))) (iR (l36 false) 0 m8)) u v):u<=v:=by
 induction h with
 | refl=>exact aA _
 | cons h _ d=>
   obtain⟨a,_,b⟩:=h;obtain⟨e,c,rfl⟩:=df.1 b;simp only[iR,zF,aR]at a;have:=Gn _ a.1 e c;omega
theorem kcm:Den Γ G 343 [(zP (dw false)),vi 1,vi 0,vi 0,vi 100]=some (.tup [.t (.sl []),.t (.sl []),vi 4]):=by
 rcases tq (dw false) (ui false) (tu false) 1 aI (t:=0) (j:=0) (lp:=m8) rfl rfl 100 aI aI with⟨h,_⟩ | ⟨l,c,⟨i,_,⟨_,_,u,e,b,a,_,_,d,_⟩,_⟩ | ⟨_,h⟩⟩
 ·exact absurd h (QS false)
 ·obtain rfl:=yC false c;simp only[iR,zF,aR]at a;have f:=Gn _ a.1 e b;have g:=UQ d.2;omega
 ·exact h
theorem kcl:Den Γ G 343 [(zP (dw true)),vi 0,vi 0,vi 0,vi 100]=some (.tup [.t (.sl []),.t (.sl ([⟨0,0,0⟩,⟨0,1,0⟩].map Choice.enc)),vi 0]):=by
 have a:jM (dw true) 0 (l36 true) 0 m8 0:=by
  have b:EI (dm (cn (dw true) 0 (l36 true))) (iR (l36 true) 0 m8) 0 1:=⟨by decide+kernel,by decide+kernel,by decide+kernel⟩
  have e:EI (dm (cn (dw true) 0 (l36 true))) (iR (l36 true) 0 m8) 1 0:=⟨by decide+kernel,by decide+kernel,by decide+kernel⟩
  have m:Mut (EI (dm (cn (dw true) 0 (l36 true))) (iR (l36 true) 0 m8)) 0 1:=⟨.cons b (.refl _),.cons e (.refl _)⟩
  exact⟨by decide+kernel,b.1,0,(1,⟨0,0,0⟩),by decide+kernel,b.1,b.2.1,by decide+kernel,m,.refl _,.refl _⟩
 rcases tq (dw true) (ui true) (tu true) 0 aI (t:=0) (j:=0) (lp:=m8) rfl rfl 100 aI aI with⟨h,_⟩ | ⟨l,d,⟨i,_,_,c,h⟩ | ⟨c,_⟩⟩
 ·exact absurd h (QS true)
 ·obtain rfl:=yC true d
  have hi:i=0:=by
   rcases nc i with h | h
   ·exact h
   ·exact absurd a (c 0 h)
  subst hi;refine h.trans ?_;have f:eN (cn (dw true) 0 (l36 true)) (l36 true).length 0 0=[]:=by decide+kernel
  have g:eN (jJ (dw true) 0 (l36 true) 0 m8) (2*(l36 true).length) (2*0) (2*0+1)=[⟨0,0,0⟩,⟨0,1,0⟩]:=by decide+kernel
  rw[f,g];rfl
 ·obtain rfl:=yC true d;exact absurd a (c 0 (by decide+kernel))
theorem Zr {r:V} {h:ae} {vs:List V} {K:V->ae->Prop} {w:WK K} (a: ∀h',K r h'):fU (some r) false h vs K w:=by
 unfold fU;simp only;split
 ·exact a _
 ·exact⟨fun h=>Bool.noConfusion h,a _⟩
theorem X1:Den Γ G 334 []=some (vb true):=by
 have b:=O' false;have a:=O' true;have c:=UV;have d:Den Γ G 341 [(zP (dw false)),vi 0,.t (.sl [[ti 0,ti 0,ti 0],[ti 0,ti 1,ti 0],[ti 0,ti 0,ti 0],[ti 0,ti 1,ti 0],[ti 0,ti 2,ti 0]]),vi 0,vi 0]=some (.tup [vi 2,vi 0]):=UX;have e:=kcm;have f:Den Γ G 343 [(zP (dw true)),vi 0,vi 0,vi 0,vi 100]=some (.tup [.t (.sl []),.t (.sl [[ti 0,ti 0,ti 0],[ti 0,ti 1,ti 0]]),vi 0]):=kcl;have g:Den Γ G 40 [.t (.sl [[ti 0,ti 0,ti 0],[ti 0,ti 1,ti 0]]),.t (.sl [[ti 0,ti 0,ti 0],[ti 0,ti 1,ti 0]])]=some (vb true):=(tc [⟨0,0,0⟩,⟨0,1,0⟩] [⟨0,0,0⟩,⟨0,1,0⟩] aI).trans rfl
 refine aD (q:=?_)
 simp -dsimp -implicitDefEqProofs only[go_sem,seval,aZ,b,a,c,d];refine Zr fun h'=> ?_
 simp -dsimp -implicitDefEqProofs only[go_sem,seval,aZ,a,e,f,g]
end Rg
end
