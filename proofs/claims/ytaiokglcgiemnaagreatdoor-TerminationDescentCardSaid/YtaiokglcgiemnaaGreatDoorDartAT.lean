/- Part of the proof of laws of relyguardlaw36. No condition. -/
import Derived.Test.YtaiokglcgiemnaaGreatDoorDartAS
import Derived.Test.YtaiokglcgiemnaaGreatDoorDartAP
set_option linter.unusedSimpArgs false
set_option linter.unusedVariables false
section
set_option maxRecDepth 100000
namespace Rg
open Go
def i36:Expr:=.mk 2 2 0 []
def zfn:Expr:=.mk 1 2 2 []
def zmP:Expr:=.mk 1 1 1 []
def ztJ (b:Bool):Expr:=if b then .mk 1 2 0 []else .mk 8 2 0 [i36,.mk 1 2 1 []]
def zBU (b:Bool):Prog:=
 ⟨[⟨bs [116,46,105],2,0,0,false,0⟩],[⟨bs [77],bs [111],.mk 0 0 0 [],zmP,[]⟩],[],
  [⟨bs [116],3,[.mk 13 1 0 [i36,zfn],zmP,zmP],[0,0,0],
    [⟨1,0,1,.mk 12 1 0 [i36,zfn],[],false,0,0⟩,⟨1,1,0,zmP,[⟨0,ztJ b⟩],false,0,0⟩,⟨1,0,2,.mk 11 1 0 [i36,zfn],[],false,0,0⟩],
    [⟨0,[1],.mk 9 2 0 [zfn,i36]⟩],false⟩]⟩
abbrev exV (b:Bool):V:=(zP (zBU b))
theorem zAh (b:Bool):(zBU b).sane:=by
 cases b<;>exact⟨by decide,by decide,by decide,by decide,by decide+kernel,by decide+kernel,by decide+kernel,by decide+kernel,by decide+kernel⟩
theorem zd3:zxL (zBU false)=(0,-1,-1)/\zxL (zBU true)=(0,-1,-1):=⟨by decide+kernel,by decide+kernel⟩
def k36:List (Nat×List V×V):=[(64,[exV false],.tup [vi 0,vi (-1),vi (-1)]),(64,[exV true],.tup [vi 0,vi (-1),vi (-1)])]
theorem zA9: ∀e∈k36,Den Γ G e.1 e.2.1=some e.2.2:=by
 intro e he;simp only[k36,List.mem_cons,List.not_mem_nil,or_false]at he;have h1:=zbM (zBU false) (zAh false);have h2:=zbM (zBU true) (zAh true);rw[zd3.1]at h1;rw[zd3.2]at h2;rcases he with rfl | rfl
 ·exact h1
 ·exact h2
theorem zsv:Den Γ G 347 [vb false]=some (exV false):=zd4 (zzM zA9) 3000 (by kernel_rfl)
theorem zsu:Den Γ G 347 [vb true]=some (exV true):=zd4 (zzM zA9) 3000 (by kernel_rfl)
theorem zm4 {l:List Int} {c:Int} (h:l.Pairwise (· < ·)) (hm: ∀x,x∈l<->x=c):l=[c]:=by
 match l,h,hm with
 | [],_,hm=>have:=(hm c).2 rfl;simp at this
 | [x],_,hm=>rw[(hm x).1 (by simp)]
 | x::y::l,h,hm=>
   have h1:=(hm x).1 (by simp);have h2:=(hm y).1 (by simp);have:=(List.pairwise_cons.1 h).1 y (by simp);omega
theorem zsB:Den Γ G 336 [exV false,vi 0,vi 0]=some (.tup [vi 2,vi 0]):=by
 have hf:zw6 (zBU false)=true:=by rw[zw6,zd3.1];rfl
 obtain⟨A,hL⟩:=zi6 (t:=0) (j:=0) hf rfl rfl;have hA:=hL.hA;cases hA;have hb:=zlW (zBU false) (zAh false) hf (t:=0) (j:=0) rfl rfl hL
 have hc:zxE (.mk 13 1 0 [i36,zfn]) (.mk 9 2 0 [zfn,i36])=[0]:=by
  refine zm4 (zyD _) fun x=> ?_
  rw[zxE,zeH];have e1:Expr.sup 2 (.mk 13 1 0 [i36,zfn])=[0]:=by decide+kernel
  have e2:Expr.sup 2 (.mk 9 2 0 [zfn,i36])=[0]:=by decide+kernel
  rw[e1,e2];simp
 rw[hc]at hb;have e3:zxf (zBU false) [0]=2:=by decide+kernel
 have e4:zoN (zBU false) [0] (.mk 13 1 0 [i36,zfn]) (.mk 9 2 0 [zfn,i36])=2:=by decide+kernel
 rw[e3,e4]at hb;exact hb
def zpn:V:=.t (.sl [[ti 0,ti 0,ti 0],[ti 0,ti 1,ti 0],[ti 0,ti 0,ti 0],[ti 0,ti 1,ti 0],[ti 0,ti 2,ti 0]])
theorem zr2:Den Γ G 341 [exV false,vi 0,zpn,vi 0,vi 0]=some (.tup [vi 2,vi 0]):=zd4 (zzM zA9) 3000 (by kernel_rfl)
end Rg
end
section
set_option maxRecDepth 100000
namespace Rg
open Go
theorem zpI:Den Γ G 343 [exV false,vi 1,vi 0,vi 0,vi 100]=some (.tup [.t (.sl []),.t (.sl []),vi 4]):=zd4 (zzM zA9) 3000 (by kernel_rfl)
end Rg
end
