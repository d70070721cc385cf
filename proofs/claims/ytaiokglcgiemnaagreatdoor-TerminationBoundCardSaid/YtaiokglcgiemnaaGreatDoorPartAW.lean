/- Part of the proof of the laws of the package relyguardlaw36: an abstract machine for the program's functions, what they compute, and that the machine is the program's. No condition. (H06c H06d H06e H06x H06y H06z) -/
import Derived.Test.YtaiokglcgiemnaaGreatDoorPartAV
set_option linter.unusedSimpArgs false
set_option linter.unusedVariables false
section
namespace Rg
open Go
theorem deep_den (d:Nat): ∀(e:Expr) (l:Int),l.toNat=d->l<=100->Den Γ G 68 [(.agg [.t (ti (e).op),.t (ti (e).w),.t (ti (e).n),.t (.sl ((e).kids.map (Expr.enc)))]),vi l]=some (vb (e.deep d)):=by
 induction d with
 | zero=>
   intro e l hl hl'
   (refine den_ofY Γ68 rfl ?_;dsimp only[f68])
   have h1:l<1:=by omega
   simp -dsimp -implicitDefEqProofs only[go_sem,seval,h1]
   rfl
 | succ d ih=>
   intro e l hl hl'
   (refine den_ofY Γ68 rfl ?_;dsimp only[f68])
   have h1: ¬l<1:=by omega
   have hn:=node_den e
   simp -dsimp -implicitDefEqProofs only[go_sem,seval,h1,hn]
   refine csplit (fun h=> ?_) (fun h=> ?_)<;>(try simp only[bools]at h)<;>(try simp -dsimp -implicitDefEqProofs only[go_sem,seval, *])
   ·simp only[Expr.deep,h,Bool.false_and]
   ·have hlen:=nodeOk_len h
    refine loopY 536862768 e.kids.length (fun i f=>(f 5).v=vi i/\(e.kids.take i).all (Expr.deep d)=true) rfl rfl ⟨by simp -dsimp -implicitDefEqProofs only[go_sem,seval],by simp⟩ ?_
    rintro i f u kk bb hi ⟨h5,hall⟩
    have hw:=wrapS i (by omega)
    simp -dsimp -implicitDefEqProofs only[go_sem,seval,h5]
    refine csplit (fun h=> ?_) (fun h=> ?_)<;>(try simp only[bools]at h)<;>(try simp -dsimp -implicitDefEqProofs only[go_sem,seval, *])
    ·obtain⟨x,hx,hm⟩:=get_of ‹i<e.kids.length›
     have hw1:IntKind.i64.wrap (l-1)=l-1:=wrap64 (by omega)
     have hd:=ih x (l-1) (by omega) (by omega)
     simp -dsimp -implicitDefEqProofs only[go_sem,seval,h5,hx,hw1,hd]
     refine csplit (fun h=> ?_) (fun h=> ?_)<;>(try simp only[bools]at h)<;>(try simp -dsimp -implicitDefEqProofs only[go_sem,seval, *])
     ·rw[Expr.deep,all_false_of hm h];simp
     ·exact⟨by omega,by simp -dsimp -implicitDefEqProofs only[go_sem,seval,hw],all_take_succ hx hall h⟩
    ·have:i=e.kids.length:=by omega
     subst this
     rw[List.take_length]at hall
     simp only[Expr.deep,hall,Bool.and_true];simp_all
def Expr.formed (e:Expr):Bool:=decide (e.size<=600)&&e.deep 40
theorem formed_den (e:Expr):Den Γ G 48 [(.agg [.t (ti (e).op),.t (ti (e).w),.t (ti (e).n),.t (.sl ((e).kids.map (Expr.enc)))])]=some (vb e.formed):=by
 (refine den_ofY Γ48 rfl ?_;dsimp only[f48])
 have h1:=size_den e 601 (by omega)
 have h2:=deep_den 40 e 40 rfl (by omega)
 simp -dsimp -implicitDefEqProofs only[go_sem,seval,h1,h2]
 refine csplit (fun h=> ?_) (fun h=> ?_)<;>(try simp only[bools]at h)<;>(try simp -dsimp -implicitDefEqProofs only[go_sem,seval, *])
 ·have:e.size<=600:=by omega
  simp[Expr.formed,this]
 ·have : ¬e.size<=600:=by omega
  simp[Expr.formed,this]
theorem small_den (e:Expr) (l:Int) (hl:0<=l/\l<10000):Den Γ G 23 [(.agg [.t (ti (e).op),.t (ti (e).w),.t (ti (e).n),.t (.sl ((e).kids.map (Expr.enc)))]),vi l]=some (vb (decide ((e.size:Int)<=l))):=by
 (refine den_ofY Γ23 rfl ?_;dsimp only[f23])
 have hw:IntKind.i64.wrap (l+1)=l+1:=wrap64 (by omega)
 have h1:=size_den e (l+1) (by omega)
 simp -dsimp -implicitDefEqProofs only[go_sem,seval,h1,hw]
 rw[if_neg (by omega)]
 simp;omega
def leafOk (cells:List Cell) (pair:Bool) (e:Expr):Bool:=
 if e.op=3/\pair=false then false
 else if(e.op=3\/e.op=2)then(match cells[e.n.toNat]? with | some c=>decide (c.w=e.w) | none=>false)
 else true
def Expr.nneg (e:Expr):Bool:=e.allE fun x=>decide (0<=x.n/\x.kids.length<=3)
theorem over_den (cells:List Cell) (pair:Bool) (e:Expr):e.nneg=true->Den Γ G 49 [(.agg [.t (ti (e).op),.t (ti (e).w),.t (ti (e).n),.t (.sl ((e).kids.map (Expr.enc)))]),.t (.sl (cells.map Cell.enc)),vb pair]=some (vb (e.allE (leafOk cells pair))):=by
 induction e using Expr.ind with
 | _ e ih=>
 intro hn
 have hn0:0<=e.n/\e.kids.length<=3:=by have:=Expr.allE_self hn;simpa using this
 (refine den_ofY Γ49 rfl ?_;dsimp only[f49])
 rcases hc:cells[e.n.toNat]? with _ | c
 ·have hge:e.n>=(cells.length:Int):=by rw[List.getElem?_eq_none_iff]at hc;omega
  simp -dsimp -implicitDefEqProofs only[go_sem,seval]
  repeat'(refine csplit (fun h=> ?_) (fun h=> ?_)<;>(try simp only[bools]at h)<;>(try simp -dsimp -implicitDefEqProofs only[go_sem,seval, *]))
  all_goals(try(rw[Expr.allE_eq];simp[leafOk, *];done))
  all_goals(
   refine loopY 144112989052600512 e.kids.length (fun i f=>(f 7).v=vi i/\(e.kids.take i).all (Expr.allE (leafOk cells pair))=true) rfl rfl ⟨by simp -dsimp -implicitDefEqProofs only[go_sem,seval],by simp⟩ ?_
   rintro i f u kk bb hi ⟨h5,hall⟩
   have hw:=wrapS i (by omega)
   simp -dsimp -implicitDefEqProofs only[go_sem,seval,h5]
   refine csplit (fun h=> ?_) (fun h=> ?_)<;>(try simp only[bools]at h)<;>(try simp -dsimp -implicitDefEqProofs only[go_sem,seval, *])
   ·obtain⟨x,hx,hm⟩:=get_of ‹i<e.kids.length›
    have hd:=ih x hm (Expr.allE_kid hn hm)
    simp -dsimp -implicitDefEqProofs only[go_sem,seval,h5,hx,hd]
    refine csplit (fun h=> ?_) (fun h=> ?_)<;>(try simp only[bools]at h)<;>(try simp -dsimp -implicitDefEqProofs only[go_sem,seval, *])
    ·subst_vars;rw[Expr.allE_eq,all_false_of hm h];simp
    ·exact⟨by omega,by simp -dsimp -implicitDefEqProofs only[go_sem,seval,hw],all_take_succ hx hall h⟩
   ·have:i=e.kids.length:=by omega
    subst this
    rw[List.take_length]at hall
    subst_vars;rw[Expr.allE_eq,hall];simp[leafOk, *])
 ·have hge: ¬e.n>=(cells.length:Int):=by
   have:=(List.getElem?_eq_some_iff.1 hc).1;omega
  simp -dsimp -implicitDefEqProofs only[go_sem,seval]
  repeat'(refine csplit (fun h=> ?_) (fun h=> ?_)<;>(try simp only[bools]at h)<;>(try simp -dsimp -implicitDefEqProofs only[go_sem,seval, *]))
  all_goals(try(rw[Expr.allE_eq];simp[leafOk, *];done))
  all_goals(
   refine loopY 144112989052600512 e.kids.length (fun i f=>(f 7).v=vi i/\(e.kids.take i).all (Expr.allE (leafOk cells pair))=true) rfl rfl ⟨by simp -dsimp -implicitDefEqProofs only[go_sem,seval],by simp⟩ ?_
   rintro i f u kk bb hi ⟨h5,hall⟩
   have hw:=wrapS i (by omega)
   simp -dsimp -implicitDefEqProofs only[go_sem,seval,h5]
   refine csplit (fun h=> ?_) (fun h=> ?_)<;>(try simp only[bools]at h)<;>(try simp -dsimp -implicitDefEqProofs only[go_sem,seval, *])
   ·obtain⟨x,hx,hm⟩:=get_of ‹i<e.kids.length›
    have hd:=ih x hm (Expr.allE_kid hn hm)
    simp -dsimp -implicitDefEqProofs only[go_sem,seval,h5,hx,hd]
    refine csplit (fun h=> ?_) (fun h=> ?_)<;>(try simp only[bools]at h)<;>(try simp -dsimp -implicitDefEqProofs only[go_sem,seval, *])
    ·subst_vars;rw[Expr.allE_eq,all_false_of hm h];simp
    ·exact⟨by omega,by simp -dsimp -implicitDefEqProofs only[go_sem,seval,hw],all_take_succ hx hall h⟩
   ·have:i=e.kids.length:=by omega
    subst this
    rw[List.take_length]at hall
    subst_vars;rw[Expr.allE_eq,hall];simp[leafOk, *])
theorem nodeOk_n {e:Expr} (h:nodeOk e=true):0<=e.n:=by
 unfold nodeOk at h
 split at h
 ·simp at h
 ·grind
theorem deep_nneg (d:Nat): ∀e:Expr,e.deep d=true->e.nneg=true:=by
 induction d with
 | zero=>intro e h;simp[Expr.deep]at h
 | succ d ih=>
   intro e h
   simp only[Expr.deep,Bool.and_eq_true,List.all_eq_true]at h
   unfold Expr.nneg
   rw[Expr.allE_eq]
   simp only[Bool.and_eq_true,List.all_eq_true,decide_eq_true_eq]
   exact⟨⟨nodeOk_n h.1,nodeOk_len h.1⟩,fun k hk=>ih k (h.2 k hk)⟩
theorem formed_nneg {e:Expr} (h:e.formed=true):e.nneg=true:=by
 simp only[Expr.formed,Bool.and_eq_true]at h
 exact deep_nneg 40 e h.2
def Expr.valid (e:Expr) (cells:List Cell) (pair:Bool):Bool:=e.formed&&e.allE (leafOk cells pair)
theorem validE_den (e:Expr) (cells:List Cell) (pair:Bool):Den Γ G 24 [(.agg [.t (ti (e).op),.t (ti (e).w),.t (ti (e).n),.t (.sl ((e).kids.map (Expr.enc)))]),.t (.sl (cells.map Cell.enc)),vb pair]=some (vb (e.valid cells pair)):=by
 (refine den_ofY Γ24 rfl ?_;dsimp only[f24])
 have h1:=formed_den e
 by_cases hf:e.formed=true
 ·have h2:=over_den cells pair e (formed_nneg hf)
  simp -dsimp -implicitDefEqProofs only[go_sem,seval,h1,h2,hf]
  simp[Expr.valid,hf]
 ·have hf:e.formed=false:=by simpa using hf
  simp -dsimp -implicitDefEqProofs only[go_sem,seval,h1,hf]
  simp[Expr.valid,hf]
theorem and_mask (a w:Int) (hw:0<=w/\w<=62):IntKind.i64.wrap ((BitVec.ofInt IntKind.i64.bits a&&& BitVec.ofInt IntKind.i64.bits (2^w.toNat-1)).toNat)=a % 2^w.toNat:=by
 have hp:=pow2_pos w.toNat
 have hb:(BitVec.ofInt 64 a&&& BitVec.ofInt 64 (2^w.toNat-1)).toNat=(a % 2^w.toNat).toNat:=by
  have hk:w.toNat<=62:=by omega
  generalize w.toNat=k at hk
  have e1:(2:Int)^k-1=((2^k-1:Nat):Int):=by
   have:0<2^k:=Nat.pow_pos (by omega)
   rw[Int.ofNat_sub this];simp
  have hlt:2^k<=2^62:=Nat.pow_le_pow_right (by omega) hk
  have e2:(BitVec.ofInt 64 ((2:Int)^k-1)).toNat=2^k-1:=by
   rw[e1]
   simp only[BitVec.toNat_ofInt]
   rw[show(((2^64:Nat):Int))=((2^64:Nat):Int)from rfl,<- Int.natCast_emod,Int.toNat_natCast,Nat.mod_eq_of_lt (by omega)]
  rw[BitVec.toNat_and,e2,Nat.and_two_pow_sub_one_eq_mod,BitVec.toNat_ofInt]
  have hd:(2:Int)^k ∣ ((2^64:Nat):Int):=by
   have:(2:Nat)^k ∣ 2^64:=Nat.pow_dvd_pow 2 (by omega)
   exact_mod_cast this
  have h64:0<=a % ((2^64:Nat):Int):=Int.emod_nonneg _ (by omega)
  have hp':(0:Int)<2^k:=pow2_pos k
  have:(((a % ((2^64:Nat):Int)).toNat % 2^k:Nat):Int)=a % 2^k:=by
   rw[Int.natCast_emod,Int.toNat_of_nonneg h64]
   rw[show((2^k:Nat):Int)=(2:Int)^k by simp]
   exact Int.emod_emod_of_dvd a hd
  omega
 show IntKind.i64.wrap ((BitVec.ofInt 64 a&&& BitVec.ofInt 64 (2^w.toNat-1)).toNat)=_
 rw[hb]
 have h1:=Int.emod_nonneg a (show(2:Int)^w.toNat≠0 by omega)
 have h2:=Int.emod_lt_of_pos a hp
 have h3:=pow2_le (i:=w.toNat) (k:=62) (by omega)
 rw[wrap64 (by omega)];omega
theorem low_den (n w:Int) (hw:0<=w/\w<=62):Den Γ G 117 [vi n,vi w]=some (vi (n % 2^w.toNat)):=by
 (refine den_ofY Γ117 rfl ?_;dsimp only[f117])
 have h1:=power_den w (by omega)
 have h2:=pow2_le (i:=w.toNat) (k:=62) (by omega)
 have h3:=pow2_pos w.toNat
 have hw1:IntKind.i64.wrap ((2:Int)^w.toNat-1)=2^w.toNat-1:=wrap64 (by omega)
 simp -dsimp -implicitDefEqProofs only[go_sem,seval,h1,hw1]
 exact and_mask n w hw
def atI (l:List Int) (n:Int):Int:=l.getD n.toNat 0
theorem at_den (l:List Int) (n:Int) (hn:0<=n):Den Γ G 118 [.t (ints l),vi n]=some (vi (atI l n)):=by
 (refine den_ofY Γ118 rfl ?_;dsimp only[f118])
 rcases hc:l[n.toNat]? with _ | c
 ·have hge: ¬n<(l.length:Int):=by rw[List.getElem?_eq_none_iff]at hc;omega
  simp -dsimp -implicitDefEqProofs only[go_sem,seval,hge]
  simp[atI,List.getD,hc]
 ·have hge:n<(l.length:Int):=by have:=(List.getElem?_eq_some_iff.1 hc).1;omega
  simp -dsimp -implicitDefEqProofs only[go_sem,seval,hge,hn,hc]
  simp[atI,List.getD,hc]
end Rg
end
section
namespace Rg
open Go
theorem bits_nat {a:Int} (h:0<=a/\a<2^62):(BitVec.ofInt 64 a).toNat=a.toNat:=by
 simp only[BitVec.toNat_ofInt];omega
theorem and_small {a b:Int} (ha:0<=a/\a<2^62) (hb:0<=b/\b<2^62):IntKind.i64.wrap ((BitVec.ofInt IntKind.i64.bits a&&& BitVec.ofInt IntKind.i64.bits b).toNat)=((a.toNat&&& b.toNat:Nat):Int):=by
 show IntKind.i64.wrap ((BitVec.ofInt 64 a&&& BitVec.ofInt 64 b).toNat)=_
 rw[BitVec.toNat_and,bits_nat ha,bits_nat hb]
 have:a.toNat&&& b.toNat<=a.toNat:=Nat.and_le_left
 exact wrap64 (by omega)
theorem or_small {a b:Int} (ha:0<=a/\a<2^62) (hb:0<=b/\b<2^62):IntKind.i64.wrap ((BitVec.ofInt IntKind.i64.bits a ||| BitVec.ofInt IntKind.i64.bits b).toNat)=((a.toNat ||| b.toNat:Nat):Int):=by
 show IntKind.i64.wrap ((BitVec.ofInt 64 a ||| BitVec.ofInt 64 b).toNat)=_
 rw[BitVec.toNat_or,bits_nat ha,bits_nat hb]
 have:a.toNat ||| b.toNat<2^62:=Nat.or_lt_two_pow (by omega) (by omega)
 exact wrap64 (by omega)
theorem xor_small {a b:Int} (ha:0<=a/\a<2^62) (hb:0<=b/\b<2^62):IntKind.i64.wrap ((BitVec.ofInt IntKind.i64.bits a^^^ BitVec.ofInt IntKind.i64.bits b).toNat)=((a.toNat^^^ b.toNat:Nat):Int):=by
 show IntKind.i64.wrap ((BitVec.ofInt 64 a^^^ BitVec.ofInt 64 b).toNat)=_
 rw[BitVec.toNat_xor,bits_nat ha,bits_nat hb]
 have:a.toNat^^^ b.toNat<2^62:=Nat.xor_lt_two_pow (by omega) (by omega)
 exact wrap64 (by omega)
def opv (op w a b c:Int):Int:=
 if op=4 then 2^w.toNat-1-a
 else if op=5 then((a.toNat&&& b.toNat:Nat):Int)
 else if op=6 then((a.toNat ||| b.toNat:Nat):Int)
 else if op=7 then((a.toNat^^^ b.toNat:Nat):Int)
 else if op=8 then(a+b) % 2^w.toNat
 else if op=9 then(a-b) % 2^w.toNat
 else if op=10 then a*b % 2^w.toNat
 else if op=11 then(if a=b then 1 else 0)
 else if op=12 then(if a<b then 1 else 0)
 else if op=13 then(if a<=b then 1 else 0)
 else(if a=1 then b else c)
def kidsFit (e:Expr) (v:List Int):Prop:=nodeOk e=true/\v.length=e.kids.length/\(∀x∈v,0<=x/\x<256)/\(e.op=14->v.getD 0 0=0\/v.getD 0 0=1)
def appV (e:Expr) (v:List Int):Int:=if e.op=1 then e.n else opv e.op e.w (v.getD 0 0) (v.getD 1 0) (v.getD 2 0)
set_option maxHeartbeats 2000000 in
theorem apply_den (e:Expr) (v:List Int) (h:kidsFit e v) (h23:e.op≠2/\e.op≠3):Den Γ G 119 [(.agg [.t (ti (e).op),.t (ti (e).w),.t (ti (e).n),.t (.sl ((e).kids.map (Expr.enc)))]),.t (ints v)]=some (vi (appV e v)):=by
 obtain⟨hn,hl,hv,h14⟩:=h
 obtain⟨op,w,n,ks⟩:=e
 simp only[Expr.op_mk,Expr.kids_mk]at *
 have hk:arity op=(ks.length:Int):=by
  unfold nodeOk at hn;simp only[Expr.op_mk,Expr.kids_mk]at hn;grind
 have hw:1<=w/\w<=8:=by
  unfold nodeOk at hn;simp only[Expr.w_mk]at hn;grind
 have hp:=power_den w (by omega)
 have hp8:(2:Int)^w.toNat<=2^8:=pow2_le (by omega)
 have hp0:=pow2_pos w.toNat
 (refine den_ofY Γ119 rfl ?_;dsimp only[f119])
 rcases op_cases op with rfl | rfl | rfl | rfl | rfl | rfl | rfl | rfl | rfl | rfl | rfl | rfl | rfl | rfl | hop
 rotate_right
 ·rw[arity_bad hop]at hk;omega
 all_goals(try(exfalso;simp at h23;done))
 all_goals(
  rcases v with _ | ⟨a,_ | ⟨b,_ | ⟨c,_ | ⟨d,r⟩⟩⟩⟩
  all_goals(try(exfalso;simp[arity]at hk hl;(try omega);done)))
 all_goals(try(have ha:=hv a (by simp)))
 all_goals(try(have hb:=hv b (by simp)))
 all_goals(try(have hc:=hv c (by simp)))
 all_goals(try(have hlow:=low_den (a+b) w (by omega)))
 all_goals(try(have hlow2:=low_den (a-b+2^w.toNat) w (by omega)))
 all_goals(try(have hlow3:=low_den (a*b) w (by omega)))
 all_goals(try(have hmul:0<=a*b/\a*b<=65536:=⟨Int.mul_nonneg ha.1 hb.1,by
  have h1:a*b<=256*b:=Int.mul_le_mul_of_nonneg_right (by omega) hb.1
  omega⟩))
 all_goals(try(have hw1:IntKind.i64.wrap (a+b)=a+b:=wrap64 (by omega)))
 all_goals(try(have hw2:IntKind.i64.wrap (a-b)=a-b:=wrap64 (by omega)))
 all_goals(try(have hw3:IntKind.i64.wrap (a-b+2^w.toNat)=a-b+2^w.toNat:=wrap64 (by omega)))
 all_goals(try(have hw4:IntKind.i64.wrap (a*b)=a*b:=wrap64 (by omega)))
 all_goals(try(have hw5:IntKind.i64.wrap (2^w.toNat-1)=2^w.toNat-1:=wrap64 (by omega)))
 all_goals(try(have hw6:IntKind.i64.wrap (2^w.toNat-1-a)=2^w.toNat-1-a:=wrap64 (by omega)))
 all_goals(try(have hw7:IntKind.i64.wrap (2-a)=2-a:=wrap64 (by omega)))
 all_goals(try(have hand:=and_small (a:=a) (b:=b) (by omega) (by omega)))
 all_goals(try(have hor:=or_small (a:=a) (b:=b) (by omega) (by omega)))
 all_goals(try(have hxor:=xor_small (a:=a) (b:=b) (by omega) (by omega)))
 all_goals(try(rcases h14 rfl with h14 | h14<;>simp only[List.getD_cons_zero]at h14<;>subst h14))
 all_goals simp -dsimp -implicitDefEqProofs only[go_sem,seval, *]
 all_goals repeat'(refine csplit (fun h=> ?_) (fun h=> ?_)<;>(try simp only[bools]at h)<;>(try simp -dsimp -implicitDefEqProofs only[go_sem,seval, *]))
 all_goals(try(simp[appV,opv,go_sem, *];done))
 all_goals(try(simp only[appV,opv,go_sem];grind))
end Rg
end
section
-- FULL
-- APPS
namespace Rg
open Go
namespace Expr
mutual
def ev (old now:List Int):Expr->Int
 | .mk op w n ks=>if op=1 then n else if op=2 then atI now n % 2^w.toNat else if op=3 then atI old n % 2^w.toNat
   else opv op w ((evs old now ks).getD 0 0) ((evs old now ks).getD 1 0) ((evs old now ks).getD 2 0)
def evs (old now:List Int):List Expr->List Int
 | []=>[]
 | e::r=>ev old now e::evs old now r
end
theorem evs_eq (old now:List Int): ∀l:List Expr,evs old now l=l.map (ev old now)
 | []=>rfl
 | e::r=>by rw[evs,evs_eq old now r];rfl
theorem ev_eq (old now:List Int) (e:Expr):ev old now e=if e.op=1 then e.n else if e.op=2 then atI now e.n % 2^e.w.toNat else if e.op=3 then atI old e.n % 2^e.w.toNat
 else opv e.op e.w ((e.kids.map (ev old now)).getD 0 0) ((e.kids.map (ev old now)).getD 1 0) ((e.kids.map (ev old now)).getD 2 0):=by
 cases e;simp only[ev,evs_eq,op,w,n,kids];rfl
end Expr
theorem deep_node {d:Nat} {e:Expr} (h:e.deep d=true):nodeOk e=true:=by
 cases d with
 | zero=>simp[Expr.deep]at h
 | succ d=>simp only[Expr.deep,Bool.and_eq_true]at h;exact h.1
theorem deep_kid {d:Nat} {e k:Expr} (h:e.deep (d+1)=true) (hk:k∈e.kids):k.deep d=true:=by
 simp only[Expr.deep,Bool.and_eq_true,List.all_eq_true]at h;exact h.2 k hk
theorem node_w {e:Expr} (h:nodeOk e=true):1<=e.w/\e.w<=8:=by
 unfold nodeOk at h;grind
theorem node_arity {e:Expr} (h:nodeOk e=true):arity e.op=(e.kids.length:Int):=by
 unfold nodeOk at h;grind
theorem and_bound {a b:Nat} {k:Nat} (ha:a<2^k):a&&& b<2^k:=Nat.lt_of_le_of_lt Nat.and_le_left ha
theorem ev_bound (old now:List Int) (d:Nat): ∀e:Expr,e.deep d=true->0<=e.ev old now/\e.ev old now<2^e.w.toNat:=by
 induction d with
 | zero=>intro e h;simp[Expr.deep]at h
 | succ d ih=>
   intro e h
   have hn:=deep_node h
   have hw:=node_w hn
   have ha:=node_arity hn
   have hk: ∀k∈e.kids,0<=k.ev old now/\k.ev old now<2^k.w.toNat:=fun k hk=>ih k (deep_kid h hk)
   have hp0:=pow2_pos e.w.toNat
   have hp2:(2:Int)<=2^e.w.toNat:=by have:=pow2_le (i:=1) (k:=e.w.toNat) (by omega);simpa using this
   rw[Expr.ev_eq]
   obtain⟨op,w,n,ks⟩:=e
   simp only[Expr.op_mk,Expr.w_mk,Expr.n_mk,Expr.kids_mk]at *
   have hm: ∀a:Int,0<=a % 2^w.toNat/\a % 2^w.toNat<2^w.toNat:=fun a=>⟨Int.emod_nonneg _ (by omega),Int.emod_lt_of_pos _ hp0⟩
   have hcast:((2^w.toNat:Nat):Int)=2^w.toNat:=by simp
   rcases op_cases op with rfl | rfl | rfl | rfl | rfl | rfl | rfl | rfl | rfl | rfl | rfl | rfl | rfl | rfl | hop
   rotate_right
   ·rw[arity_bad hop]at ha;omega
   all_goals(
    rcases ks with _ | ⟨a,_ | ⟨b,_ | ⟨c,_ | ⟨d,r⟩⟩⟩⟩
    all_goals(try(exfalso;simp[arity]at ha;(try omega);done)))
   all_goals(try(have hka:=hk a (by simp)))
   all_goals(try(have hkb:=hk b (by simp)))
   all_goals(try(have hkc:=hk c (by simp)))
   all_goals simp[nodeOk,Expr.kw,go_sem,arity]at hn
   all_goals simp[opv,go_sem]
   ·exact of_decide_eq_true hn.2
   ·exact hm _
   ·exact hm _
   ·rw[hn.2.2]at hka;omega
   ·rw[hn.2.2.1]at hka;have:=and_bound (b:=(b.ev old now).toNat) (k:=w.toNat) (show(a.ev old now).toNat<2^w.toNat by omega);omega
   ·rw[hn.2.2.1]at hka;rw[hn.2.2.2]at hkb;have:=Nat.or_lt_two_pow (n:=w.toNat) (x:=(a.ev old now).toNat) (y:=(b.ev old now).toNat) (by omega) (by omega);omega
   ·rw[hn.2.2.1]at hka;rw[hn.2.2.2]at hkb;have:=Nat.xor_lt_two_pow (n:=w.toNat) (x:=(a.ev old now).toNat) (y:=(b.ev old now).toNat) (by omega) (by omega);omega
   ·exact hm _
   ·exact hm _
   ·exact hm _
   ·split<;>omega
   ·split<;>omega
   ·split<;>omega
   ·rw[hn.2.2.2.1]at hkb;rw[hn.2.2.2.2]at hkc;split<;>omega
theorem kids_fit {d:Nat} {e:Expr} (old now:List Int) (h:e.deep (d+1)=true):kidsFit e (e.kids.map (Expr.ev old now)):=by
 have hn:=deep_node h
 refine⟨hn,by simp,?_,?_⟩
 ·intro x hx
  obtain⟨k,hk,rfl⟩:=List.mem_map.1 hx
  have h1:=ev_bound old now d k (deep_kid h hk)
  have h2:=node_w (deep_node (deep_kid h hk))
  have h3:=pow2_le (i:=k.w.toNat) (k:=8) (by omega)
  omega
 ·intro h14
  have ha:=node_arity hn
  obtain⟨op,w,n,ks⟩:=e
  simp only[Expr.op_mk,Expr.kids_mk]at *
  subst h14
  rcases ks with _ | ⟨a,_ | ⟨b,_ | ⟨c,_ | ⟨d,r⟩⟩⟩⟩
  all_goals(try(exfalso;simp[arity]at ha;(try omega);done))
  have h1:=ev_bound old now _ a (deep_kid h (by simp[Expr.kids_mk]))
  simp[nodeOk,Expr.kw,go_sem,arity]at hn
  rw[hn.2.2.1,show(2:Int)^(Int.toNat 1)=2 from rfl]at h1
  show _\/_
  simp only[List.map_cons,List.getD_cons_zero];omega
theorem appV_ev {e:Expr} (old now:List Int) (h23:e.op≠2/\e.op≠3):appV e (e.kids.map (Expr.ev old now))=e.ev old now:=by
 rw[Expr.ev_eq,appV,if_neg h23.1,if_neg h23.2]
set_option maxHeartbeats 2000000 in
theorem value_den (old now:List Int) (d:Nat): ∀e:Expr,e.deep d=true->Den Γ G 90 [(.agg [.t (ti (e).op),.t (ti (e).w),.t (ti (e).n),.t (.sl ((e).kids.map (Expr.enc)))]),.t (ints old),.t (ints now)]=some (vi (e.ev old now)):=by
 induction d with
 | zero=>intro e h;simp[Expr.deep]at h
 | succ d ih=>
   intro e h
   have hn:=deep_node h
   have hw:=node_w hn
   have hn0:=nodeOk_n hn
   have ha:=node_arity hn
   have hl3:=nodeOk_len hn
   (refine den_ofY Γ90 rfl ?_;dsimp only[f90])
   by_cases h2:e.op=2
   ·have h3:=at_den now e.n hn0
    have h4:=low_den (atI now e.n) e.w (by omega)
    simp -dsimp -implicitDefEqProofs [go_sem,appS,h2,h3,h4]
    rw[Expr.ev_eq,if_neg (by omega),if_pos h2]
   ·by_cases h3:e.op=3
    ·have h3':=at_den old e.n hn0
     have h4:=low_den (atI old e.n) e.w (by omega)
     simp -dsimp -implicitDefEqProofs [go_sem,appS,h3,h3',h4]
     rw[Expr.ev_eq,if_neg (by omega),if_neg h2,if_pos h3]
    ·have hap:=apply_den e (e.kids.map (Expr.ev old now)) (kids_fit old now h) ⟨h2,h3⟩
     rw[appV_ev old now ⟨h2,h3⟩]at hap
     have hk: ∀k∈e.kids,Den Γ G 90 [(.agg [.t (ti (k).op),.t (ti (k).w),.t (ti (k).n),.t (.sl ((k).kids.map (Expr.enc)))]),.t (ints old),.t (ints now)]=some (vi (k.ev old now)):=fun k hk=>ih k (deep_kid h hk)
     simp -dsimp -implicitDefEqProofs [go_sem,appS,h2,h3]
     generalize he:e.kids=ks at *
     rcases ks with _ | ⟨a,_ | ⟨b,_ | ⟨c,_ | ⟨d,r⟩⟩⟩⟩
     ·simp only[ints,List.map_nil]at hap
      refine wL_step ?_
      simp -dsimp -implicitDefEqProofs [go_sem,appS,he,hap]
     ·have hka:=hk a (by simp)
      simp only[ints,List.map_nil,List.map_cons,Expr.enc_eq]at hap
      refine wL_step ?_
      simp -dsimp -implicitDefEqProofs [go_sem,appS,he,hka]
      refine wL_step ?_
      simp -dsimp -implicitDefEqProofs [go_sem,appS,he,hap]
     ·have hka:=hk a (by simp)
      have hkb:=hk b (by simp)
      simp only[ints,List.map_nil,List.map_cons,Expr.enc_eq]at hap
      refine wL_step ?_
      simp -dsimp -implicitDefEqProofs [go_sem,appS,he,hka]
      refine wL_step ?_
      simp -dsimp -implicitDefEqProofs [go_sem,appS,he,hkb]
      refine wL_step ?_
      simp -dsimp -implicitDefEqProofs [go_sem,appS,he,hap]
     ·have hka:=hk a (by simp)
      have hkb:=hk b (by simp)
      have hkc:=hk c (by simp)
      simp only[ints,List.map_nil,List.map_cons,Expr.enc_eq]at hap
      refine wL_step ?_
      simp -dsimp -implicitDefEqProofs [go_sem,appS,he,hka]
      refine wL_step ?_
      simp -dsimp -implicitDefEqProofs [go_sem,appS,he,hkb]
      refine wL_step ?_
      simp -dsimp -implicitDefEqProofs [go_sem,appS,he,hkc]
      refine wL_step ?_
      simp -dsimp -implicitDefEqProofs [go_sem,appS,he,hap]
     ·exfalso;simp at hl3
def Expr.eval (e:Expr) (old now:List Int):Int:=if e.formed then e.ev old now else 0
theorem formed_deep {e:Expr} (h:e.formed=true):e.deep 40=true:=by
 simp only[Expr.formed,Bool.and_eq_true]at h;exact h.2
theorem const_den (n w:Int):Den Γ G 61 [vi n,vi w]=some (.agg [.t (ti (Expr.mk 1 w n []).op),.t (ti (Expr.mk 1 w n []).w),.t (ti (Expr.mk 1 w n []).n),.t (.sl ((Expr.mk 1 w n []).kids.map (Expr.enc)))]):=by
 (refine den_ofY Γ61 rfl ?_;dsimp only[f61])
 simp -dsimp -implicitDefEqProofs [go_sem,appS,List.map_nil,and_self]
end Rg
end
section
namespace Rg
open Go
theorem wide_den (ks:List Expr) (ws:List Int) (hl:ws.length<=3):Den Γ G 91 [.t (.sl (ks.map Expr.enc)),.t (ints ws)]=some (vb (decide (ks.map Expr.w=ws))):=by
 (refine den_ofY Γ91 rfl ?_;dsimp only[f91])
 simp -dsimp -implicitDefEqProofs only[go_sem,seval]
 refine csplit (fun h=> ?_) (fun h=> ?_)<;>(try simp only[bools]at h)<;>(try simp -dsimp -implicitDefEqProofs only[go_sem,seval, *])
 ·have : ¬ks.map Expr.w=ws:=fun he=>by have:=congrArg List.length he;simp at this;omega
  simp[this]
 ·have hlen:ks.length=ws.length:=by omega
  refine loopY 134201456 ws.length (fun i f=>(f 14).v=vi i/\(ks.take i).map Expr.w=ws.take i) rfl rfl ⟨by simp -dsimp -implicitDefEqProofs only[go_sem,seval],by simp⟩ ?_
  rintro i f u kk bb hi ⟨h14,ht⟩
  have hw:=wrapS i (by omega)
  simp -dsimp -implicitDefEqProofs only[go_sem,seval,h14]
  refine csplit (fun h=> ?_) (fun h=> ?_)<;>(try simp only[bools]at h)<;>(try simp -dsimp -implicitDefEqProofs only[go_sem,seval, *])
  ·have hx:ws[i]? =some ws[i]:=List.getElem?_eq_getElem (by omega)
   have hy:ks[i]? =some ks[i]:=List.getElem?_eq_getElem (by omega)
   simp -dsimp -implicitDefEqProofs only[go_sem,seval,h14,hx,hy]
   refine csplit (fun h=> ?_) (fun h=> ?_)<;>(try simp only[bools]at h)<;>(try simp -dsimp -implicitDefEqProofs only[go_sem,seval, *])
   ·have : ¬ks.map Expr.w=ws:=fun he=>by
     have:=congrArg (fun l=>l[i]?) he
     simp only[List.getElem?_map,hx,hy,Option.map_some,Option.some.injEq]at this
     contradiction
    simp[this]
   ·refine⟨by omega,by simp -dsimp -implicitDefEqProofs only[go_sem,seval,hw],?_⟩
    rw[take_succ_of hx,take_succ_of hy,List.map_append,ht]
    simp[h]
  ·have:i=ws.length:=by omega
   subst this
   rw[List.take_length,<- hlen,List.take_length]at ht
   simp[ht]
@[go_sem]theorem G_0:G 0=[ti 0,ti 1,ti 3,ti 7,ti 15,ti 31,ti 63,ti 127,ti 255]:=rfl
theorem mask_cases {w:Int} (h:1<=w/\w<=8):w=1\/w=2\/w=3\/w=4\/w=5\/w=6\/w=7\/w=8:=by omega
theorem arity_two {op:Int} (h:5<=op/\op<=13):arity op=2:=by unfold arity;grind
theorem nodeOk_mk (op w n:Int) (ks:List Expr):nodeOk (.mk op w n ks)=
 if arity op≠ks.length\/w<1\/w>8 then false
 else if op=1 then decide (0<=n/\n<2^w.toNat)
 else if op=2\/op=3 then decide (0<=n/\n<32)
 else if op=4 then decide (n=0/\(Expr.mk op w n ks).kw 0=w)
 else if op=11\/op=12\/op=13 then decide (n=0/\w=1/\(Expr.mk op w n ks).kw 0=(Expr.mk op w n ks).kw 1)
 else if op=14 then decide (n=0/\(Expr.mk op w n ks).kw 0=1/\(Expr.mk op w n ks).kw 1=w/\(Expr.mk op w n ks).kw 2=w)
 else decide (n=0/\(Expr.mk op w n ks).kw 0=w/\(Expr.mk op w n ks).kw 1=w):=rfl
theorem kw_0 (op w n:Int) (a:Expr) (r:List Expr):(Expr.mk op w n (a::r)).kw 0=a.w:=rfl
theorem kw_1 (op w n:Int) (a b:Expr) (r:List Expr):(Expr.mk op w n (a::b::r)).kw 1=b.w:=rfl
theorem kw_2 (op w n:Int) (a b c:Expr) (r:List Expr):(Expr.mk op w n (a::b::c::r)).kw 2=c.w:=rfl
theorem nodeOk_bin {op w n:Int} {ks:List Expr} (h:5<=op/\op<=10) (hw:1<=w/\w<=8):nodeOk (.mk op w n ks)=decide (n=0/\ks.map Expr.w=[w,w]):=by
 rw[nodeOk_mk,arity_two (show 5<=op/\op<=13 by omega),if_neg (show ¬op=1 by omega),if_neg (show ¬(op=2\/op=3)by omega),if_neg (show ¬op=4 by omega),if_neg (show ¬(op=11\/op=12\/op=13)by omega),if_neg (show ¬op=14 by omega)]
 rcases ks with _ | ⟨a,_ | ⟨b,_ | ⟨c,r⟩⟩⟩
 ·rw[if_pos (by simp)];simp
 ·rw[if_pos (by simp)];simp
 ·rw[if_neg (by simp;omega),kw_0,kw_1];simp
 ·rw[if_pos (by simp;omega)];simp
theorem nodeOk_cmp {op w n:Int} {ks:List Expr} (h:11<=op/\op<=13) (hw:1<=w/\w<=8):nodeOk (.mk op w n ks)=decide (n=0/\w=1/\ks.length=2/\(Expr.mk op w n ks).kw 0=(Expr.mk op w n ks).kw 1):=by
 rw[nodeOk_mk,arity_two (show 5<=op/\op<=13 by omega),if_neg (show ¬op=1 by omega),if_neg (show ¬(op=2\/op=3)by omega),if_neg (show ¬op=4 by omega),if_pos (show(op=11\/op=12\/op=13)by omega)]
 by_cases hl:ks.length=2
 ·rw[if_neg (by omega)];simp[hl]
 ·rw[if_pos (by omega)];simp[hl]
theorem nodeOk_not {w n:Int} {ks:List Expr} (hw:1<=w/\w<=8):nodeOk (.mk 4 w n ks)=decide (n=0/\ks.map Expr.w=[w]):=by
 rw[nodeOk_mk,show arity 4=1 from rfl,if_neg (show ¬(4:Int)=1 by omega),if_neg (show ¬((4:Int)=2\/(4:Int)=3)by omega),if_pos rfl]
 rcases ks with _ | ⟨a,_ | ⟨b,r⟩⟩
 ·rw[if_pos (by simp)];simp
 ·rw[if_neg (by simp;omega),kw_0];simp
 ·rw[if_pos (by simp;omega)];simp
theorem nodeOk_ite {w n:Int} {ks:List Expr} (hw:1<=w/\w<=8):nodeOk (.mk 14 w n ks)=decide (n=0/\ks.map Expr.w=[1,w,w]):=by
 rw[nodeOk_mk,show arity 14=3 from rfl,if_neg (show ¬(14:Int)=1 by omega),if_neg (show ¬((14:Int)=2\/(14:Int)=3)by omega),if_neg (show ¬(14:Int)=4 by omega),if_neg (show ¬((14:Int)=11\/(14:Int)=12\/(14:Int)=13)by omega),if_pos rfl]
 rcases ks with _ | ⟨a,_ | ⟨b,_ | ⟨c,_ | ⟨d,r⟩⟩⟩⟩
 ·rw[if_pos (by simp)];simp
 ·rw[if_pos (by simp)];simp
 ·rw[if_pos (by simp)];simp
 ·rw[if_neg (by simp;omega),kw_0,kw_1,kw_2];simp
 ·rw[if_pos (by simp;omega)];simp
theorem nodeOk_leaf {op w n:Int} {ks:List Expr} (h:1<=op/\op<=3) (hw:1<=w/\w<=8):nodeOk (.mk op w n ks)=decide (ks.length=0/\0<=n/\(if op=1 then n<2^w.toNat else n<32)):=by
 have ha:arity op=0:=by unfold arity;rw[if_pos h]
 rw[nodeOk_mk,ha]
 by_cases hl:ks.length=0
 ·rw[if_neg (by omega)]
  by_cases h1:op=1
  ·simp[h1,hl]
  ·rw[if_neg h1,if_pos (by omega)];simp[h1,hl]
 ·rw[if_pos (by omega)];simp[hl]
theorem nodeOk_bad {op w n:Int} {ks:List Expr} (h:op<1\/14<op):nodeOk (.mk op w n ks)=false:=by
 rw[nodeOk_mk,arity_bad h,if_pos (by omega)]
theorem nodeOk_n0 {op w n:Int} {ks:List Expr} (h: ¬(1<=op/\op<=3)) (hw:1<=w/\w<=8) (hn: ¬n=0):nodeOk (.mk op w n ks)=false:=by
 rcases op_cases op with rfl | rfl | rfl | rfl | rfl | rfl | rfl | rfl | rfl | rfl | rfl | rfl | rfl | rfl | hop
 ·omega
 ·omega
 ·omega
 ·rw[nodeOk_not hw];simp[hn]
 ·rw[nodeOk_bin (by omega) hw];simp[hn]
 ·rw[nodeOk_bin (by omega) hw];simp[hn]
 ·rw[nodeOk_bin (by omega) hw];simp[hn]
 ·rw[nodeOk_bin (by omega) hw];simp[hn]
 ·rw[nodeOk_bin (by omega) hw];simp[hn]
 ·rw[nodeOk_bin (by omega) hw];simp[hn]
 ·rw[nodeOk_cmp (by omega) hw];simp[hn]
 ·rw[nodeOk_cmp (by omega) hw];simp[hn]
 ·rw[nodeOk_cmp (by omega) hw];simp[hn]
 ·rw[nodeOk_ite hw];simp[hn]
 ·exact nodeOk_bad hop
set_option maxHeartbeats 4000000 in
theorem shaped_den (e:Expr):Den Γ G 71 [.t (.ip [ti e.op,ti e.w,ti e.n,.sl (e.kids.map Expr.enc)])]=some (vb (nodeOk e)):=by
 obtain⟨op,w,n,ks⟩:=e
 simp only[Expr.op_mk,Expr.w_mk,Expr.n_mk,Expr.kids_mk]
 (refine den_ofY Γ71 rfl ?_;dsimp only[f71])
 by_cases hw:1<=w/\w<=8
 ·have h1: ¬w<1:=by omega
  have h2: ¬w>8:=by omega
  have hd1:=wide_den ks [w] (by simp)
  have hd2:=wide_den ks [w,w] (by simp)
  have hd3:=wide_den ks [1,w,w] (by simp)
  simp only[ints,List.map_cons,List.map_nil]at hd1 hd2 hd3
  by_cases hleaf:op=1
  ·subst hleaf
   rw[nodeOk_leaf (by omega) hw]
   clear hd1 hd2 hd3
   rcases mask_cases hw with rfl | rfl | rfl | rfl | rfl | rfl | rfl | rfl
   all_goals(
    simp -dsimp -implicitDefEqProofs only[go_sem,seval]
    repeat'(refine csplit (fun h=> ?_) (fun h=> ?_)<;>(try simp only[bools]at h)<;>(try simp -dsimp -implicitDefEqProofs only[go_sem,seval, *]))
    all_goals((try simp only[Int.reduceToNat,Int.reducePow,Int.reduceEq,reduceIte]);first | exact(decide_eq_false (by omega)).symm | (simp;done) | (apply decide_eq_decide.2;omega)))
  ·by_cases hleaf2:op=2\/op=3
   ·rw[nodeOk_leaf (by omega) hw]
    clear hd1 hd2 hd3
    rcases hleaf2 with rfl | rfl
    all_goals(
     simp -dsimp -implicitDefEqProofs only[go_sem,seval,h1,h2]
     repeat'(refine csplit (fun h=> ?_) (fun h=> ?_)<;>(try simp only[bools]at h)<;>(try simp -dsimp -implicitDefEqProofs only[go_sem,seval, *]))
     all_goals((try simp only[Int.reduceEq,reduceIte]);first | exact(decide_eq_false (by omega)).symm | (simp;done) | (apply decide_eq_decide.2;omega)))
   ·have e1: ¬op=2:=by omega
    have e2: ¬op=3:=by omega
    by_cases hn:n=0
    ·rcases op_cases op with rfl | rfl | rfl | rfl | rfl | rfl | rfl | rfl | rfl | rfl | rfl | rfl | rfl | rfl | hop
     ·omega
     ·omega
     ·omega
     ·rw[nodeOk_not hw];simp -dsimp -implicitDefEqProofs only[go_sem,seval,h1,h2,hn,hd1]
     ·rw[nodeOk_bin (by omega) hw];simp -dsimp -implicitDefEqProofs only[go_sem,seval,h1,h2,hn,hd2]
     ·rw[nodeOk_bin (by omega) hw];simp -dsimp -implicitDefEqProofs only[go_sem,seval,h1,h2,hn,hd2]
     ·rw[nodeOk_bin (by omega) hw];simp -dsimp -implicitDefEqProofs only[go_sem,seval,h1,h2,hn,hd2]
     ·rw[nodeOk_bin (by omega) hw];simp -dsimp -implicitDefEqProofs only[go_sem,seval,h1,h2,hn,hd2]
     ·rw[nodeOk_bin (by omega) hw];simp -dsimp -implicitDefEqProofs only[go_sem,seval,h1,h2,hn,hd2]
     ·rw[nodeOk_bin (by omega) hw];simp -dsimp -implicitDefEqProofs only[go_sem,seval,h1,h2,hn,hd2]
     ·rw[nodeOk_cmp (by omega) hw]
      rcases ks with _ | ⟨a,_ | ⟨b,_ | ⟨c,r⟩⟩⟩
      all_goals(
       simp -dsimp -implicitDefEqProofs only[go_sem,seval,h1,h2,hn]
       repeat'(refine csplit (fun h=> ?_) (fun h=> ?_)<;>(try simp only[bools]at h)<;>(try simp -dsimp -implicitDefEqProofs only[go_sem,seval, *]))
       all_goals(simp[kw_0,kw_1, *])
       all_goals(first | rfl | omega))
     ·rw[nodeOk_cmp (by omega) hw]
      rcases ks with _ | ⟨a,_ | ⟨b,_ | ⟨c,r⟩⟩⟩
      all_goals(
       simp -dsimp -implicitDefEqProofs only[go_sem,seval,h1,h2,hn]
       repeat'(refine csplit (fun h=> ?_) (fun h=> ?_)<;>(try simp only[bools]at h)<;>(try simp -dsimp -implicitDefEqProofs only[go_sem,seval, *]))
       all_goals(simp[kw_0,kw_1, *])
       all_goals(first | rfl | omega))
     ·rw[nodeOk_cmp (by omega) hw]
      rcases ks with _ | ⟨a,_ | ⟨b,_ | ⟨c,r⟩⟩⟩
      all_goals(
       simp -dsimp -implicitDefEqProofs only[go_sem,seval,h1,h2,hn]
       repeat'(refine csplit (fun h=> ?_) (fun h=> ?_)<;>(try simp only[bools]at h)<;>(try simp -dsimp -implicitDefEqProofs only[go_sem,seval, *]))
       all_goals(simp[kw_0,kw_1, *])
       all_goals(first | rfl | omega))
     ·rw[nodeOk_ite hw];simp -dsimp -implicitDefEqProofs only[go_sem,seval,h1,h2,hn,hd3]
     ·rw[nodeOk_bad hop]
      have n1: ¬op=4:=by omega
      have n2: ¬op=5:=by omega
      have n3: ¬op=6:=by omega
      have n4: ¬op=7:=by omega
      have n5: ¬op=8:=by omega
      have n6: ¬op=9:=by omega
      have n7: ¬op=10:=by omega
      have n8: ¬op=11:=by omega
      have n9: ¬op=12:=by omega
      have n10: ¬op=13:=by omega
      have n11: ¬op=14:=by omega
      simp -dsimp -implicitDefEqProofs only[go_sem,seval,h1,h2,hn,hleaf,e1,e2,n1,n2,n3,n4,n5,n6,n7,n8,n9,n10,n11]
    ·rw[nodeOk_n0 (by omega) hw hn]
     simp -dsimp -implicitDefEqProofs only[go_sem,seval,h1,h2,hleaf,e1,e2,hn]
 ·by_cases h1:w<1
  ·simp -dsimp -implicitDefEqProofs only[go_sem,seval,h1]
   simp only[nodeOk,go_sem];grind
  ·have h2:w>8:=by omega
   simp -dsimp -implicitDefEqProofs only[go_sem,seval,h1,h2]
   simp only[nodeOk,go_sem];grind
end Rg
end
section
namespace Rg
open Go
theorem updC_same {α:Type} (f:Nat->α) (i:Nat) (v w:α):updC (updC f i v) i w=updC f i w:=by
 rw[updC_eq];funext j;unfold upd;split<;>rfl
def Shows (h:Nat->Option O) (kc:Nat) (v:V) (e:Expr):Prop:=
 v= .t (.ip [ti e.op,ti e.w,ti e.n,.sl (e.kids.map Expr.enc)])\/
 ∃k fz,v= .mp k 0 0/\k≠kc/\h k=some (.rows 4 [[.t (ti e.op),.t (ti e.w),.t (ti e.n),.t (.sl (e.kids.map Expr.enc))]] fz)
theorem visit_den (d:Nat): ∀(e:Expr) (v:V) (c:Int) (H:Nat->Option O) (n kc kv:Nat) (fz:Bool),
 d<=40->Shows H kc v e->0<=c->c<=600->kv≠kc->H kc=some (.rows 1 [[vi c]] false)->H kv=some (.rows 1 [[.fn 70 [] [.mp kc 0 0,.mp kv 0 0]]] fz)->
 ∃r h' n',DenR Γ G 70 [v,vi (41-d),.mp kc 0 0,.mp kv 0 0] H n=some (r,h',n')/\
  r=vb (e.deep d&&decide (c+e.size<=600))/\ ∃c':Int,h'=updC H kc (some (.rows 1 [[vi c']] false))/\(e.deep d=true->c+e.size<=600->c'=c+e.size):=by
 induction d with
 | zero=>
   intro e v c H n kc kv fz hd hv hc0 hc hne hkc hkv
   (refine denR_ofY Γ70 rfl ?_;dsimp only[f70])
   have hw:IntKind.i64.wrap (c+1)=c+1:=wrap64 (by omega)
   have hdep:(41-((0:Nat):Int))>40:=by omega
   rcases hv with rfl | ⟨k,fk,rfl,hk,hkk⟩
   all_goals(
    simp -dsimp -implicitDefEqProofs only[go_sem,seval,hkc,hw,hdep]
    repeat'(refine csplit (fun h=> ?_) (fun h=> ?_)<;>(try simp only[bools]at h)<;>(try simp -dsimp -implicitDefEqProofs only[go_sem,seval, *]))
    all_goals(exact⟨by simp -dsimp -implicitDefEqProofs only[go_sem,seval,Expr.deep,Bool.false_and],c+1,by simp -dsimp -implicitDefEqProofs only[go_sem,seval],by simp[Expr.deep]⟩))
 | succ d ih=>
   intro e v c H n kc kv fz hd hv hc0 hc hne hkc hkv
   (refine denR_ofY Γ70 rfl ?_;dsimp only[f70])
   have hw:IntKind.i64.wrap (c+1)=c+1:=wrap64 (by omega)
   have hdep: ¬(41-((d+1:Nat):Int))>40:=by omega
   have hw2:IntKind.i64.wrap (41-((d+1:Nat):Int)+1)=41-(d:Int):=by rw[wrap64 (by omega)];omega
   have hsh:=shaped_den e
   have hsz:=Expr.size_eq e
   have hpos:=Expr.size_pos e
   rcases hv with rfl | ⟨k,fk,rfl,hk,hkk⟩
   all_goals(
    have hk0:=hw
    (try have hk0:=hk)
    simp -dsimp -implicitDefEqProofs only[go_sem,seval,hkc,hw,hdep]
    refine csplit (fun h=> ?_) (fun h=> ?_)<;>(try simp only[bools]at h)<;>(try simp -dsimp -implicitDefEqProofs only[go_sem,seval, *])
    ·refine⟨?_,c+1,by simp -dsimp -implicitDefEqProofs only[go_sem,seval],fun _ hle=>by omega⟩
     simp -dsimp -implicitDefEqProofs only[go_sem,seval]
     have : ¬(c+(e.size:Int)<=600):=by omega
     simp[this]
    ·refine csplit (fun h=> ?_) (fun h=> ?_)<;>(try simp only[bools]at h)<;>(try simp -dsimp -implicitDefEqProofs only[go_sem,seval, *])
     ·refine⟨?_,c+1,by simp -dsimp -implicitDefEqProofs only[go_sem,seval],fun hdp=>by rw[deep_node hdp]at h;simp at h⟩
      simp -dsimp -implicitDefEqProofs only[go_sem,seval]
      simp[Expr.deep,h]
     ·have hlen:=nodeOk_len h
      refine loopYH 2198956146880 e.kids.length (fun i f hh x=>(f 26).v=vi i/\ ∃c':Int,hh=updC H kc (some (.rows 1 [[vi c']] false))/\c'=c+1+((e.kids.take i).map Expr.size).sum/\c'<=600/\(e.kids.take i).all (Expr.deep d)=true) rfl
       ⟨by simp -dsimp -implicitDefEqProofs only[go_sem,seval],c+1,by simp -dsimp -implicitDefEqProofs only[go_sem,seval],by simp,by omega,by simp⟩ ?_
      rintro i f u hh x bs hi ⟨h26,c',rfl,hc',hle,hall⟩
      have hwi:=wrapS i (by omega)
      simp -dsimp -implicitDefEqProofs only[go_sem,seval,h26]
      refine csplit (fun h=> ?_) (fun h=> ?_)<;>(try simp only[bools]at h)<;>(try simp -dsimp -implicitDefEqProofs only[go_sem,seval, *])
      ·obtain⟨y,hy,hm⟩:=get_of ‹i<e.kids.length›
       simp -dsimp -implicitDefEqProofs only[go_sem,seval,h26,hy,hne,hkv,hw2,hk0]
       refine rawK_of (ih y _ c' _ _ kc kv fz (by omega) (.inl rfl) (by omega) hle hne (by rw[updC_at];simp) (by rw[updC_at];simp[hne,hkv])) ?_
       rintro r h' n' ⟨rfl,c2,rfl,hc2⟩
       simp -dsimp -implicitDefEqProofs only[go_sem,seval]
       have hts:=Expr.take_le_size e.kids (i+1)
       have ht1:((e.kids.take (i+1)).map Expr.size).sum=((e.kids.take i).map Expr.size).sum+y.size:=by
        rw[take_succ_of hy];simp
       refine csplit (fun h=> ?_) (fun h=> ?_)<;>(try simp only[bools]at h)<;>(try simp -dsimp -implicitDefEqProofs only[go_sem,seval, *])
       ·refine⟨?_,c2,by simp -dsimp -implicitDefEqProofs only[go_sem,seval,updC_same],fun hdp hle2=> ?_⟩
        ·simp -dsimp -implicitDefEqProofs only[go_sem,seval]
         simp only[Bool.and_eq_false_iff,decide_eq_false_iff_not]at h
         rcases h with h | h
         ·rw[Expr.deep,all_false_of hm h];simp
         ·have : ¬c+(e.size:Int)<=600:=by omega
          simp[this]
        ·have hy1:=deep_kid hdp hm
         have:c'+(y.size:Int)<=600:=by omega
         simp[hy1,this]at h
       ·simp only[Bool.and_eq_true,decide_eq_true_eq]at h
        have h2:=hc2 h.1 h.2
        exact⟨by omega,by simp -dsimp -implicitDefEqProofs only[go_sem,seval,hwi],c2,by simp -dsimp -implicitDefEqProofs only[go_sem,seval,updC_same],by omega,by omega,all_take_succ hy hall h.1⟩
      ·have:i=e.kids.length:=by omega
       subst this
       rw[List.take_length]at hall hc'
       refine⟨?_,c',by simp -dsimp -implicitDefEqProofs only[go_sem,seval],fun hdp hle2=>by omega⟩
       simp -dsimp -implicitDefEqProofs only[go_sem,seval]
       have:c+(e.size:Int)<=600:=by omega
       simp[Expr.deep,hall,this,‹nodeOk e=true›])
theorem wellFormed_den (e:Expr):Den Γ G 51 [(.agg [.t (ti (e).op),.t (ti (e).w),.t (ti (e).n),.t (.sl ((e).kids.map (Expr.enc)))])]=some (vb e.formed):=by
 (refine den_ofY Γ51 rfl ?_;dsimp only[f51])
 simp -dsimp -implicitDefEqProofs only[go_sem,seval]
 refine rawK_of (visit_den 40 e _ 0 _ _ _ _ false (by omega) (.inr ⟨_,false,rfl,?_,?_⟩) (by omega) (by omega) ?_ ?_ ?_) ?_
 ·decide
 ·simp -dsimp -implicitDefEqProofs only[go_sem,seval]
 ·decide
 ·simp -dsimp -implicitDefEqProofs only[go_sem,seval]
 ·simp -dsimp -implicitDefEqProofs only[go_sem,seval]
 ·rintro r h' n' ⟨rfl,c',rfl,_⟩
  simp -dsimp -implicitDefEqProofs only[go_sem,seval]
  simp only[Expr.formed]
  rw[Bool.and_comm]
  congr 1
  by_cases h:e.size<=600
  ·simp[h];omega
  ·simp[h];omega
theorem element_den (l:List Int) (n:Int) (hn:0<=n):Den Γ G 72 [.t (ints l),vi n]=some (vi (atI l n)):=by
 (refine den_ofY Γ72 rfl ?_;dsimp only[f72])
 rcases hc:l[n.toNat]? with _ | c
 ·have hge: ¬n<(l.length:Int):=by rw[List.getElem?_eq_none_iff]at hc;omega
  simp -dsimp -implicitDefEqProofs only[go_sem,seval,hge]
  simp[atI,List.getD,hc]
 ·have hge:n<(l.length:Int):=by have:=(List.getElem?_eq_some_iff.1 hc).1;omega
  simp -dsimp -implicitDefEqProofs only[go_sem,seval,hge,hn,hc]
  simp[atI,List.getD,hc]
theorem truth_den (b:Bool):Den Γ G 92 [vb b]=some (vi (if b then 1 else 0)):=by
 (refine den_ofY Γ92 rfl ?_;dsimp only[f92])
 cases b
 ·simp -dsimp -implicitDefEqProofs only[go_sem,seval]
 ·simp -dsimp -implicitDefEqProofs only[go_sem,seval]
theorem not_small {a:Int} (ha:0<=a/\a<2^62):IntKind.i64.wrap ((BitVec.ofInt IntKind.i64.bits (-1)^^^ BitVec.ofInt IntKind.i64.bits a).toNat)= -1-a:=by
 show IntKind.i64.wrap ((BitVec.ofInt 64 (-1)^^^ BitVec.ofInt 64 a).toNat)=_
 have h1:BitVec.ofInt 64 (-1)=BitVec.allOnes 64:=by decide
 rw[h1,BitVec.allOnes_xor,BitVec.toNat_not,bits_nat ha,IntKind.wrap_i64]
 omega
def appP (op a b c:Int):Int:=
 if op=4 then -1-a
 else if op=5 then((a.toNat&&& b.toNat:Nat):Int)
 else if op=6 then((a.toNat ||| b.toNat:Nat):Int)
 else if op=7 then((a.toNat^^^ b.toNat:Nat):Int)
 else if op=8 then a+b
 else if op=9 then a-b
 else if op=10 then a*b
 else if op=11 then(if a=b then 1 else 0)
 else if op=12 then(if a<b then 1 else 0)
 else if op=13 then(if a<=b then 1 else 0)
 else if op=14 then(if a=1 then b else c)
 else 0
set_option maxHeartbeats 2000000 in
theorem applyP_den (op a b c:Int) (hop:4<=op/\op<=14) (ha:0<=a/\a<256) (hb:0<=b/\b<256) (hc:0<=c/\c<256):Den Γ G 73 [vi op,.agg [vi a,vi b,vi c]]=some (vi (appP op a b c)):=by
 (refine den_ofY Γ73 rfl ?_;dsimp only[f73])
 have hand:=and_small (a:=a) (b:=b) (by omega) (by omega)
 have hor:=or_small (a:=a) (b:=b) (by omega) (by omega)
 have hxor:=xor_small (a:=a) (b:=b) (by omega) (by omega)
 have hnot:=not_small (a:=a) (by omega)
 have hmul:0<=a*b/\a*b<=65536:=⟨Int.mul_nonneg ha.1 hb.1,by
  have h1:a*b<=256*b:=Int.mul_le_mul_of_nonneg_right (by omega) hb.1
  omega⟩
 have hw1:IntKind.i64.wrap (a+b)=a+b:=wrap64 (by omega)
 have hw2:IntKind.i64.wrap (a+ -b)=a-b:=by rw[wrap64 (by omega)];omega
 have hw3:IntKind.i64.wrap (0-b)= -b:=by rw[wrap64 (by omega)];omega
 have hw4:IntKind.i64.wrap (a*b)=a*b:=wrap64 (by omega)
 have ht1:=truth_den (decide (a=b))
 have ht2:=truth_den (decide (a<b))
 have hsg:IntKind.i64.signed=true:=rfl
 have hcs:op=4\/op=5\/op=6\/op=7\/op=8\/op=9\/op=10\/op=11\/op=12\/op=13\/op=14:=by omega
 clear hmul hop
 rcases hcs with rfl | rfl | rfl | rfl | rfl | rfl | rfl | rfl | rfl | rfl | rfl
 ·simp -dsimp -implicitDefEqProofs only[go_sem,seval,hnot,hsg];rfl
 ·simp -dsimp -implicitDefEqProofs only[go_sem,seval,hand];rfl
 ·simp -dsimp -implicitDefEqProofs only[go_sem,seval,hor];rfl
 ·simp -dsimp -implicitDefEqProofs only[go_sem,seval,hxor];rfl
 ·simp -dsimp -implicitDefEqProofs only[go_sem,seval,hw1];rfl
 ·simp -dsimp -implicitDefEqProofs only[go_sem,seval,hw2,hw3];rfl
 ·simp -dsimp -implicitDefEqProofs only[go_sem,seval,hw4];rfl
 ·simp -dsimp -implicitDefEqProofs only[go_sem,seval,ht1];simp[appP]
 ·simp -dsimp -implicitDefEqProofs only[go_sem,seval,ht2];simp[appP]
 ·simp -dsimp -implicitDefEqProofs only[go_sem,seval,ht2]
  refine csplit (fun h=> ?_) (fun h=> ?_)<;>(try simp only[bools]at h)<;>(try simp -dsimp -implicitDefEqProofs only[go_sem,seval, *])
  ·simp[appP,h]
  ·have:a<=b<->a<b:=by omega
   simp[appP,this]
 ·simp -dsimp -implicitDefEqProofs only[go_sem,seval]
  refine csplit (fun h=> ?_) (fun h=> ?_)<;>(try simp only[bools]at h)<;>(try simp -dsimp -implicitDefEqProofs only[go_sem,seval, *])
  ·simp[appP]
  ·simp[appP,h]
end Rg
end
