/- Part of the proof of laws of relyguardlaw31. No condition. -/
import Derived.Test.YtcmeofagpechdaaGreatDoorRartAQ
import Derived.Test.YtcmeofagpechdaaGreatDoorRartAT
import Derived.Test.YtcmeofagpechdaaGreatDoorRartAP
set_option linter.unusedSimpArgs false
set_option linter.unusedVariables false
section
namespace Rg
open Go
theorem zeF (n:Int) (hn:n<=62):Den Γ G 33 [vi n]=some (vi (2^n.toNat)):=by
 (refine den_ofY Γ33 rfl ?_;dsimp only[f33])
 simp -dsimp only[go_sem,seval];refine zaz 4088 n.toNat (fun i f=>(f 4).v=vi i/\(f 3).v=vi (2^i)) rfl rfl ⟨by simp -dsimp only[go_sem,seval],by simp -dsimp only[go_sem,seval,Int.pow_zero]⟩ ?_;rintro i f u kk bb hi ⟨h4,h3⟩;have hw:=zah i (by omega);simp -dsimp only[go_sem,seval,h4,h3,hw];refine csplit (fun h=> ?_) (fun h=> ?_)<;>(try simp only[zab]at h)<;>(try simp -dsimp only[go_sem,seval,h4,h3,hw, *])
 ·have h2:(2:Int)^i<=2^61:=zkJ (by omega);have h3':=ziJ i;have hp:IntKind.i64.wrap ((2:Int)^i*2)=2^(i+1):=by rw[zan (by omega),Int.pow_succ]
  exact⟨by omega,by simp -dsimp only[go_sem,seval],by simp -dsimp only[go_sem,seval,hp]⟩
 ·have:i=n.toNat:=by omega
  rw[this]
def arity (op:Int):Int:=
 if 1<=op/\op<=3 then 0 else if op=4 then 1 else if 5<=op/\op<=13 then 2 else if op=14 then 3 else -1
theorem zl3 (op:Int):Den Γ G 116 [vi op]=some (vi (arity op)):=by
 (refine den_ofY Γ116 rfl ?_;dsimp only[f116])
 simp -dsimp only[go_sem,seval]
 repeat'(refine csplit (fun h=> ?_) (fun h=> ?_)<;>(try simp only[zab]at h)<;>(try simp -dsimp only[go_sem,seval, *]))
 all_goals(unfold arity;grind)
theorem ziw (e:Expr): ∀l:Int,l<2^40->Den Γ G 47 [(.agg [.t (ti (e).op),.t (ti (e).w),.t (ti (e).n),.t (.sl ((e).kids.map (Expr.enc)))]),vi l]=some (vi (if l<=0 then 0 else min (e.size:Int) l)):=by
 induction e using Expr.ind with
 | _ e ih=>
 intro l hl;have hsz:=Expr.size_eq e;have hlen:=Expr.len_le_size e.kids
 (refine den_ofY Γ47 rfl ?_;dsimp only[f47])
 simp -dsimp only[go_sem,seval];refine csplit (fun h=> ?_) (fun h=> ?_)<;>(try simp only[zab]at h)<;>(try simp -dsimp only[go_sem,seval, *])
 refine zaz 4294966880 e.kids.length (fun i f=>(f 6).v=vi i/\(f 5).v=vi (min (1+((e.kids.take i).map Expr.size).sum:Nat) l)) rfl rfl ⟨by simp -dsimp only[go_sem,seval],by simp -dsimp only[go_sem,seval];simp;omega⟩ ?_;rintro i f u kk bb hi ⟨h6,h5⟩;have hp:=Expr.take_le_size e.kids i;have hi':=Expr.len_le_size (e.kids.take i);rw[List.length_take,Nat.min_eq_left hi]at hi';simp -dsimp only[go_sem,seval,h6,h5];refine csplit (fun h=> ?_) (fun h=> ?_)<;>(try simp only[zab]at h)<;>(try simp -dsimp only[go_sem,seval,h6,h5, *])
 ·refine csplit (fun h=> ?_) (fun h=> ?_)<;>(try simp only[zab]at h)<;>(try simp -dsimp only[go_sem,seval,h6,h5, *])
  ·have hw:=zah i (by omega);obtain⟨x,hx,hm⟩:=zaf ‹i<e.kids.length›;have ht:=zae hx;have hn1:min (((1+((e.kids.take i).map Expr.size).sum:Nat):Int)) l=((1+((e.kids.take i).map Expr.size).sum:Nat):Int):=by omega
   rw[hn1]at h5;have hw1:IntKind.i64.wrap (l-((1+((e.kids.take i).map Expr.size).sum:Nat):Int))=l-((1+((e.kids.take i).map Expr.size).sum:Nat):Int):=zan (by omega);have hd:=ih x hm (l-((1+((e.kids.take i).map Expr.size).sum:Nat):Int)) (by omega);simp -dsimp only[go_sem,seval,h6,h5,hw,hx,hw1,hd];refine⟨by omega,by simp -dsimp only[go_sem,seval],?_⟩;simp -dsimp only[go_sem,seval];rw[if_neg (by omega),ht,zan (by omega)];simp only[List.map_append,List.sum_append,List.map_cons,List.map_nil,List.sum_cons,List.sum_nil];omega
  ·omega
 ·have:i=e.kids.length:=by omega
  subst this;rw[List.take_length];omega
def nodeOk (e:Expr):Bool:=
 if arity e.op≠e.kids.length\/e.w<1\/e.w>8 then false
 else if e.op=1 then decide (0<=e.n/\e.n<2^e.w.toNat)
 else if e.op=2\/e.op=3 then decide (0<=e.n/\e.n<32)
 else if e.op=4 then decide (e.n=0/\e.kw 0=e.w)
 else if e.op=11\/e.op=12\/e.op=13 then decide (e.n=0/\e.w=1/\e.kw 0=e.kw 1)
 else if e.op=14 then decide (e.n=0/\e.kw 0=1/\e.kw 1=e.w/\e.kw 2=e.w)
 else decide (e.n=0/\e.kw 0=e.w/\e.kw 1=e.w)
def Expr.deep:Nat->Expr->Bool
 | 0,_=>false
 | d+1,e=>nodeOk e&&e.kids.all (Expr.deep d)
theorem zbC {α:Type} {l:List α} {i:Nat} {x:α} {p:α->Bool} (h:l[i]? =some x) (h1:(l.take i).all p=true) (h2:p x=true):(l.take (i+1)).all p=true:=by
 rw[zae h,List.all_append,h1];simp[h2]
theorem zaZ {α:Type} {l:List α} {x:α} {p:α->Bool} (h:x∈l) (h2:p x=false):l.all p=false:=by
 rw[List.all_eq_false];exact⟨x,h,by simp[h2]⟩
theorem znI (op:Int):arity op<=3:=by unfold arity;grind
theorem zb4 {e:Expr} (h:nodeOk e=true):e.kids.length<=3:=by
 have:=znI e.op;unfold nodeOk at h;split at h
 ·simp at h
 ·rename_i h';simp only[not_or,Decidable.not_not]at h';omega
end Rg
end
section
-- FULL
namespace Rg
open Go
theorem zdu (op:Int):op=1\/op=2\/op=3\/op=4\/op=5\/op=6\/op=7\/op=8\/op=9\/op=10\/op=11\/op=12\/op=13\/op=14\/(op<1\/14<op):=by omega
theorem zdF {op:Int} (h:op<1\/14<op):arity op= -1:=by unfold arity;grind
set_option maxHeartbeats 2000000
theorem zmX (e:Expr):Den Γ G 89 [(.agg [.t (ti (e).op),.t (ti (e).w),.t (ti (e).n),.t (.sl ((e).kids.map (Expr.enc)))])]=some (vb (nodeOk e)):=by
 (refine den_ofY Γ89 rfl ?_;dsimp only[f89])
 obtain⟨op,w,n,ks⟩:=e;have ha:=zl3 op
 by_cases hk:arity op=(ks.length:Int)
 ·by_cases hw:1<=w/\w<=8
  ·have h1: ¬w<1:=by omega
   have h2: ¬w>8:=by omega
   have hp:=zeF w (by omega);rcases zdu op with rfl | rfl | rfl | rfl | rfl | rfl | rfl | rfl | rfl | rfl | rfl | rfl | rfl | rfl | hop
   rotate_right
   ·rw[zdF hop]at hk;omega
   all_goals(
    rcases ks with _ | ⟨a,_ | ⟨b,_ | ⟨c,_ | ⟨d,r⟩⟩⟩⟩
    all_goals(try(exfalso;simp[arity]at hk;(try omega);done))
    all_goals(
     simp -dsimp [go_sem,ha,hp,hk,h1,h2,bne_self_eq_false]
     repeat'(refine csplit (fun h=> ?_) (fun h=> ?_)<;>(try simp only[zab]at h)<;>(try simp -dsimp [go_sem,hp, *]))
     all_goals(simp only[nodeOk,go_sem,Expr.kw,List.getD_cons_zero,List.getD_cons_succ];grind)))
  ·by_cases h1:w<1
   ·simp -dsimp [go_sem,ha,hk,bne_self_eq_false,h1];simp only[nodeOk,go_sem];grind
   ·have h2:w>8:=by omega
    simp -dsimp [go_sem,ha,hk,bne_self_eq_false,h1,h2];simp only[nodeOk,go_sem];grind
 ·have hk':(arity op != (ks.length:Int))=true:=by simpa using hk
  simp -dsimp [go_sem,ha,hk'];simp only[nodeOk,go_sem];grind
end Rg
end
section
namespace Rg
open Go
theorem znp (d:Nat): ∀(e:Expr) (l:Int),l.toNat=d->l<=100->Den Γ G 68 [(.agg [.t (ti (e).op),.t (ti (e).w),.t (ti (e).n),.t (.sl ((e).kids.map (Expr.enc)))]),vi l]=some (vb (e.deep d)):=by
 induction d with
 | zero=>
   intro e l hl hl'
   (refine den_ofY Γ68 rfl ?_;dsimp only[f68])
   have h1:l<1:=by omega
   simp -dsimp only[go_sem,seval,h1]
   rfl
 | succ d ih=>
   intro e l hl hl'
   (refine den_ofY Γ68 rfl ?_;dsimp only[f68])
   have h1: ¬l<1:=by omega
   have hn:=zmX e;simp -dsimp only[go_sem,seval,h1,hn];refine csplit (fun h=> ?_) (fun h=> ?_)<;>(try simp only[zab]at h)<;>(try simp -dsimp only[go_sem,seval, *])
   ·simp only[Expr.deep,h,Bool.false_and]
   ·have hlen:=zb4 h;refine zaz 536862768 e.kids.length (fun i f=>(f 5).v=vi i/\(e.kids.take i).all (Expr.deep d)=true) rfl rfl ⟨by simp -dsimp only[go_sem,seval],by simp⟩ ?_;rintro i f u kk bb hi ⟨h5,hall⟩;have hw:=zah i (by omega);simp -dsimp only[go_sem,seval,h5];refine csplit (fun h=> ?_) (fun h=> ?_)<;>(try simp only[zab]at h)<;>(try simp -dsimp only[go_sem,seval, *])
    ·obtain⟨x,hx,hm⟩:=zaf ‹i<e.kids.length›;have hw1:IntKind.i64.wrap (l-1)=l-1:=zan (by omega);have hd:=ih x (l-1) (by omega) (by omega);simp -dsimp only[go_sem,seval,h5,hx,hw1,hd];refine csplit (fun h=> ?_) (fun h=> ?_)<;>(try simp only[zab]at h)<;>(try simp -dsimp only[go_sem,seval, *])
     ·rw[Expr.deep,zaZ hm h];simp
     ·exact⟨by omega,by simp -dsimp only[go_sem,seval,hw],zbC hx hall h⟩
    ·have:i=e.kids.length:=by omega
     subst this;rw[List.take_length]at hall;simp only[Expr.deep,hall,Bool.and_true];simp_all
def Expr.formed (e:Expr):Bool:=decide (e.size<=600)&&e.deep 40
theorem zfL (e:Expr):Den Γ G 48 [(.agg [.t (ti (e).op),.t (ti (e).w),.t (ti (e).n),.t (.sl ((e).kids.map (Expr.enc)))])]=some (vb e.formed):=by
 (refine den_ofY Γ48 rfl ?_;dsimp only[f48])
 have h1:=ziw e 601 (by omega);have h2:=znp 40 e 40 rfl (by omega);simp -dsimp only[go_sem,seval,h1,h2];refine csplit (fun h=> ?_) (fun h=> ?_)<;>(try simp only[zab]at h)<;>(try simp -dsimp only[go_sem,seval, *])
 ·have:e.size<=600:=by omega
  simp[Expr.formed,this]
 ·have : ¬e.size<=600:=by omega
  simp[Expr.formed,this]
theorem zbF (e:Expr) (l:Int) (hl:0<=l/\l<10000):Den Γ G 23 [(.agg [.t (ti (e).op),.t (ti (e).w),.t (ti (e).n),.t (.sl ((e).kids.map (Expr.enc)))]),vi l]=some (vb (decide ((e.size:Int)<=l))):=by
 (refine den_ofY Γ23 rfl ?_;dsimp only[f23])
 have hw:IntKind.i64.wrap (l+1)=l+1:=zan (by omega);have h1:=ziw e (l+1) (by omega);simp -dsimp only[go_sem,seval,h1,hw];rw[if_neg (by omega)];simp;omega
def leafOk (cells:List Cell) (pair:Bool) (e:Expr):Bool:=
 if e.op=3/\pair=false then false
 else if(e.op=3\/e.op=2)then(match cells[e.n.toNat]? with | some c=>decide (c.w=e.w) | none=>false)
 else true
def Expr.nneg (e:Expr):Bool:=e.allE fun x=>decide (0<=x.n/\x.kids.length<=3)
theorem zmT (cells:List Cell) (pair:Bool) (e:Expr):e.nneg=true->Den Γ G 49 [(.agg [.t (ti (e).op),.t (ti (e).w),.t (ti (e).n),.t (.sl ((e).kids.map (Expr.enc)))]),.t (.sl (cells.map Cell.enc)),vb pair]=some (vb (e.allE (leafOk cells pair))):=by
 induction e using Expr.ind with
 | _ e ih=>
 intro hn;have hn0:0<=e.n/\e.kids.length<=3:=by have:=Expr.allE_self hn;simpa using this
 (refine den_ofY Γ49 rfl ?_;dsimp only[f49])
 rcases hc:cells[e.n.toNat]? with _ | c
 ·have hge:e.n>=(cells.length:Int):=by rw[List.getElem?_eq_none_iff]at hc;omega
  simp -dsimp only[go_sem,seval]
  repeat'(refine csplit (fun h=> ?_) (fun h=> ?_)<;>(try simp only[zab]at h)<;>(try simp -dsimp only[go_sem,seval, *]))
  all_goals(try(rw[Expr.allE_eq];simp[leafOk, *];done))
  all_goals(
   refine zaz 144112989052600512 e.kids.length (fun i f=>(f 7).v=vi i/\(e.kids.take i).all (Expr.allE (leafOk cells pair))=true) rfl rfl ⟨by simp -dsimp only[go_sem,seval],by simp⟩ ?_;rintro i f u kk bb hi ⟨h5,hall⟩;have hw:=zah i (by omega);simp -dsimp only[go_sem,seval,h5];refine csplit (fun h=> ?_) (fun h=> ?_)<;>(try simp only[zab]at h)<;>(try simp -dsimp only[go_sem,seval, *])
   ·obtain⟨x,hx,hm⟩:=zaf ‹i<e.kids.length›;have hd:=ih x hm (Expr.allE_kid hn hm);simp -dsimp only[go_sem,seval,h5,hx,hd];refine csplit (fun h=> ?_) (fun h=> ?_)<;>(try simp only[zab]at h)<;>(try simp -dsimp only[go_sem,seval, *])
    ·subst_vars;rw[Expr.allE_eq,zaZ hm h];simp
    ·exact⟨by omega,by simp -dsimp only[go_sem,seval,hw],zbC hx hall h⟩
   ·have:i=e.kids.length:=by omega
    subst this;rw[List.take_length]at hall
    subst_vars;rw[Expr.allE_eq,hall];simp[leafOk, *])
 ·have hge: ¬e.n>=(cells.length:Int):=by
   have:=(zH.1 hc).1;omega
  simp -dsimp only[go_sem,seval]
  repeat'(refine csplit (fun h=> ?_) (fun h=> ?_)<;>(try simp only[zab]at h)<;>(try simp -dsimp only[go_sem,seval, *]))
  all_goals(try(rw[Expr.allE_eq];simp[leafOk, *];done))
  all_goals(
   refine zaz 144112989052600512 e.kids.length (fun i f=>(f 7).v=vi i/\(e.kids.take i).all (Expr.allE (leafOk cells pair))=true) rfl rfl ⟨by simp -dsimp only[go_sem,seval],by simp⟩ ?_;rintro i f u kk bb hi ⟨h5,hall⟩;have hw:=zah i (by omega);simp -dsimp only[go_sem,seval,h5];refine csplit (fun h=> ?_) (fun h=> ?_)<;>(try simp only[zab]at h)<;>(try simp -dsimp only[go_sem,seval, *])
   ·obtain⟨x,hx,hm⟩:=zaf ‹i<e.kids.length›;have hd:=ih x hm (Expr.allE_kid hn hm);simp -dsimp only[go_sem,seval,h5,hx,hd];refine csplit (fun h=> ?_) (fun h=> ?_)<;>(try simp only[zab]at h)<;>(try simp -dsimp only[go_sem,seval, *])
    ·subst_vars;rw[Expr.allE_eq,zaZ hm h];simp
    ·exact⟨by omega,by simp -dsimp only[go_sem,seval,hw],zbC hx hall h⟩
   ·have:i=e.kids.length:=by omega
    subst this;rw[List.take_length]at hall
    subst_vars;rw[Expr.allE_eq,hall];simp[leafOk, *])
theorem zek {e:Expr} (h:nodeOk e=true):0<=e.n:=by
 unfold nodeOk at h;split at h
 ·simp at h
 ·grind
theorem zlS (d:Nat): ∀e:Expr,e.deep d=true->e.nneg=true:=by
 induction d with
 | zero=>intro e h;simp[Expr.deep]at h
 | succ d ih=>
   intro e h;simp only[Expr.deep,zF,List.all_eq_true]at h;unfold Expr.nneg;rw[Expr.allE_eq];simp only[zF,List.all_eq_true,decide_eq_true_eq];exact⟨⟨zek h.1,zb4 h.1⟩,fun k hk=>ih k (h.2 k hk)⟩
theorem formed_nneg {e:Expr} (h:e.formed=true):e.nneg=true:=by
 simp only[Expr.formed,zF]at h;exact zlS 40 e h.2
def Expr.valid (e:Expr) (cells:List Cell) (pair:Bool):Bool:=e.formed&&e.allE (leafOk cells pair)
theorem zcO (e:Expr) (cells:List Cell) (pair:Bool):Den Γ G 24 [(.agg [.t (ti (e).op),.t (ti (e).w),.t (ti (e).n),.t (.sl ((e).kids.map (Expr.enc)))]),.t (.sl (cells.map Cell.enc)),vb pair]=some (vb (e.valid cells pair)):=by
 (refine den_ofY Γ24 rfl ?_;dsimp only[f24])
 have h1:=zfL e
 by_cases hf:e.formed=true
 ·have h2:=zmT cells pair e (formed_nneg hf);simp -dsimp only[go_sem,seval,h1,h2,hf];simp[Expr.valid,hf]
 ·have hf:e.formed=false:=by simpa using hf
  simp -dsimp only[go_sem,seval,h1,hf];simp[Expr.valid,hf]
theorem zzS (a w:Int) (hw:0<=w/\w<=62):IntKind.i64.wrap ((BitVec.ofInt IntKind.i64.bits a&&& BitVec.ofInt IntKind.i64.bits (2^w.toNat-1)).toNat)=a % 2^w.toNat:=by
 have hp:=ziJ w.toNat
 have hb:(BitVec.ofInt 64 a&&& BitVec.ofInt 64 (2^w.toNat-1)).toNat=(a % 2^w.toNat).toNat:=by
  have hk:w.toNat<=62:=by omega
  generalize w.toNat=k at hk
  have e1:(2:Int)^k-1=((2^k-1:Nat):Int):=by
   have:0<2^k:=Nat.pow_pos (by omega);rw[Int.ofNat_sub this];simp
  have hlt:2^k<=2^62:=Nat.pow_le_pow_right (by omega) hk
  have e2:(BitVec.ofInt 64 ((2:Int)^k-1)).toNat=2^k-1:=by
   rw[e1];simp only[BitVec.toNat_ofInt];rw[show(((2^64:Nat):Int))=((2^64:Nat):Int)from rfl,<- Int.natCast_emod,Int.toNat_natCast,Nat.mod_eq_of_lt (by omega)]
  rw[BitVec.toNat_and,e2,Nat.and_two_pow_sub_one_eq_mod,BitVec.toNat_ofInt]
  have hd:(2:Int)^k ∣ ((2^64:Nat):Int):=by
   have:(2:Nat)^k ∣ 2^64:=Nat.pow_dvd_pow 2 (by omega)
   exact_mod_cast this
  have h64:0<=a % ((2^64:Nat):Int):=Int.emod_nonneg _ (by omega);have hp':(0:Int)<2^k:=ziJ k
  have:(((a % ((2^64:Nat):Int)).toNat % 2^k:Nat):Int)=a % 2^k:=by
   rw[Int.natCast_emod,Int.toNat_of_nonneg h64];rw[show((2^k:Nat):Int)=(2:Int)^k by simp];exact Int.emod_emod_of_dvd a hd
  omega
 show IntKind.i64.wrap ((BitVec.ofInt 64 a&&& BitVec.ofInt 64 (2^w.toNat-1)).toNat)=_;rw[hb];have h1:=Int.emod_nonneg a (show(2:Int)^w.toNat≠0 by omega);have h2:=Int.emod_lt_of_pos a hp;have h3:=zkJ (i:=w.toNat) (k:=62) (by omega);rw[zan (by omega)];omega
def atI (l:List Int) (n:Int):Int:=l.getD n.toNat 0
theorem zxS {a:Int} (h:0<=a/\a<2^62):(BitVec.ofInt 64 a).toNat=a.toNat:=by
 simp only[BitVec.toNat_ofInt];omega
theorem zzr {a b:Int} (ha:0<=a/\a<2^62) (hb:0<=b/\b<2^62):IntKind.i64.wrap ((BitVec.ofInt IntKind.i64.bits a&&& BitVec.ofInt IntKind.i64.bits b).toNat)=((a.toNat&&& b.toNat:Nat):Int):=by
 show IntKind.i64.wrap ((BitVec.ofInt 64 a&&& BitVec.ofInt 64 b).toNat)=_;rw[BitVec.toNat_and,zxS ha,zxS hb];have:a.toNat&&& b.toNat<=a.toNat:=Nat.and_le_left;exact zan (by omega)
theorem zzI {a b:Int} (ha:0<=a/\a<2^62) (hb:0<=b/\b<2^62):IntKind.i64.wrap ((BitVec.ofInt IntKind.i64.bits a ||| BitVec.ofInt IntKind.i64.bits b).toNat)=((a.toNat ||| b.toNat:Nat):Int):=by
 show IntKind.i64.wrap ((BitVec.ofInt 64 a ||| BitVec.ofInt 64 b).toNat)=_;rw[BitVec.toNat_or,zxS ha,zxS hb];have:a.toNat ||| b.toNat<2^62:=Nat.or_lt_two_pow (by omega) (by omega);exact zan (by omega)
theorem zy5 {a b:Int} (ha:0<=a/\a<2^62) (hb:0<=b/\b<2^62):IntKind.i64.wrap ((BitVec.ofInt IntKind.i64.bits a^^^ BitVec.ofInt IntKind.i64.bits b).toNat)=((a.toNat^^^ b.toNat:Nat):Int):=by
 show IntKind.i64.wrap ((BitVec.ofInt 64 a^^^ BitVec.ofInt 64 b).toNat)=_;rw[BitVec.toNat_xor,zxS ha,zxS hb];have:a.toNat^^^ b.toNat<2^62:=Nat.xor_lt_two_pow (by omega) (by omega);exact zan (by omega)
def opv (op w a b c:Int):Int:=
 if op=4 then 2^w.toNat-1-a
 else if op=5 then((a.toNat&&& b.toNat:Nat):Int)
 else if op=6 then((a.toNat ||| b.toNat:Nat):Int)
 else if op=7 then((a.toNat^^^ b.toNat:Nat):Int)
 else if op=8 then(a+b) % 2^w.toNat
 else if op=9 then(a-b) % 2^w.toNat
 else if op=10 then a*b % 2^w.toNat
 else if op=11 then(if a=b then 1 else 0)
 else if op=12 then(if a<b then 1 else 0)
 else if op=13 then(if a<=b then 1 else 0)
 else(if a=1 then b else c)
def zAq (e:Expr) (v:List Int):Prop:=nodeOk e=true/\v.length=e.kids.length/\(∀x∈v,0<=x/\x<256)/\(e.op=14->v.getD 0 0=0\/v.getD 0 0=1)
end Rg
end
section
-- FULL
-- APPS
namespace Rg
open Go
namespace Expr
mutual
def ev (old now:List Int):Expr->Int
 | .mk op w n ks=>if op=1 then n else if op=2 then atI now n % 2^w.toNat else if op=3 then atI old n % 2^w.toNat
   else opv op w ((evs old now ks).getD 0 0) ((evs old now ks).getD 1 0) ((evs old now ks).getD 2 0)
def evs (old now:List Int):List Expr->List Int
 | []=>[]
 | e::r=>ev old now e::evs old now r
end
theorem zAX (old now:List Int): ∀l:List Expr,evs old now l=l.map (ev old now)
 | []=>rfl
 | e::r=>by rw[evs,zAX old now r];rfl
theorem ev_eq (old now:List Int) (e:Expr):ev old now e=if e.op=1 then e.n else if e.op=2 then atI now e.n % 2^e.w.toNat else if e.op=3 then atI old e.n % 2^e.w.toNat
 else opv e.op e.w ((e.kids.map (ev old now)).getD 0 0) ((e.kids.map (ev old now)).getD 1 0) ((e.kids.map (ev old now)).getD 2 0):=by
 cases e;simp only[ev,zAX,op,w,n,kids];rfl
end Expr
theorem deep_node {d:Nat} {e:Expr} (h:e.deep d=true):nodeOk e=true:=by
 cases d with
 | zero=>simp[Expr.deep]at h
 | succ d=>simp only[Expr.deep,zF]at h;exact h.1
theorem deep_kid {d:Nat} {e k:Expr} (h:e.deep (d+1)=true) (hk:k∈e.kids):k.deep d=true:=by
 simp only[Expr.deep,zF,List.all_eq_true]at h;exact h.2 k hk
theorem zp4 {e:Expr} (h:nodeOk e=true):1<=e.w/\e.w<=8:=by
 unfold nodeOk at h;grind
theorem zcW {e:Expr} (h:nodeOk e=true):arity e.op=(e.kids.length:Int):=by
 unfold nodeOk at h;grind
theorem zAC {a b:Nat} {k:Nat} (ha:a<2^k):a&&& b<2^k:=Nat.lt_of_le_of_lt Nat.and_le_left ha
theorem zyz (old now:List Int) (d:Nat): ∀e:Expr,e.deep d=true->0<=e.ev old now/\e.ev old now<2^e.w.toNat:=by
 induction d with
 | zero=>intro e h;simp[Expr.deep]at h
 | succ d ih=>
   intro e h;have hn:=deep_node h;have hw:=zp4 hn;have ha:=zcW hn;have hk: ∀k∈e.kids,0<=k.ev old now/\k.ev old now<2^k.w.toNat:=fun k hk=>ih k (deep_kid h hk)
   have hp0:=ziJ e.w.toNat;have hp2:(2:Int)<=2^e.w.toNat:=by have:=zkJ (i:=1) (k:=e.w.toNat) (by omega);simpa using this
   rw[Expr.ev_eq];obtain⟨op,w,n,ks⟩:=e;simp only[Expr.op_mk,Expr.w_mk,Expr.n_mk,Expr.kids_mk]at *;have hm: ∀a:Int,0<=a % 2^w.toNat/\a % 2^w.toNat<2^w.toNat:=fun a=>⟨Int.emod_nonneg _ (by omega),Int.emod_lt_of_pos _ hp0⟩
   have hcast:((2^w.toNat:Nat):Int)=2^w.toNat:=by simp
   rcases zdu op with rfl | rfl | rfl | rfl | rfl | rfl | rfl | rfl | rfl | rfl | rfl | rfl | rfl | rfl | hop
   rotate_right
   ·rw[zdF hop]at ha;omega
   all_goals(
    rcases ks with _ | ⟨a,_ | ⟨b,_ | ⟨c,_ | ⟨d,r⟩⟩⟩⟩
    all_goals(try(exfalso;simp[arity]at ha;(try omega);done)))
   all_goals(try(have hka:=hk a (by simp)))
   all_goals(try(have hkb:=hk b (by simp)))
   all_goals(try(have hkc:=hk c (by simp)))
   all_goals simp[nodeOk,Expr.kw,go_sem,arity]at hn
   all_goals simp[opv,go_sem]
   ·exact of_decide_eq_true hn.2
   ·exact hm _
   ·exact hm _
   ·rw[hn.2.2]at hka;omega
   ·rw[hn.2.2.1]at hka;have:=zAC (b:=(b.ev old now).toNat) (k:=w.toNat) (show(a.ev old now).toNat<2^w.toNat by omega);omega
   ·rw[hn.2.2.1]at hka;rw[hn.2.2.2]at hkb;have:=Nat.or_lt_two_pow (n:=w.toNat) (x:=(a.ev old now).toNat) (y:=(b.ev old now).toNat) (by omega) (by omega);omega
   ·rw[hn.2.2.1]at hka;rw[hn.2.2.2]at hkb;have:=Nat.xor_lt_two_pow (n:=w.toNat) (x:=(a.ev old now).toNat) (y:=(b.ev old now).toNat) (by omega) (by omega);omega
   ·exact hm _
   ·exact hm _
   ·exact hm _
   ·split<;>omega
   ·split<;>omega
   ·split<;>omega
   ·rw[hn.2.2.2.1]at hkb;rw[hn.2.2.2.2]at hkc;split<;>omega
theorem kids_fit {d:Nat} {e:Expr} (old now:List Int) (h:e.deep (d+1)=true):zAq e (e.kids.map (Expr.ev old now)):=by
 have hn:=deep_node h;refine⟨hn,by simp,?_,?_⟩
 ·intro x hx;obtain⟨k,hk,rfl⟩:=List.mem_map.1 hx;have h1:=zyz old now d k (deep_kid h hk);have h2:=zp4 (deep_node (deep_kid h hk));have h3:=zkJ (i:=k.w.toNat) (k:=8) (by omega);omega
 ·intro h14;have ha:=zcW hn;obtain⟨op,w,n,ks⟩:=e;simp only[Expr.op_mk,Expr.kids_mk]at *;subst h14;rcases ks with _ | ⟨a,_ | ⟨b,_ | ⟨c,_ | ⟨d,r⟩⟩⟩⟩
  all_goals(try(exfalso;simp[arity]at ha;(try omega);done))
  have h1:=zyz old now _ a (deep_kid h (by simp[Expr.kids_mk]));simp[nodeOk,Expr.kw,go_sem,arity]at hn;rw[hn.2.2.1,show(2:Int)^(Int.toNat 1)=2 from rfl]at h1;show _\/_;simp only[List.map_cons,List.getD_cons_zero];omega
def Expr.eval (e:Expr) (old now:List Int):Int:=if e.formed then e.ev old now else 0
theorem formed_deep {e:Expr} (h:e.formed=true):e.deep 40=true:=by
 simp only[Expr.formed,zF]at h;exact h.2
theorem zlT (n w:Int):Den Γ G 61 [vi n,vi w]=some (.agg [.t (ti (Expr.mk 1 w n []).op),.t (ti (Expr.mk 1 w n []).w),.t (ti (Expr.mk 1 w n []).n),.t (.sl ((Expr.mk 1 w n []).kids.map (Expr.enc)))]):=by
 (refine den_ofY Γ61 rfl ?_;dsimp only[f61])
 simp -dsimp [go_sem,appS,List.map_nil,and_self]
theorem zwu (n w:Int):Den Γ G 62 [vi n,vi w]=some (.agg [.t (ti (Expr.mk 2 w n []).op),.t (ti (Expr.mk 2 w n []).w),.t (ti (Expr.mk 2 w n []).n),.t (.sl ((Expr.mk 2 w n []).kids.map (Expr.enc)))]):=by
 (refine den_ofY Γ62 rfl ?_;dsimp only[f62])
 simp -dsimp [go_sem,appS,List.map_nil,and_self]
theorem zfW (ks:List Expr) (ws:List Int) (hl:ws.length<=3):Den Γ G 91 [.t (.sl (ks.map Expr.enc)),.t (ints ws)]=some (vb (decide (ks.map Expr.w=ws))):=by
 (refine den_ofY Γ91 rfl ?_;dsimp only[f91])
 simp -dsimp only[go_sem,seval];refine csplit (fun h=> ?_) (fun h=> ?_)<;>(try simp only[zab]at h)<;>(try simp -dsimp only[go_sem,seval, *])
 ·have : ¬ks.map Expr.w=ws:=fun he=>by have:=congrArg List.length he;simp at this;omega
  simp[this]
 ·have hlen:ks.length=ws.length:=by omega
  refine zaz 134201456 ws.length (fun i f=>(f 14).v=vi i/\(ks.take i).map Expr.w=ws.take i) rfl rfl ⟨by simp -dsimp only[go_sem,seval],by simp⟩ ?_;rintro i f u kk bb hi ⟨h14,ht⟩;have hw:=zah i (by omega);simp -dsimp only[go_sem,seval,h14];refine csplit (fun h=> ?_) (fun h=> ?_)<;>(try simp only[zab]at h)<;>(try simp -dsimp only[go_sem,seval, *])
  ·have hx:ws[i]? =some ws[i]:=zI (by omega);have hy:ks[i]? =some ks[i]:=zI (by omega);simp -dsimp only[go_sem,seval,h14,hx,hy];refine csplit (fun h=> ?_) (fun h=> ?_)<;>(try simp only[zab]at h)<;>(try simp -dsimp only[go_sem,seval, *])
   ·have : ¬ks.map Expr.w=ws:=fun he=>by
     have:=congrArg (fun l=>l[i]?) he;simp only[zJ,hx,hy,Option.map_some,zA]at this;contradiction
    simp[this]
   ·refine⟨by omega,by simp -dsimp only[go_sem,seval,hw],?_⟩;rw[zae hx,zae hy,List.map_append,ht];simp[h]
  ·have:i=ws.length:=by omega
   subst this;rw[List.take_length,<- hlen,List.take_length]at ht;simp[ht]
@[go_sem]theorem G_0:G 0=[ti 0,ti 1,ti 3,ti 7,ti 15,ti 31,ti 63,ti 127,ti 255]:=rfl
theorem zjp {w:Int} (h:1<=w/\w<=8):w=1\/w=2\/w=3\/w=4\/w=5\/w=6\/w=7\/w=8:=by omega
theorem zhr {op:Int} (h:5<=op/\op<=13):arity op=2:=by unfold arity;grind
theorem zb3 (op w n:Int) (ks:List Expr):nodeOk (.mk op w n ks)=
 if arity op≠ks.length\/w<1\/w>8 then false
 else if op=1 then decide (0<=n/\n<2^w.toNat)
 else if op=2\/op=3 then decide (0<=n/\n<32)
 else if op=4 then decide (n=0/\(Expr.mk op w n ks).kw 0=w)
 else if op=11\/op=12\/op=13 then decide (n=0/\w=1/\(Expr.mk op w n ks).kw 0=(Expr.mk op w n ks).kw 1)
 else if op=14 then decide (n=0/\(Expr.mk op w n ks).kw 0=1/\(Expr.mk op w n ks).kw 1=w/\(Expr.mk op w n ks).kw 2=w)
 else decide (n=0/\(Expr.mk op w n ks).kw 0=w/\(Expr.mk op w n ks).kw 1=w):=rfl
theorem zpf (op w n:Int) (a:Expr) (r:List Expr):(Expr.mk op w n (a::r)).kw 0=a.w:=rfl
theorem zp9 (op w n:Int) (a b:Expr) (r:List Expr):(Expr.mk op w n (a::b::r)).kw 1=b.w:=rfl
theorem zt6 (op w n:Int) (a b c:Expr) (r:List Expr):(Expr.mk op w n (a::b::c::r)).kw 2=c.w:=rfl
theorem zaK {op w n:Int} {ks:List Expr} (h:5<=op/\op<=10) (hw:1<=w/\w<=8):nodeOk (.mk op w n ks)=decide (n=0/\ks.map Expr.w=[w,w]):=by
 rw[zb3,zhr (show 5<=op/\op<=13 by omega),if_neg (show ¬op=1 by omega),if_neg (show ¬(op=2\/op=3)by omega),if_neg (show ¬op=4 by omega),if_neg (show ¬(op=11\/op=12\/op=13)by omega),if_neg (show ¬op=14 by omega)];rcases ks with _ | ⟨a,_ | ⟨b,_ | ⟨c,r⟩⟩⟩
 ·rw[if_pos (by simp)];simp
 ·rw[if_pos (by simp)];simp
 ·rw[if_neg (by simp;omega),zpf,zp9];simp
 ·rw[if_pos (by simp;omega)];simp
theorem zbD {op w n:Int} {ks:List Expr} (h:11<=op/\op<=13) (hw:1<=w/\w<=8):nodeOk (.mk op w n ks)=decide (n=0/\w=1/\ks.length=2/\(Expr.mk op w n ks).kw 0=(Expr.mk op w n ks).kw 1):=by
 rw[zb3,zhr (show 5<=op/\op<=13 by omega),if_neg (show ¬op=1 by omega),if_neg (show ¬(op=2\/op=3)by omega),if_neg (show ¬op=4 by omega),if_pos (show(op=11\/op=12\/op=13)by omega)]
 by_cases hl:ks.length=2
 ·rw[if_neg (by omega)];simp[hl]
 ·rw[if_pos (by omega)];simp[hl]
theorem zfv {w n:Int} {ks:List Expr} (hw:1<=w/\w<=8):nodeOk (.mk 4 w n ks)=decide (n=0/\ks.map Expr.w=[w]):=by
 rw[zb3,show arity 4=1 from rfl,if_neg (show ¬(4:Int)=1 by omega),if_neg (show ¬((4:Int)=2\/(4:Int)=3)by omega),if_pos rfl];rcases ks with _ | ⟨a,_ | ⟨b,r⟩⟩
 ·rw[if_pos (by simp)];simp
 ·rw[if_neg (by simp;omega),zpf];simp
 ·rw[if_pos (by simp;omega)];simp
theorem zfw {w n:Int} {ks:List Expr} (hw:1<=w/\w<=8):nodeOk (.mk 14 w n ks)=decide (n=0/\ks.map Expr.w=[1,w,w]):=by
 rw[zb3,show arity 14=3 from rfl,if_neg (show ¬(14:Int)=1 by omega),if_neg (show ¬((14:Int)=2\/(14:Int)=3)by omega),if_neg (show ¬(14:Int)=4 by omega),if_neg (show ¬((14:Int)=11\/(14:Int)=12\/(14:Int)=13)by omega),if_pos rfl];rcases ks with _ | ⟨a,_ | ⟨b,_ | ⟨c,_ | ⟨d,r⟩⟩⟩⟩
 ·rw[if_pos (by simp)];simp
 ·rw[if_pos (by simp)];simp
 ·rw[if_pos (by simp)];simp
 ·rw[if_neg (by simp;omega),zpf,zp9,zt6];simp
 ·rw[if_pos (by simp;omega)];simp
theorem zci {op w n:Int} {ks:List Expr} (h:1<=op/\op<=3) (hw:1<=w/\w<=8):nodeOk (.mk op w n ks)=decide (ks.length=0/\0<=n/\(if op=1 then n<2^w.toNat else n<32)):=by
 have ha:arity op=0:=by unfold arity;rw[if_pos h]
 rw[zb3,ha]
 by_cases hl:ks.length=0
 ·rw[if_neg (by omega)]
  by_cases h1:op=1
  ·simp[h1,hl]
  ·rw[if_neg h1,if_pos (by omega)];simp[h1,hl]
 ·rw[if_pos (by omega)];simp[hl]
theorem zfx {op w n:Int} {ks:List Expr} (h:op<1\/14<op):nodeOk (.mk op w n ks)=false:=by
 rw[zb3,zdF h,if_pos (by omega)]
theorem zkS {op w n:Int} {ks:List Expr} (h: ¬(1<=op/\op<=3)) (hw:1<=w/\w<=8) (hn: ¬n=0):nodeOk (.mk op w n ks)=false:=by
 rcases zdu op with rfl | rfl | rfl | rfl | rfl | rfl | rfl | rfl | rfl | rfl | rfl | rfl | rfl | rfl | hop
 ·omega
 ·omega
 ·omega
 ·rw[zfv hw];simp[hn]
 ·rw[zaK (by omega) hw];simp[hn]
 ·rw[zaK (by omega) hw];simp[hn]
 ·rw[zaK (by omega) hw];simp[hn]
 ·rw[zaK (by omega) hw];simp[hn]
 ·rw[zaK (by omega) hw];simp[hn]
 ·rw[zaK (by omega) hw];simp[hn]
 ·rw[zbD (by omega) hw];simp[hn]
 ·rw[zbD (by omega) hw];simp[hn]
 ·rw[zbD (by omega) hw];simp[hn]
 ·rw[zfw hw];simp[hn]
 ·exact zfx hop
set_option maxHeartbeats 4000000 in
theorem zjh (e:Expr):Den Γ G 71 [.t (.ip [ti e.op,ti e.w,ti e.n,.sl (e.kids.map Expr.enc)])]=some (vb (nodeOk e)):=by
 obtain⟨op,w,n,ks⟩:=e;simp only[Expr.op_mk,Expr.w_mk,Expr.n_mk,Expr.kids_mk]
 (refine den_ofY Γ71 rfl ?_;dsimp only[f71])
 by_cases hw:1<=w/\w<=8
 ·have h1: ¬w<1:=by omega
  have h2: ¬w>8:=by omega
  have hd1:=zfW ks [w] (by simp);have hd2:=zfW ks [w,w] (by simp);have hd3:=zfW ks [1,w,w] (by simp);simp only[ints,List.map_cons,List.map_nil]at hd1 hd2 hd3
  by_cases hleaf:op=1
  ·subst hleaf;rw[zci (by omega) hw];clear hd1 hd2 hd3;rcases zjp hw with rfl | rfl | rfl | rfl | rfl | rfl | rfl | rfl
   all_goals(
    simp -dsimp only[go_sem,seval]
    repeat'(refine csplit (fun h=> ?_) (fun h=> ?_)<;>(try simp only[zab]at h)<;>(try simp -dsimp only[go_sem,seval, *]))
    all_goals((try simp only[Int.reduceToNat,Int.reducePow,Int.reduceEq,reduceIte]);first | exact(decide_eq_false (by omega)).symm | (simp;done) | (apply decide_eq_decide.2;omega)))
  ·by_cases hleaf2:op=2\/op=3
   ·rw[zci (by omega) hw];clear hd1 hd2 hd3;rcases hleaf2 with rfl | rfl
    all_goals(
     simp -dsimp only[go_sem,seval,h1,h2]
     repeat'(refine csplit (fun h=> ?_) (fun h=> ?_)<;>(try simp only[zab]at h)<;>(try simp -dsimp only[go_sem,seval, *]))
     all_goals((try simp only[Int.reduceEq,reduceIte]);first | exact(decide_eq_false (by omega)).symm | (simp;done) | (apply decide_eq_decide.2;omega)))
   ·have e1: ¬op=2:=by omega
    have e2: ¬op=3:=by omega
    by_cases hn:n=0
    ·rcases zdu op with rfl | rfl | rfl | rfl | rfl | rfl | rfl | rfl | rfl | rfl | rfl | rfl | rfl | rfl | hop
     ·omega
     ·omega
     ·omega
     ·rw[zfv hw];simp -dsimp only[go_sem,seval,h1,h2,hn,hd1]
     ·rw[zaK (by omega) hw];simp -dsimp only[go_sem,seval,h1,h2,hn,hd2]
     ·rw[zaK (by omega) hw];simp -dsimp only[go_sem,seval,h1,h2,hn,hd2]
     ·rw[zaK (by omega) hw];simp -dsimp only[go_sem,seval,h1,h2,hn,hd2]
     ·rw[zaK (by omega) hw];simp -dsimp only[go_sem,seval,h1,h2,hn,hd2]
     ·rw[zaK (by omega) hw];simp -dsimp only[go_sem,seval,h1,h2,hn,hd2]
     ·rw[zaK (by omega) hw];simp -dsimp only[go_sem,seval,h1,h2,hn,hd2]
     ·rw[zbD (by omega) hw];rcases ks with _ | ⟨a,_ | ⟨b,_ | ⟨c,r⟩⟩⟩
      all_goals(
       simp -dsimp only[go_sem,seval,h1,h2,hn]
       repeat'(refine csplit (fun h=> ?_) (fun h=> ?_)<;>(try simp only[zab]at h)<;>(try simp -dsimp only[go_sem,seval, *]))
       all_goals(simp[zpf,zp9, *])
       all_goals(first | rfl | omega))
     ·rw[zbD (by omega) hw];rcases ks with _ | ⟨a,_ | ⟨b,_ | ⟨c,r⟩⟩⟩
      all_goals(
       simp -dsimp only[go_sem,seval,h1,h2,hn]
       repeat'(refine csplit (fun h=> ?_) (fun h=> ?_)<;>(try simp only[zab]at h)<;>(try simp -dsimp only[go_sem,seval, *]))
       all_goals(simp[zpf,zp9, *])
       all_goals(first | rfl | omega))
     ·rw[zbD (by omega) hw];rcases ks with _ | ⟨a,_ | ⟨b,_ | ⟨c,r⟩⟩⟩
      all_goals(
       simp -dsimp only[go_sem,seval,h1,h2,hn]
       repeat'(refine csplit (fun h=> ?_) (fun h=> ?_)<;>(try simp only[zab]at h)<;>(try simp -dsimp only[go_sem,seval, *]))
       all_goals(simp[zpf,zp9, *])
       all_goals(first | rfl | omega))
     ·rw[zfw hw];simp -dsimp only[go_sem,seval,h1,h2,hn,hd3]
     ·rw[zfx hop];have n1: ¬op=4:=by omega
      have n2: ¬op=5:=by omega
      have n3: ¬op=6:=by omega
      have n4: ¬op=7:=by omega
      have n5: ¬op=8:=by omega
      have n6: ¬op=9:=by omega
      have n7: ¬op=10:=by omega
      have n8: ¬op=11:=by omega
      have n9: ¬op=12:=by omega
      have n10: ¬op=13:=by omega
      have n11: ¬op=14:=by omega
      simp -dsimp only[go_sem,seval,h1,h2,hn,hleaf,e1,e2,n1,n2,n3,n4,n5,n6,n7,n8,n9,n10,n11]
    ·rw[zkS (by omega) hw hn];simp -dsimp only[go_sem,seval,h1,h2,hleaf,e1,e2,hn]
 ·by_cases h1:w<1
  ·simp -dsimp only[go_sem,seval,h1];simp only[nodeOk,go_sem];grind
  ·have h2:w>8:=by omega
   simp -dsimp only[go_sem,seval,h1,h2];simp only[nodeOk,go_sem];grind
end Rg
end
section
namespace Rg
open Go
theorem zgy {α:Type} (f:Nat->α) (i:Nat) (v w:α):updC (updC f i v) i w=updC f i w:=by
 rw[zak];funext j;unfold upd;split<;>rfl
def zte (h:Nat->Option O) (kc:Nat) (v:V) (e:Expr):Prop:=
 v= .t (.ip [ti e.op,ti e.w,ti e.n,.sl (e.kids.map Expr.enc)])\/
 ∃k fz,v= .mp k 0 0/\k≠kc/\h k=some (.rows 4 [[.t (ti e.op),.t (ti e.w),.t (ti e.n),.t (.sl (e.kids.map Expr.enc))]] fz)
theorem visit_den (d:Nat): ∀(e:Expr) (v:V) (c:Int) (H:Nat->Option O) (n kc kv:Nat) (fz:Bool),
 d<=40->zte H kc v e->0<=c->c<=600->kv≠kc->H kc=some (.rows 1 [[vi c]] false)->H kv=some (.rows 1 [[.fn 70 [] [.mp kc 0 0,.mp kv 0 0]]] fz)->
 ∃r h' n',DenR Γ G 70 [v,vi (41-d),.mp kc 0 0,.mp kv 0 0] H n=some (r,h',n')/\
  r=vb (e.deep d&&decide (c+e.size<=600))/\ ∃c':Int,h'=updC H kc (some (.rows 1 [[vi c']] false))/\(e.deep d=true->c+e.size<=600->c'=c+e.size):=by
 induction d with
 | zero=>
   intro e v c H n kc kv fz hd hv hc0 hc hne hkc hkv
   (refine denR_ofY Γ70 rfl ?_;dsimp only[f70])
   have hw:IntKind.i64.wrap (c+1)=c+1:=zan (by omega);have hdep:(41-((0:Nat):Int))>40:=by omega
   rcases hv with rfl | ⟨k,fk,rfl,hk,hkk⟩
   all_goals(
    simp -dsimp only[go_sem,seval,hkc,hw,hdep]
    repeat'(refine csplit (fun h=> ?_) (fun h=> ?_)<;>(try simp only[zab]at h)<;>(try simp -dsimp only[go_sem,seval, *]))
    all_goals(exact⟨by simp -dsimp only[go_sem,seval,Expr.deep,Bool.false_and],c+1,by simp -dsimp only[go_sem,seval],by simp[Expr.deep]⟩))
 | succ d ih=>
   intro e v c H n kc kv fz hd hv hc0 hc hne hkc hkv
   (refine denR_ofY Γ70 rfl ?_;dsimp only[f70])
   have hw:IntKind.i64.wrap (c+1)=c+1:=zan (by omega);have hdep: ¬(41-((d+1:Nat):Int))>40:=by omega
   have hw2:IntKind.i64.wrap (41-((d+1:Nat):Int)+1)=41-(d:Int):=by rw[zan (by omega)];omega
   have hsh:=zjh e;have hsz:=Expr.size_eq e;have hpos:=Expr.size_pos e;rcases hv with rfl | ⟨k,fk,rfl,hk,hkk⟩
   all_goals(
    have hk0:=hw
    (try have hk0:=hk)
    simp -dsimp only[go_sem,seval,hkc,hw,hdep];refine csplit (fun h=> ?_) (fun h=> ?_)<;>(try simp only[zab]at h)<;>(try simp -dsimp only[go_sem,seval, *])
    ·refine⟨?_,c+1,by simp -dsimp only[go_sem,seval],fun _ hle=>by omega⟩;simp -dsimp only[go_sem,seval];have : ¬(c+(e.size:Int)<=600):=by omega
     simp[this]
    ·refine csplit (fun h=> ?_) (fun h=> ?_)<;>(try simp only[zab]at h)<;>(try simp -dsimp only[go_sem,seval, *])
     ·refine⟨?_,c+1,by simp -dsimp only[go_sem,seval],fun hdp=>by rw[deep_node hdp]at h;simp at h⟩;simp -dsimp only[go_sem,seval];simp[Expr.deep,h]
     ·have hlen:=zb4 h
      refine zaj 2198956146880 e.kids.length (fun i f hh x=>(f 26).v=vi i/\ ∃c':Int,hh=updC H kc (some (.rows 1 [[vi c']] false))/\c'=c+1+((e.kids.take i).map Expr.size).sum/\c'<=600/\(e.kids.take i).all (Expr.deep d)=true) rfl
       ⟨by simp -dsimp only[go_sem,seval],c+1,by simp -dsimp only[go_sem,seval],by simp,by omega,by simp⟩ ?_
      rintro i f u hh x bs hi ⟨h26,c',rfl,hc',hle,hall⟩;have hwi:=zah i (by omega);simp -dsimp only[go_sem,seval,h26];refine csplit (fun h=> ?_) (fun h=> ?_)<;>(try simp only[zab]at h)<;>(try simp -dsimp only[go_sem,seval, *])
      ·obtain⟨y,hy,hm⟩:=zaf ‹i<e.kids.length›;simp -dsimp only[go_sem,seval,h26,hy,hne,hkv,hw2,hk0];refine zav (ih y _ c' _ _ kc kv fz (by omega) (.inl rfl) (by omega) hle hne (by rw[zac];simp) (by rw[zac];simp[hne,hkv])) ?_;rintro r h' n' ⟨rfl,c2,rfl,hc2⟩;simp -dsimp only[go_sem,seval];have hts:=Expr.take_le_size e.kids (i+1)
       have ht1:((e.kids.take (i+1)).map Expr.size).sum=((e.kids.take i).map Expr.size).sum+y.size:=by
        rw[zae hy];simp
       refine csplit (fun h=> ?_) (fun h=> ?_)<;>(try simp only[zab]at h)<;>(try simp -dsimp only[go_sem,seval, *])
       ·refine⟨?_,c2,by simp -dsimp only[go_sem,seval,zgy],fun hdp hle2=> ?_⟩
        ·simp -dsimp only[go_sem,seval];simp only[Bool.and_eq_false_iff,decide_eq_false_iff_not]at h;rcases h with h | h
         ·rw[Expr.deep,zaZ hm h];simp
         ·have : ¬c+(e.size:Int)<=600:=by omega
          simp[this]
        ·have hy1:=deep_kid hdp hm;have:c'+(y.size:Int)<=600:=by omega
         simp[hy1,this]at h
       ·simp only[zF,decide_eq_true_eq]at h;have h2:=hc2 h.1 h.2;exact⟨by omega,by simp -dsimp only[go_sem,seval,hwi],c2,by simp -dsimp only[go_sem,seval,zgy],by omega,by omega,zbC hy hall h.1⟩
      ·have:i=e.kids.length:=by omega
       subst this;rw[List.take_length]at hall hc';refine⟨?_,c',by simp -dsimp only[go_sem,seval],fun hdp hle2=>by omega⟩;simp -dsimp only[go_sem,seval];have:c+(e.size:Int)<=600:=by omega
       simp[Expr.deep,hall,this,‹nodeOk e=true›])
theorem zc2 (e:Expr):Den Γ G 51 [(.agg [.t (ti (e).op),.t (ti (e).w),.t (ti (e).n),.t (.sl ((e).kids.map (Expr.enc)))])]=some (vb e.formed):=by
 (refine den_ofY Γ51 rfl ?_;dsimp only[f51])
 simp -dsimp only[go_sem,seval];refine zav (visit_den 40 e _ 0 _ _ _ _ false (by omega) (.inr ⟨_,false,rfl,?_,?_⟩) (by omega) (by omega) ?_ ?_ ?_) ?_
 ·decide
 ·simp -dsimp only[go_sem,seval]
 ·decide
 ·simp -dsimp only[go_sem,seval]
 ·simp -dsimp only[go_sem,seval]
 ·rintro r h' n' ⟨rfl,c',rfl,_⟩;simp -dsimp only[go_sem,seval];simp only[Expr.formed];rw[Bool.and_comm]
  congr 1
  by_cases h:e.size<=600
  ·simp[h];omega
  ·simp[h];omega
theorem zyL (l:List Int) (n:Int) (hn:0<=n):Den Γ G 72 [.t (ints l),vi n]=some (vi (atI l n)):=by
 (refine den_ofY Γ72 rfl ?_;dsimp only[f72])
 rcases hc:l[n.toNat]? with _ | c
 ·have hge: ¬n<(l.length:Int):=by rw[List.getElem?_eq_none_iff]at hc;omega
  simp -dsimp only[go_sem,seval,hge];simp[atI,List.getD,hc]
 ·have hge:n<(l.length:Int):=by have:=(zH.1 hc).1;omega
  simp -dsimp only[go_sem,seval,hge,hn,hc];simp[atI,List.getD,hc]
theorem zy6 (b:Bool):Den Γ G 92 [vb b]=some (vi (if b then 1 else 0)):=by
 (refine den_ofY Γ92 rfl ?_;dsimp only[f92])
 cases b
 ·simp -dsimp only[go_sem,seval]
 ·simp -dsimp only[go_sem,seval]
theorem zAk {a:Int} (ha:0<=a/\a<2^62):IntKind.i64.wrap ((BitVec.ofInt IntKind.i64.bits (-1)^^^ BitVec.ofInt IntKind.i64.bits a).toNat)= -1-a:=by
 show IntKind.i64.wrap ((BitVec.ofInt 64 (-1)^^^ BitVec.ofInt 64 a).toNat)=_;have h1:BitVec.ofInt 64 (-1)=BitVec.allOnes 64:=by decide
 rw[h1,BitVec.allOnes_xor,BitVec.toNat_not,zxS ha,IntKind.wrap_i64];omega
def appP (op a b c:Int):Int:=
 if op=4 then -1-a
 else if op=5 then((a.toNat&&& b.toNat:Nat):Int)
 else if op=6 then((a.toNat ||| b.toNat:Nat):Int)
 else if op=7 then((a.toNat^^^ b.toNat:Nat):Int)
 else if op=8 then a+b
 else if op=9 then a-b
 else if op=10 then a*b
 else if op=11 then(if a=b then 1 else 0)
 else if op=12 then(if a<b then 1 else 0)
 else if op=13 then(if a<=b then 1 else 0)
 else if op=14 then(if a=1 then b else c)
 else 0
set_option maxHeartbeats 2000000 in
theorem zyp (op a b c:Int) (hop:4<=op/\op<=14) (ha:0<=a/\a<256) (hb:0<=b/\b<256) (hc:0<=c/\c<256):Den Γ G 73 [vi op,.agg [vi a,vi b,vi c]]=some (vi (appP op a b c)):=by
 (refine den_ofY Γ73 rfl ?_;dsimp only[f73])
 have hand:=zzr (a:=a) (b:=b) (by omega) (by omega);have hor:=zzI (a:=a) (b:=b) (by omega) (by omega);have hxor:=zy5 (a:=a) (b:=b) (by omega) (by omega);have hnot:=zAk (a:=a) (by omega)
 have hmul:0<=a*b/\a*b<=65536:=⟨Int.mul_nonneg ha.1 hb.1,by
  have h1:a*b<=256*b:=Int.mul_le_mul_of_nonneg_right (by omega) hb.1
  omega⟩
 have hw1:IntKind.i64.wrap (a+b)=a+b:=zan (by omega);have hw2:IntKind.i64.wrap (a+ -b)=a-b:=by rw[zan (by omega)];omega
 have hw3:IntKind.i64.wrap (0-b)= -b:=by rw[zan (by omega)];omega
 have hw4:IntKind.i64.wrap (a*b)=a*b:=zan (by omega);have ht1:=zy6 (decide (a=b));have ht2:=zy6 (decide (a<b));have hsg:IntKind.i64.signed=true:=rfl;have hcs:op=4\/op=5\/op=6\/op=7\/op=8\/op=9\/op=10\/op=11\/op=12\/op=13\/op=14:=by omega
 clear hmul hop;rcases hcs with rfl | rfl | rfl | rfl | rfl | rfl | rfl | rfl | rfl | rfl | rfl
 ·simp -dsimp only[go_sem,seval,hnot,hsg];rfl
 ·simp -dsimp only[go_sem,seval,hand];rfl
 ·simp -dsimp only[go_sem,seval,hor];rfl
 ·simp -dsimp only[go_sem,seval,hxor];rfl
 ·simp -dsimp only[go_sem,seval,hw1];rfl
 ·simp -dsimp only[go_sem,seval,hw2,hw3];rfl
 ·simp -dsimp only[go_sem,seval,hw4];rfl
 ·simp -dsimp only[go_sem,seval,ht1];simp[appP]
 ·simp -dsimp only[go_sem,seval,ht2];simp[appP]
 ·simp -dsimp only[go_sem,seval,ht2];refine csplit (fun h=> ?_) (fun h=> ?_)<;>(try simp only[zab]at h)<;>(try simp -dsimp only[go_sem,seval, *])
  ·simp[appP,h]
  ·have:a<=b<->a<b:=by omega
   simp[appP,this]
 ·simp -dsimp only[go_sem,seval];refine csplit (fun h=> ?_) (fun h=> ?_)<;>(try simp only[zab]at h)<;>(try simp -dsimp only[go_sem,seval, *])
  ·simp[appP]
  ·simp[appP,h]
end Rg
end
