/- Part of the proof of laws of relyguardlaw31. No condition. -/
import Derived.Test.YtcmeofagpechdaaGreatDoorPartAT
import Derived.Test.YtcmeofagpechdaaGreatDoorPartAQ
import Derived.Test.YtcmeofagpechdaaGreatDoorPartAO
set_option linter.unusedSimpArgs false
set_option linter.unusedVariables false
section
namespace Rg
open Go
def zp1 (r x y t u:Int):Bool:=
 (decide (x<r)&&decide (y<r)&&decide (x.tdiv 2=y.tdiv 2)&&(decide (x.tmod 2=1)||decide (y.tmod 2=1))) ||
 (((decide (x>=r)&&decide (x.tmod 2=0))&&decide ((x-r).tdiv 2=u))||((decide (y>=r)&&decide (y.tmod 2=1))&&decide ((y-r).tdiv 2=t)) ||
  ((decide (x>=r)&&decide (x.tmod 2=0))&&(decide (y>=r)&&decide (y.tmod 2=1))&&decide (x.tdiv 2=y.tdiv 2)))
def precM (n m c d:Nat):Bool:=zp1 (2*n) (c % (2*(n+m)):Nat) (d % (2*(n+m)):Nat) (c/ (2*(n+m)):Nat) (d/ (2*(n+m)):Nat)
theorem zcd {x:Int} (h: -4611686018427387904<=x/\x<=4611686018427387904):IntKind.i64.wrap (x.tdiv 2)=x.tdiv 2:=by
 apply zan;rcases Int.le_total 0 x with h0 | h0
 ·rw[Int.tdiv_eq_ediv_of_nonneg h0];omega
 ·have:x.tdiv 2= -((-x)/ 2):=by
   rw[<- Int.tdiv_eq_ediv_of_nonneg (by omega),Int.neg_tdiv,Int.neg_neg]
  omega
set_option maxHeartbeats 1000000
theorem zmP (cs ms ls ts:List (List T)) (tl:List T) (c d:Nat) (hc:cs.length<2^48) (ht:ts.length<2^48) (h0:0<cs.length+ts.length) (hb:c<2^62) (hd:d<2^62):
 Den Γ G 321 [.t (.ip (.sl cs:: .sl ms:: .sl ls:: .sl ts::tl)),vi c,vi d]=some (vb (precM cs.length ts.length c d)):=by
 (refine den_ofY Γ321 rfl ?_;dsimp only[zrx])
 have h1:=zeS cs ms ls ts tl hc ht;have h2:=zbL cs ms ls ts tl c hc ht h0 hb;have h3:=zbL cs ms ls ts tl d hc ht h0 hd;have hz:(2*((cs.length:Int)+ts.length)=0)=False:=by simp;omega
 have hm: ∀c:Nat,((c:Int)).tmod (2*((cs.length:Int)+ts.length))=((c % (2*(cs.length+ts.length)):Nat):Int):=by
  intro c;rw[Int.tmod_eq_emod_of_nonneg (by omega)];push_cast;rfl
 have hx:c % (2*(cs.length+ts.length))<2*(cs.length+ts.length):=Nat.mod_lt _ (by omega);have hy:d % (2*(cs.length+ts.length))<2*(cs.length+ts.length):=Nat.mod_lt _ (by omega);have hw:=zan (n:=2*(cs.length:Int)) (by omega);unfold precM;simp -dsimp only[go_sem,seval,h1,h2,h3,hz,hm,hw]
 generalize c % (2*(cs.length+ts.length))=x at hx⊢
 generalize d % (2*(cs.length+ts.length))=y at hy⊢
 generalize c/ (2*(cs.length+ts.length))=t
 generalize d/ (2*(cs.length+ts.length))=u
 have a1:=zcd (x:=(x:Int)) (by omega);have a2:=zcd (x:=(y:Int)) (by omega);have a3:=zan (n:=(x:Int)-2*cs.length) (by omega);have a4:=zan (n:=(y:Int)-2*cs.length) (by omega);have a5:=zcd (x:=(x:Int)-2*cs.length) (by omega);have a6:=zcd (x:=(y:Int)-2*cs.length) (by omega);simp only[zp1]
 generalize hX2:(x:Int).tdiv 2=X2 at a1⊢
 generalize hY2:(y:Int).tdiv 2=Y2 at a2⊢
 generalize hXm:(x:Int).tmod 2=Xm
 generalize hYm:(y:Int).tmod 2=Ym
 generalize hXr:((x:Int)-2*cs.length).tdiv 2=Xr at a5⊢
 generalize hYr:((y:Int)-2*cs.length).tdiv 2=Yr at a6⊢
 repeat'(refine csplit (fun h=> ?_) (fun h=> ?_)<;>(try simp only[zab]at h)<;>(try simp -dsimp only[go_sem,seval,a1,a2,a3,a4,a5,a6,hX2,hY2,hXm,hYm,hXr,hYr, *]))
 all_goals(clear h1 h2 h3 hm hz hw a1 a2 a3 a4 a5 a6 hX2 hY2 hXm hYm hXr hYr)
 all_goals simp_all
 all_goals try omega
end Rg
end
section
namespace Rg
open Go
theorem zhc (cs ms ls ts st:List (List T)) (tl:List T) (a b c d e f s0 s1 s2 s3 s4 s5 s6 s7 s8 s9 s10:T) (t k:Nat) (x:Int) (w:Bool) (H:Nat->Option O) (n:Nat)
 (ht:ts[t]? =some [a,b,c,d,.sl st,e,f]) (hk:st[k]? =some [s0,s1,s2,s3,s4,s5,s6,s7,s8,s9,s10]):
 ∃r h' n',DenR Γ G 310 [.t (.ip (.sl cs:: .sl ms:: .sl ls:: .sl ts::tl)),.agg [vi t,vi k,vi x,vb w]] H n=some (r,h',n')/\r= .agg ([s0,s1,s2,s3,s4,s5,s6,s7,s8,s9,s10].map V.t)/\h'=H:=by
 have hb:=(zH.1 ht).1;have hb2:=(zH.1 hk).1
 (refine denR_ofY Γ310 rfl ?_;dsimp only[zqg])
 simp -dsimp only[go_sem,seval,ht,hk];exact⟨rfl,rfl⟩
theorem zjA (cs ms ls ts st:List (List T)) (tl:List T) (a b c d e f s1 s2 s3 s4 s5 s6 s7 s8 s9 s10:T) (kd:Int) (t k:Nat) (x:Int) (w:Bool)
 (ht:ts[t]? =some [a,b,c,d,.sl st,e,f]) (hk:st[k]? =some [.int .i64 kd,s1,s2,s3,s4,s5,s6,s7,s8,s9,s10]):
 Den Γ G 318 [.t (.ip (.sl cs:: .sl ms:: .sl ls:: .sl ts::tl)),.agg [vi t,vi k,vi x,vb w]]=some (vb (w&&decide (kd=3))):=by
 (refine den_ofY Γ318 rfl ?_;dsimp only[zrA])
 cases w
 ·simp -dsimp only[go_sem,seval];simp
 ·simp -dsimp only[go_sem,seval];obtain⟨_,_,n',h1,rfl,rfl⟩:=zhc cs ms ls ts st tl a b c d e f _ s1 s2 s3 s4 s5 s6 s7 s8 s9 s10 t k x true (fun _=>none) 12 ht hk;simp -dsimp only[go_sem,seval,h1]
  try trace_state
def lateM (model kd:Int) (rel w:Bool):Bool:=
 if w then decide (model=2)&&(decide (kd=3)&& !rel)else decide (kd=2)&&(decide (model=1)||decide (model=2))
theorem zlu (cs ms ls ts st:List (List T)) (tl:List T) (a b c d e f s1 s2 s3 s4 s5 s6 s7 s9 s10:T) (kd model:Int) (rel:Bool) (t k:Nat) (x:Int) (w:Bool)
 (ht:ts[t]? =some [a,b,c,d,.sl st,e,f]) (hk:st[k]? =some [.int .i64 kd,s1,s2,s3,s4,s5,s6,s7,.bool rel,s9,s10]):
 Den Γ G 319 [.t (.ip (.sl cs:: .sl ms:: .sl ls:: .sl ts:: .int .i64 model::tl)),.agg [vi t,vi k,vi x,vb w]]=some (vb (lateM model kd rel w)):=by
 (refine den_ofY Γ319 rfl ?_;dsimp only[zrz])
 simp -dsimp only[go_sem,seval];obtain⟨_,_,n',h1,rfl,rfl⟩:=zhc cs ms ls ts st (.int .i64 model::tl) a b c d e f _ s1 s2 s3 s4 s5 s6 s7 (.bool rel) s9 s10 t k x w (fun _=>none) 7 ht hk;cases w<;>cases rel<;>simp -dsimp only[go_sem,seval,h1]
 all_goals repeat'(refine csplit (fun h=> ?_) (fun h=> ?_)<;>(try simp only[zab]at h)<;>(try simp -dsimp only[go_sem,seval, *]))
 all_goals(clear h1;simp_all [lateM])
 all_goals try omega
theorem zeF (n:Int) (hn:n<=62):Den Γ G 33 [vi n]=some (vi (2^n.toNat)):=by
 (refine den_ofY Γ33 rfl ?_;dsimp only[f33])
 simp -dsimp only[go_sem,seval];refine zaz 4088 n.toNat (fun i f=>(f 4).v=vi i/\(f 3).v=vi (2^i)) rfl rfl ⟨by simp -dsimp only[go_sem,seval],by simp -dsimp only[go_sem,seval,Int.pow_zero]⟩ ?_;rintro i f u kk bb hi ⟨h4,h3⟩;have hw:=zah i (by omega);simp -dsimp only[go_sem,seval,h4,h3,hw];refine csplit (fun h=> ?_) (fun h=> ?_)<;>(try simp only[zab]at h)<;>(try simp -dsimp only[go_sem,seval,h4,h3,hw, *])
 ·have h2:(2:Int)^i<=2^61:=zkJ (by omega);have h3':=ziJ i;have hp:IntKind.i64.wrap ((2:Int)^i*2)=2^(i+1):=by rw[zan (by omega),Int.pow_succ]
  exact⟨by omega,by simp -dsimp only[go_sem,seval],by simp -dsimp only[go_sem,seval,hp]⟩
 ·have:i=n.toNat:=by omega
  rw[this]
def arity (op:Int):Int:=
 if 1<=op/\op<=3 then 0 else if op=4 then 1 else if 5<=op/\op<=13 then 2 else if op=14 then 3 else -1
theorem zl3 (op:Int):Den Γ G 116 [vi op]=some (vi (arity op)):=by
 (refine den_ofY Γ116 rfl ?_;dsimp only[f116])
 simp -dsimp only[go_sem,seval]
 repeat'(refine csplit (fun h=> ?_) (fun h=> ?_)<;>(try simp only[zab]at h)<;>(try simp -dsimp only[go_sem,seval, *]))
 all_goals(unfold arity;grind)
theorem ziw (e:Expr): ∀l:Int,l<2^40->Den Γ G 47 [(.agg [.t (ti (e).op),.t (ti (e).w),.t (ti (e).n),.t (.sl ((e).kids.map (Expr.enc)))]),vi l]=some (vi (if l<=0 then 0 else min (e.size:Int) l)):=by
 induction e using Expr.ind with
 | _ e ih=>
 intro l hl;have hsz:=Expr.size_eq e;have hlen:=Expr.len_le_size e.kids
 (refine den_ofY Γ47 rfl ?_;dsimp only[f47])
 simp -dsimp only[go_sem,seval];refine csplit (fun h=> ?_) (fun h=> ?_)<;>(try simp only[zab]at h)<;>(try simp -dsimp only[go_sem,seval, *])
 refine zaz 4294966880 e.kids.length (fun i f=>(f 6).v=vi i/\(f 5).v=vi (min (1+((e.kids.take i).map Expr.size).sum:Nat) l)) rfl rfl ⟨by simp -dsimp only[go_sem,seval],by simp -dsimp only[go_sem,seval];simp;omega⟩ ?_;rintro i f u kk bb hi ⟨h6,h5⟩;have hp:=Expr.take_le_size e.kids i;have hi':=Expr.len_le_size (e.kids.take i);rw[List.length_take,Nat.min_eq_left hi]at hi';simp -dsimp only[go_sem,seval,h6,h5];refine csplit (fun h=> ?_) (fun h=> ?_)<;>(try simp only[zab]at h)<;>(try simp -dsimp only[go_sem,seval,h6,h5, *])
 ·refine csplit (fun h=> ?_) (fun h=> ?_)<;>(try simp only[zab]at h)<;>(try simp -dsimp only[go_sem,seval,h6,h5, *])
  ·have hw:=zah i (by omega);obtain⟨x,hx,hm⟩:=zaf ‹i<e.kids.length›;have ht:=zae hx;have hn1:min (((1+((e.kids.take i).map Expr.size).sum:Nat):Int)) l=((1+((e.kids.take i).map Expr.size).sum:Nat):Int):=by omega
   rw[hn1]at h5;have hw1:IntKind.i64.wrap (l-((1+((e.kids.take i).map Expr.size).sum:Nat):Int))=l-((1+((e.kids.take i).map Expr.size).sum:Nat):Int):=zan (by omega);have hd:=ih x hm (l-((1+((e.kids.take i).map Expr.size).sum:Nat):Int)) (by omega);simp -dsimp only[go_sem,seval,h6,h5,hw,hx,hw1,hd];refine⟨by omega,by simp -dsimp only[go_sem,seval],?_⟩;simp -dsimp only[go_sem,seval];rw[if_neg (by omega),ht,zan (by omega)];simp only[List.map_append,List.sum_append,List.map_cons,List.map_nil,List.sum_cons,List.sum_nil];omega
  ·omega
 ·have:i=e.kids.length:=by omega
  subst this;rw[List.take_length];omega
def nodeOk (e:Expr):Bool:=
 if arity e.op≠e.kids.length\/e.w<1\/e.w>8 then false
 else if e.op=1 then decide (0<=e.n/\e.n<2^e.w.toNat)
 else if e.op=2\/e.op=3 then decide (0<=e.n/\e.n<32)
 else if e.op=4 then decide (e.n=0/\e.kw 0=e.w)
 else if e.op=11\/e.op=12\/e.op=13 then decide (e.n=0/\e.w=1/\e.kw 0=e.kw 1)
 else if e.op=14 then decide (e.n=0/\e.kw 0=1/\e.kw 1=e.w/\e.kw 2=e.w)
 else decide (e.n=0/\e.kw 0=e.w/\e.kw 1=e.w)
def Expr.deep:Nat->Expr->Bool
 | 0,_=>false
 | d+1,e=>nodeOk e&&e.kids.all (Expr.deep d)
theorem zbC {α:Type} {l:List α} {i:Nat} {x:α} {p:α->Bool} (h:l[i]? =some x) (h1:(l.take i).all p=true) (h2:p x=true):(l.take (i+1)).all p=true:=by
 rw[zae h,List.all_append,h1];simp[h2]
theorem zaZ {α:Type} {l:List α} {x:α} {p:α->Bool} (h:x∈l) (h2:p x=false):l.all p=false:=by
 rw[List.all_eq_false];exact⟨x,h,by simp[h2]⟩
theorem znI (op:Int):arity op<=3:=by unfold arity;grind
theorem zb4 {e:Expr} (h:nodeOk e=true):e.kids.length<=3:=by
 have:=znI e.op;unfold nodeOk at h;split at h
 ·simp at h
 ·rename_i h';simp only[not_or,Decidable.not_not]at h';omega
end Rg
end
section
-- FULL
namespace Rg
open Go
theorem zdu (op:Int):op=1\/op=2\/op=3\/op=4\/op=5\/op=6\/op=7\/op=8\/op=9\/op=10\/op=11\/op=12\/op=13\/op=14\/(op<1\/14<op):=by omega
theorem zdF {op:Int} (h:op<1\/14<op):arity op= -1:=by unfold arity;grind
set_option maxHeartbeats 2000000
theorem zmX (e:Expr):Den Γ G 89 [(.agg [.t (ti (e).op),.t (ti (e).w),.t (ti (e).n),.t (.sl ((e).kids.map (Expr.enc)))])]=some (vb (nodeOk e)):=by
 (refine den_ofY Γ89 rfl ?_;dsimp only[f89])
 obtain⟨op,w,n,ks⟩:=e;have ha:=zl3 op
 by_cases hk:arity op=(ks.length:Int)
 ·by_cases hw:1<=w/\w<=8
  ·have h1: ¬w<1:=by omega
   have h2: ¬w>8:=by omega
   have hp:=zeF w (by omega);rcases zdu op with rfl | rfl | rfl | rfl | rfl | rfl | rfl | rfl | rfl | rfl | rfl | rfl | rfl | rfl | hop
   rotate_right
   ·rw[zdF hop]at hk;omega
   all_goals(
    rcases ks with _ | ⟨a,_ | ⟨b,_ | ⟨c,_ | ⟨d,r⟩⟩⟩⟩
    all_goals(try(exfalso;simp[arity]at hk;(try omega);done))
    all_goals(
     simp -dsimp [go_sem,ha,hp,hk,h1,h2,bne_self_eq_false]
     repeat'(refine csplit (fun h=> ?_) (fun h=> ?_)<;>(try simp only[zab]at h)<;>(try simp -dsimp [go_sem,hp, *]))
     all_goals(simp only[nodeOk,go_sem,Expr.kw,List.getD_cons_zero,List.getD_cons_succ];grind)))
  ·by_cases h1:w<1
   ·simp -dsimp [go_sem,ha,hk,bne_self_eq_false,h1];simp only[nodeOk,go_sem];grind
   ·have h2:w>8:=by omega
    simp -dsimp [go_sem,ha,hk,bne_self_eq_false,h1,h2];simp only[nodeOk,go_sem];grind
 ·have hk':(arity op != (ks.length:Int))=true:=by simpa using hk
  simp -dsimp [go_sem,ha,hk'];simp only[nodeOk,go_sem];grind
end Rg
end
section
namespace Rg
open Go
theorem znp (d:Nat): ∀(e:Expr) (l:Int),l.toNat=d->l<=100->Den Γ G 68 [(.agg [.t (ti (e).op),.t (ti (e).w),.t (ti (e).n),.t (.sl ((e).kids.map (Expr.enc)))]),vi l]=some (vb (e.deep d)):=by
 induction d with
 | zero=>
   intro e l hl hl'
   (refine den_ofY Γ68 rfl ?_;dsimp only[f68])
   have h1:l<1:=by omega
   simp -dsimp only[go_sem,seval,h1]
   rfl
 | succ d ih=>
   intro e l hl hl'
   (refine den_ofY Γ68 rfl ?_;dsimp only[f68])
   have h1: ¬l<1:=by omega
   have hn:=zmX e;simp -dsimp only[go_sem,seval,h1,hn];refine csplit (fun h=> ?_) (fun h=> ?_)<;>(try simp only[zab]at h)<;>(try simp -dsimp only[go_sem,seval, *])
   ·simp only[Expr.deep,h,Bool.false_and]
   ·have hlen:=zb4 h;refine zaz 536862768 e.kids.length (fun i f=>(f 5).v=vi i/\(e.kids.take i).all (Expr.deep d)=true) rfl rfl ⟨by simp -dsimp only[go_sem,seval],by simp⟩ ?_;rintro i f u kk bb hi ⟨h5,hall⟩;have hw:=zah i (by omega);simp -dsimp only[go_sem,seval,h5];refine csplit (fun h=> ?_) (fun h=> ?_)<;>(try simp only[zab]at h)<;>(try simp -dsimp only[go_sem,seval, *])
    ·obtain⟨x,hx,hm⟩:=zaf ‹i<e.kids.length›;have hw1:IntKind.i64.wrap (l-1)=l-1:=zan (by omega);have hd:=ih x (l-1) (by omega) (by omega);simp -dsimp only[go_sem,seval,h5,hx,hw1,hd];refine csplit (fun h=> ?_) (fun h=> ?_)<;>(try simp only[zab]at h)<;>(try simp -dsimp only[go_sem,seval, *])
     ·rw[Expr.deep,zaZ hm h];simp
     ·exact⟨by omega,by simp -dsimp only[go_sem,seval,hw],zbC hx hall h⟩
    ·have:i=e.kids.length:=by omega
     subst this;rw[List.take_length]at hall;simp only[Expr.deep,hall,Bool.and_true];simp_all
def Expr.formed (e:Expr):Bool:=decide (e.size<=600)&&e.deep 40
theorem zfL (e:Expr):Den Γ G 48 [(.agg [.t (ti (e).op),.t (ti (e).w),.t (ti (e).n),.t (.sl ((e).kids.map (Expr.enc)))])]=some (vb e.formed):=by
 (refine den_ofY Γ48 rfl ?_;dsimp only[f48])
 have h1:=ziw e 601 (by omega);have h2:=znp 40 e 40 rfl (by omega);simp -dsimp only[go_sem,seval,h1,h2];refine csplit (fun h=> ?_) (fun h=> ?_)<;>(try simp only[zab]at h)<;>(try simp -dsimp only[go_sem,seval, *])
 ·have:e.size<=600:=by omega
  simp[Expr.formed,this]
 ·have : ¬e.size<=600:=by omega
  simp[Expr.formed,this]
theorem zbF (e:Expr) (l:Int) (hl:0<=l/\l<10000):Den Γ G 23 [(.agg [.t (ti (e).op),.t (ti (e).w),.t (ti (e).n),.t (.sl ((e).kids.map (Expr.enc)))]),vi l]=some (vb (decide ((e.size:Int)<=l))):=by
 (refine den_ofY Γ23 rfl ?_;dsimp only[f23])
 have hw:IntKind.i64.wrap (l+1)=l+1:=zan (by omega);have h1:=ziw e (l+1) (by omega);simp -dsimp only[go_sem,seval,h1,hw];rw[if_neg (by omega)];simp;omega
def leafOk (cells:List Cell) (pair:Bool) (e:Expr):Bool:=
 if e.op=3/\pair=false then false
 else if(e.op=3\/e.op=2)then(match cells[e.n.toNat]? with | some c=>decide (c.w=e.w) | none=>false)
 else true
def Expr.nneg (e:Expr):Bool:=e.allE fun x=>decide (0<=x.n/\x.kids.length<=3)
theorem zmT (cells:List Cell) (pair:Bool) (e:Expr):e.nneg=true->Den Γ G 49 [(.agg [.t (ti (e).op),.t (ti (e).w),.t (ti (e).n),.t (.sl ((e).kids.map (Expr.enc)))]),.t (.sl (cells.map Cell.enc)),vb pair]=some (vb (e.allE (leafOk cells pair))):=by
 induction e using Expr.ind with
 | _ e ih=>
 intro hn;have hn0:0<=e.n/\e.kids.length<=3:=by have:=Expr.allE_self hn;simpa using this
 (refine den_ofY Γ49 rfl ?_;dsimp only[f49])
 rcases hc:cells[e.n.toNat]? with _ | c
 ·have hge:e.n>=(cells.length:Int):=by rw[List.getElem?_eq_none_iff]at hc;omega
  simp -dsimp only[go_sem,seval]
  repeat'(refine csplit (fun h=> ?_) (fun h=> ?_)<;>(try simp only[zab]at h)<;>(try simp -dsimp only[go_sem,seval, *]))
  all_goals(try(rw[Expr.allE_eq];simp[leafOk, *];done))
  all_goals(
   refine zaz 144112989052600512 e.kids.length (fun i f=>(f 7).v=vi i/\(e.kids.take i).all (Expr.allE (leafOk cells pair))=true) rfl rfl ⟨by simp -dsimp only[go_sem,seval],by simp⟩ ?_;rintro i f u kk bb hi ⟨h5,hall⟩;have hw:=zah i (by omega);simp -dsimp only[go_sem,seval,h5];refine csplit (fun h=> ?_) (fun h=> ?_)<;>(try simp only[zab]at h)<;>(try simp -dsimp only[go_sem,seval, *])
   ·obtain⟨x,hx,hm⟩:=zaf ‹i<e.kids.length›;have hd:=ih x hm (Expr.allE_kid hn hm);simp -dsimp only[go_sem,seval,h5,hx,hd];refine csplit (fun h=> ?_) (fun h=> ?_)<;>(try simp only[zab]at h)<;>(try simp -dsimp only[go_sem,seval, *])
    ·subst_vars;rw[Expr.allE_eq,zaZ hm h];simp
    ·exact⟨by omega,by simp -dsimp only[go_sem,seval,hw],zbC hx hall h⟩
   ·have:i=e.kids.length:=by omega
    subst this;rw[List.take_length]at hall
    subst_vars;rw[Expr.allE_eq,hall];simp[leafOk, *])
 ·have hge: ¬e.n>=(cells.length:Int):=by
   have:=(zH.1 hc).1;omega
  simp -dsimp only[go_sem,seval]
  repeat'(refine csplit (fun h=> ?_) (fun h=> ?_)<;>(try simp only[zab]at h)<;>(try simp -dsimp only[go_sem,seval, *]))
  all_goals(try(rw[Expr.allE_eq];simp[leafOk, *];done))
  all_goals(
   refine zaz 144112989052600512 e.kids.length (fun i f=>(f 7).v=vi i/\(e.kids.take i).all (Expr.allE (leafOk cells pair))=true) rfl rfl ⟨by simp -dsimp only[go_sem,seval],by simp⟩ ?_;rintro i f u kk bb hi ⟨h5,hall⟩;have hw:=zah i (by omega);simp -dsimp only[go_sem,seval,h5];refine csplit (fun h=> ?_) (fun h=> ?_)<;>(try simp only[zab]at h)<;>(try simp -dsimp only[go_sem,seval, *])
   ·obtain⟨x,hx,hm⟩:=zaf ‹i<e.kids.length›;have hd:=ih x hm (Expr.allE_kid hn hm);simp -dsimp only[go_sem,seval,h5,hx,hd];refine csplit (fun h=> ?_) (fun h=> ?_)<;>(try simp only[zab]at h)<;>(try simp -dsimp only[go_sem,seval, *])
    ·subst_vars;rw[Expr.allE_eq,zaZ hm h];simp
    ·exact⟨by omega,by simp -dsimp only[go_sem,seval,hw],zbC hx hall h⟩
   ·have:i=e.kids.length:=by omega
    subst this;rw[List.take_length]at hall
    subst_vars;rw[Expr.allE_eq,hall];simp[leafOk, *])
theorem zek {e:Expr} (h:nodeOk e=true):0<=e.n:=by
 unfold nodeOk at h;split at h
 ·simp at h
 ·grind
theorem zlS (d:Nat): ∀e:Expr,e.deep d=true->e.nneg=true:=by
 induction d with
 | zero=>intro e h;simp[Expr.deep]at h
 | succ d ih=>
   intro e h;simp only[Expr.deep,zF,List.all_eq_true]at h;unfold Expr.nneg;rw[Expr.allE_eq];simp only[zF,List.all_eq_true,decide_eq_true_eq];exact⟨⟨zek h.1,zb4 h.1⟩,fun k hk=>ih k (h.2 k hk)⟩
theorem formed_nneg {e:Expr} (h:e.formed=true):e.nneg=true:=by
 simp only[Expr.formed,zF]at h;exact zlS 40 e h.2
def Expr.valid (e:Expr) (cells:List Cell) (pair:Bool):Bool:=e.formed&&e.allE (leafOk cells pair)
theorem zcO (e:Expr) (cells:List Cell) (pair:Bool):Den Γ G 24 [(.agg [.t (ti (e).op),.t (ti (e).w),.t (ti (e).n),.t (.sl ((e).kids.map (Expr.enc)))]),.t (.sl (cells.map Cell.enc)),vb pair]=some (vb (e.valid cells pair)):=by
 (refine den_ofY Γ24 rfl ?_;dsimp only[f24])
 have h1:=zfL e
 by_cases hf:e.formed=true
 ·have h2:=zmT cells pair e (formed_nneg hf);simp -dsimp only[go_sem,seval,h1,h2,hf];simp[Expr.valid,hf]
 ·have hf:e.formed=false:=by simpa using hf
  simp -dsimp only[go_sem,seval,h1,hf];simp[Expr.valid,hf]
def atI (l:List Int) (n:Int):Int:=l.getD n.toNat 0
def opv (op w a b c:Int):Int:=
 if op=4 then 2^w.toNat-1-a
 else if op=5 then((a.toNat&&& b.toNat:Nat):Int)
 else if op=6 then((a.toNat ||| b.toNat:Nat):Int)
 else if op=7 then((a.toNat^^^ b.toNat:Nat):Int)
 else if op=8 then(a+b) % 2^w.toNat
 else if op=9 then(a-b) % 2^w.toNat
 else if op=10 then a*b % 2^w.toNat
 else if op=11 then(if a=b then 1 else 0)
 else if op=12 then(if a<b then 1 else 0)
 else if op=13 then(if a<=b then 1 else 0)
 else(if a=1 then b else c)
end Rg
end
section
-- FULL
-- APPS
namespace Rg
open Go
namespace Expr
mutual
def ev (old now:List Int):Expr->Int
 | .mk op w n ks=>if op=1 then n else if op=2 then atI now n % 2^w.toNat else if op=3 then atI old n % 2^w.toNat
   else opv op w ((evs old now ks).getD 0 0) ((evs old now ks).getD 1 0) ((evs old now ks).getD 2 0)
def evs (old now:List Int):List Expr->List Int
 | []=>[]
 | e::r=>ev old now e::evs old now r
end
end Expr
theorem deep_node {d:Nat} {e:Expr} (h:e.deep d=true):nodeOk e=true:=by
 cases d with
 | zero=>simp[Expr.deep]at h
 | succ d=>simp only[Expr.deep,zF]at h;exact h.1
theorem deep_kid {d:Nat} {e k:Expr} (h:e.deep (d+1)=true) (hk:k∈e.kids):k.deep d=true:=by
 simp only[Expr.deep,zF,List.all_eq_true]at h;exact h.2 k hk
theorem zp4 {e:Expr} (h:nodeOk e=true):1<=e.w/\e.w<=8:=by
 unfold nodeOk at h;grind
theorem zcW {e:Expr} (h:nodeOk e=true):arity e.op=(e.kids.length:Int):=by
 unfold nodeOk at h;grind
def Expr.eval (e:Expr) (old now:List Int):Int:=if e.formed then e.ev old now else 0
theorem formed_deep {e:Expr} (h:e.formed=true):e.deep 40=true:=by
 simp only[Expr.formed,zF]at h;exact h.2
theorem zlT (n w:Int):Den Γ G 61 [vi n,vi w]=some (.agg [.t (ti (Expr.mk 1 w n []).op),.t (ti (Expr.mk 1 w n []).w),.t (ti (Expr.mk 1 w n []).n),.t (.sl ((Expr.mk 1 w n []).kids.map (Expr.enc)))]):=by
 (refine den_ofY Γ61 rfl ?_;dsimp only[f61])
 simp -dsimp [go_sem,appS,List.map_nil,and_self]
theorem zwu (n w:Int):Den Γ G 62 [vi n,vi w]=some (.agg [.t (ti (Expr.mk 2 w n []).op),.t (ti (Expr.mk 2 w n []).w),.t (ti (Expr.mk 2 w n []).n),.t (.sl ((Expr.mk 2 w n []).kids.map (Expr.enc)))]):=by
 (refine den_ofY Γ62 rfl ?_;dsimp only[f62])
 simp -dsimp [go_sem,appS,List.map_nil,and_self]
theorem zfW (ks:List Expr) (ws:List Int) (hl:ws.length<=3):Den Γ G 91 [.t (.sl (ks.map Expr.enc)),.t (ints ws)]=some (vb (decide (ks.map Expr.w=ws))):=by
 (refine den_ofY Γ91 rfl ?_;dsimp only[f91])
 simp -dsimp only[go_sem,seval];refine csplit (fun h=> ?_) (fun h=> ?_)<;>(try simp only[zab]at h)<;>(try simp -dsimp only[go_sem,seval, *])
 ·have : ¬ks.map Expr.w=ws:=fun he=>by have:=congrArg List.length he;simp at this;omega
  simp[this]
 ·have hlen:ks.length=ws.length:=by omega
  refine zaz 134201456 ws.length (fun i f=>(f 14).v=vi i/\(ks.take i).map Expr.w=ws.take i) rfl rfl ⟨by simp -dsimp only[go_sem,seval],by simp⟩ ?_;rintro i f u kk bb hi ⟨h14,ht⟩;have hw:=zah i (by omega);simp -dsimp only[go_sem,seval,h14];refine csplit (fun h=> ?_) (fun h=> ?_)<;>(try simp only[zab]at h)<;>(try simp -dsimp only[go_sem,seval, *])
  ·have hx:ws[i]? =some ws[i]:=zI (by omega);have hy:ks[i]? =some ks[i]:=zI (by omega);simp -dsimp only[go_sem,seval,h14,hx,hy];refine csplit (fun h=> ?_) (fun h=> ?_)<;>(try simp only[zab]at h)<;>(try simp -dsimp only[go_sem,seval, *])
   ·have : ¬ks.map Expr.w=ws:=fun he=>by
     have:=congrArg (fun l=>l[i]?) he;simp only[zJ,hx,hy,Option.map_some,zA]at this;contradiction
    simp[this]
   ·refine⟨by omega,by simp -dsimp only[go_sem,seval,hw],?_⟩;rw[zae hx,zae hy,List.map_append,ht];simp[h]
  ·have:i=ws.length:=by omega
   subst this;rw[List.take_length,<- hlen,List.take_length]at ht;simp[ht]
@[go_sem]theorem G_0:G 0=[ti 0,ti 1,ti 3,ti 7,ti 15,ti 31,ti 63,ti 127,ti 255]:=rfl
theorem zjp {w:Int} (h:1<=w/\w<=8):w=1\/w=2\/w=3\/w=4\/w=5\/w=6\/w=7\/w=8:=by omega
theorem zhr {op:Int} (h:5<=op/\op<=13):arity op=2:=by unfold arity;grind
theorem zb3 (op w n:Int) (ks:List Expr):nodeOk (.mk op w n ks)=
 if arity op≠ks.length\/w<1\/w>8 then false
 else if op=1 then decide (0<=n/\n<2^w.toNat)
 else if op=2\/op=3 then decide (0<=n/\n<32)
 else if op=4 then decide (n=0/\(Expr.mk op w n ks).kw 0=w)
 else if op=11\/op=12\/op=13 then decide (n=0/\w=1/\(Expr.mk op w n ks).kw 0=(Expr.mk op w n ks).kw 1)
 else if op=14 then decide (n=0/\(Expr.mk op w n ks).kw 0=1/\(Expr.mk op w n ks).kw 1=w/\(Expr.mk op w n ks).kw 2=w)
 else decide (n=0/\(Expr.mk op w n ks).kw 0=w/\(Expr.mk op w n ks).kw 1=w):=rfl
theorem zpf (op w n:Int) (a:Expr) (r:List Expr):(Expr.mk op w n (a::r)).kw 0=a.w:=rfl
theorem zp9 (op w n:Int) (a b:Expr) (r:List Expr):(Expr.mk op w n (a::b::r)).kw 1=b.w:=rfl
theorem zt6 (op w n:Int) (a b c:Expr) (r:List Expr):(Expr.mk op w n (a::b::c::r)).kw 2=c.w:=rfl
theorem zaK {op w n:Int} {ks:List Expr} (h:5<=op/\op<=10) (hw:1<=w/\w<=8):nodeOk (.mk op w n ks)=decide (n=0/\ks.map Expr.w=[w,w]):=by
 rw[zb3,zhr (show 5<=op/\op<=13 by omega),if_neg (show ¬op=1 by omega),if_neg (show ¬(op=2\/op=3)by omega),if_neg (show ¬op=4 by omega),if_neg (show ¬(op=11\/op=12\/op=13)by omega),if_neg (show ¬op=14 by omega)];rcases ks with _ | ⟨a,_ | ⟨b,_ | ⟨c,r⟩⟩⟩
 ·rw[if_pos (by simp)];simp
 ·rw[if_pos (by simp)];simp
 ·rw[if_neg (by simp;omega),zpf,zp9];simp
 ·rw[if_pos (by simp;omega)];simp
theorem zbD {op w n:Int} {ks:List Expr} (h:11<=op/\op<=13) (hw:1<=w/\w<=8):nodeOk (.mk op w n ks)=decide (n=0/\w=1/\ks.length=2/\(Expr.mk op w n ks).kw 0=(Expr.mk op w n ks).kw 1):=by
 rw[zb3,zhr (show 5<=op/\op<=13 by omega),if_neg (show ¬op=1 by omega),if_neg (show ¬(op=2\/op=3)by omega),if_neg (show ¬op=4 by omega),if_pos (show(op=11\/op=12\/op=13)by omega)]
 by_cases hl:ks.length=2
 ·rw[if_neg (by omega)];simp[hl]
 ·rw[if_pos (by omega)];simp[hl]
theorem zfv {w n:Int} {ks:List Expr} (hw:1<=w/\w<=8):nodeOk (.mk 4 w n ks)=decide (n=0/\ks.map Expr.w=[w]):=by
 rw[zb3,show arity 4=1 from rfl,if_neg (show ¬(4:Int)=1 by omega),if_neg (show ¬((4:Int)=2\/(4:Int)=3)by omega),if_pos rfl];rcases ks with _ | ⟨a,_ | ⟨b,r⟩⟩
 ·rw[if_pos (by simp)];simp
 ·rw[if_neg (by simp;omega),zpf];simp
 ·rw[if_pos (by simp;omega)];simp
theorem zfw {w n:Int} {ks:List Expr} (hw:1<=w/\w<=8):nodeOk (.mk 14 w n ks)=decide (n=0/\ks.map Expr.w=[1,w,w]):=by
 rw[zb3,show arity 14=3 from rfl,if_neg (show ¬(14:Int)=1 by omega),if_neg (show ¬((14:Int)=2\/(14:Int)=3)by omega),if_neg (show ¬(14:Int)=4 by omega),if_neg (show ¬((14:Int)=11\/(14:Int)=12\/(14:Int)=13)by omega),if_pos rfl];rcases ks with _ | ⟨a,_ | ⟨b,_ | ⟨c,_ | ⟨d,r⟩⟩⟩⟩
 ·rw[if_pos (by simp)];simp
 ·rw[if_pos (by simp)];simp
 ·rw[if_pos (by simp)];simp
 ·rw[if_neg (by simp;omega),zpf,zp9,zt6];simp
 ·rw[if_pos (by simp;omega)];simp
theorem zci {op w n:Int} {ks:List Expr} (h:1<=op/\op<=3) (hw:1<=w/\w<=8):nodeOk (.mk op w n ks)=decide (ks.length=0/\0<=n/\(if op=1 then n<2^w.toNat else n<32)):=by
 have ha:arity op=0:=by unfold arity;rw[if_pos h]
 rw[zb3,ha]
 by_cases hl:ks.length=0
 ·rw[if_neg (by omega)]
  by_cases h1:op=1
  ·simp[h1,hl]
  ·rw[if_neg h1,if_pos (by omega)];simp[h1,hl]
 ·rw[if_pos (by omega)];simp[hl]
theorem zfx {op w n:Int} {ks:List Expr} (h:op<1\/14<op):nodeOk (.mk op w n ks)=false:=by
 rw[zb3,zdF h,if_pos (by omega)]
theorem zkS {op w n:Int} {ks:List Expr} (h: ¬(1<=op/\op<=3)) (hw:1<=w/\w<=8) (hn: ¬n=0):nodeOk (.mk op w n ks)=false:=by
 rcases zdu op with rfl | rfl | rfl | rfl | rfl | rfl | rfl | rfl | rfl | rfl | rfl | rfl | rfl | rfl | hop
 ·omega
 ·omega
 ·omega
 ·rw[zfv hw];simp[hn]
 ·rw[zaK (by omega) hw];simp[hn]
 ·rw[zaK (by omega) hw];simp[hn]
 ·rw[zaK (by omega) hw];simp[hn]
 ·rw[zaK (by omega) hw];simp[hn]
 ·rw[zaK (by omega) hw];simp[hn]
 ·rw[zaK (by omega) hw];simp[hn]
 ·rw[zbD (by omega) hw];simp[hn]
 ·rw[zbD (by omega) hw];simp[hn]
 ·rw[zbD (by omega) hw];simp[hn]
 ·rw[zfw hw];simp[hn]
 ·exact zfx hop
set_option maxHeartbeats 4000000 in
theorem zjh (e:Expr):Den Γ G 71 [.t (.ip [ti e.op,ti e.w,ti e.n,.sl (e.kids.map Expr.enc)])]=some (vb (nodeOk e)):=by
 obtain⟨op,w,n,ks⟩:=e;simp only[Expr.op_mk,Expr.w_mk,Expr.n_mk,Expr.kids_mk]
 (refine den_ofY Γ71 rfl ?_;dsimp only[f71])
 by_cases hw:1<=w/\w<=8
 ·have h1: ¬w<1:=by omega
  have h2: ¬w>8:=by omega
  have hd1:=zfW ks [w] (by simp);have hd2:=zfW ks [w,w] (by simp);have hd3:=zfW ks [1,w,w] (by simp);simp only[ints,List.map_cons,List.map_nil]at hd1 hd2 hd3
  by_cases hleaf:op=1
  ·subst hleaf;rw[zci (by omega) hw];clear hd1 hd2 hd3;rcases zjp hw with rfl | rfl | rfl | rfl | rfl | rfl | rfl | rfl
   all_goals(
    simp -dsimp only[go_sem,seval]
    repeat'(refine csplit (fun h=> ?_) (fun h=> ?_)<;>(try simp only[zab]at h)<;>(try simp -dsimp only[go_sem,seval, *]))
    all_goals((try simp only[Int.reduceToNat,Int.reducePow,Int.reduceEq,reduceIte]);first | exact(decide_eq_false (by omega)).symm | (simp;done) | (apply decide_eq_decide.2;omega)))
  ·by_cases hleaf2:op=2\/op=3
   ·rw[zci (by omega) hw];clear hd1 hd2 hd3;rcases hleaf2 with rfl | rfl
    all_goals(
     simp -dsimp only[go_sem,seval,h1,h2]
     repeat'(refine csplit (fun h=> ?_) (fun h=> ?_)<;>(try simp only[zab]at h)<;>(try simp -dsimp only[go_sem,seval, *]))
     all_goals((try simp only[Int.reduceEq,reduceIte]);first | exact(decide_eq_false (by omega)).symm | (simp;done) | (apply decide_eq_decide.2;omega)))
   ·have e1: ¬op=2:=by omega
    have e2: ¬op=3:=by omega
    by_cases hn:n=0
    ·rcases zdu op with rfl | rfl | rfl | rfl | rfl | rfl | rfl | rfl | rfl | rfl | rfl | rfl | rfl | rfl | hop
     ·omega
     ·omega
     ·omega
     ·rw[zfv hw];simp -dsimp only[go_sem,seval,h1,h2,hn,hd1]
     ·rw[zaK (by omega) hw];simp -dsimp only[go_sem,seval,h1,h2,hn,hd2]
     ·rw[zaK (by omega) hw];simp -dsimp only[go_sem,seval,h1,h2,hn,hd2]
     ·rw[zaK (by omega) hw];simp -dsimp only[go_sem,seval,h1,h2,hn,hd2]
     ·rw[zaK (by omega) hw];simp -dsimp only[go_sem,seval,h1,h2,hn,hd2]
     ·rw[zaK (by omega) hw];simp -dsimp only[go_sem,seval,h1,h2,hn,hd2]
     ·rw[zaK (by omega) hw];simp -dsimp only[go_sem,seval,h1,h2,hn,hd2]
     ·rw[zbD (by omega) hw];rcases ks with _ | ⟨a,_ | ⟨b,_ | ⟨c,r⟩⟩⟩
      all_goals(
       simp -dsimp only[go_sem,seval,h1,h2,hn]
       repeat'(refine csplit (fun h=> ?_) (fun h=> ?_)<;>(try simp only[zab]at h)<;>(try simp -dsimp only[go_sem,seval, *]))
       all_goals(simp[zpf,zp9, *])
       all_goals(first | rfl | omega))
     ·rw[zbD (by omega) hw];rcases ks with _ | ⟨a,_ | ⟨b,_ | ⟨c,r⟩⟩⟩
      all_goals(
       simp -dsimp only[go_sem,seval,h1,h2,hn]
       repeat'(refine csplit (fun h=> ?_) (fun h=> ?_)<;>(try simp only[zab]at h)<;>(try simp -dsimp only[go_sem,seval, *]))
       all_goals(simp[zpf,zp9, *])
       all_goals(first | rfl | omega))
     ·rw[zbD (by omega) hw];rcases ks with _ | ⟨a,_ | ⟨b,_ | ⟨c,r⟩⟩⟩
      all_goals(
       simp -dsimp only[go_sem,seval,h1,h2,hn]
       repeat'(refine csplit (fun h=> ?_) (fun h=> ?_)<;>(try simp only[zab]at h)<;>(try simp -dsimp only[go_sem,seval, *]))
       all_goals(simp[zpf,zp9, *])
       all_goals(first | rfl | omega))
     ·rw[zfw hw];simp -dsimp only[go_sem,seval,h1,h2,hn,hd3]
     ·rw[zfx hop];have n1: ¬op=4:=by omega
      have n2: ¬op=5:=by omega
      have n3: ¬op=6:=by omega
      have n4: ¬op=7:=by omega
      have n5: ¬op=8:=by omega
      have n6: ¬op=9:=by omega
      have n7: ¬op=10:=by omega
      have n8: ¬op=11:=by omega
      have n9: ¬op=12:=by omega
      have n10: ¬op=13:=by omega
      have n11: ¬op=14:=by omega
      simp -dsimp only[go_sem,seval,h1,h2,hn,hleaf,e1,e2,n1,n2,n3,n4,n5,n6,n7,n8,n9,n10,n11]
    ·rw[zkS (by omega) hw hn];simp -dsimp only[go_sem,seval,h1,h2,hleaf,e1,e2,hn]
 ·by_cases h1:w<1
  ·simp -dsimp only[go_sem,seval,h1];simp only[nodeOk,go_sem];grind
  ·have h2:w>8:=by omega
   simp -dsimp only[go_sem,seval,h1,h2];simp only[nodeOk,go_sem];grind
end Rg
end
section
namespace Rg
open Go
theorem zgy {α:Type} (f:Nat->α) (i:Nat) (v w:α):updC (updC f i v) i w=updC f i w:=by
 rw[zak];funext j;unfold upd;split<;>rfl
def zte (h:Nat->Option O) (kc:Nat) (v:V) (e:Expr):Prop:=
 v= .t (.ip [ti e.op,ti e.w,ti e.n,.sl (e.kids.map Expr.enc)])\/
 ∃k fz,v= .mp k 0 0/\k≠kc/\h k=some (.rows 4 [[.t (ti e.op),.t (ti e.w),.t (ti e.n),.t (.sl (e.kids.map Expr.enc))]] fz)
theorem visit_den (d:Nat): ∀(e:Expr) (v:V) (c:Int) (H:Nat->Option O) (n kc kv:Nat) (fz:Bool),
 d<=40->zte H kc v e->0<=c->c<=600->kv≠kc->H kc=some (.rows 1 [[vi c]] false)->H kv=some (.rows 1 [[.fn 70 [] [.mp kc 0 0,.mp kv 0 0]]] fz)->
 ∃r h' n',DenR Γ G 70 [v,vi (41-d),.mp kc 0 0,.mp kv 0 0] H n=some (r,h',n')/\
  r=vb (e.deep d&&decide (c+e.size<=600))/\ ∃c':Int,h'=updC H kc (some (.rows 1 [[vi c']] false))/\(e.deep d=true->c+e.size<=600->c'=c+e.size):=by
 induction d with
 | zero=>
   intro e v c H n kc kv fz hd hv hc0 hc hne hkc hkv
   (refine denR_ofY Γ70 rfl ?_;dsimp only[f70])
   have hw:IntKind.i64.wrap (c+1)=c+1:=zan (by omega);have hdep:(41-((0:Nat):Int))>40:=by omega
   rcases hv with rfl | ⟨k,fk,rfl,hk,hkk⟩
   all_goals(
    simp -dsimp only[go_sem,seval,hkc,hw,hdep]
    repeat'(refine csplit (fun h=> ?_) (fun h=> ?_)<;>(try simp only[zab]at h)<;>(try simp -dsimp only[go_sem,seval, *]))
    all_goals(exact⟨by simp -dsimp only[go_sem,seval,Expr.deep,Bool.false_and],c+1,by simp -dsimp only[go_sem,seval],by simp[Expr.deep]⟩))
 | succ d ih=>
   intro e v c H n kc kv fz hd hv hc0 hc hne hkc hkv
   (refine denR_ofY Γ70 rfl ?_;dsimp only[f70])
   have hw:IntKind.i64.wrap (c+1)=c+1:=zan (by omega);have hdep: ¬(41-((d+1:Nat):Int))>40:=by omega
   have hw2:IntKind.i64.wrap (41-((d+1:Nat):Int)+1)=41-(d:Int):=by rw[zan (by omega)];omega
   have hsh:=zjh e;have hsz:=Expr.size_eq e;have hpos:=Expr.size_pos e;rcases hv with rfl | ⟨k,fk,rfl,hk,hkk⟩
   all_goals(
    have hk0:=hw
    (try have hk0:=hk)
    simp -dsimp only[go_sem,seval,hkc,hw,hdep];refine csplit (fun h=> ?_) (fun h=> ?_)<;>(try simp only[zab]at h)<;>(try simp -dsimp only[go_sem,seval, *])
    ·refine⟨?_,c+1,by simp -dsimp only[go_sem,seval],fun _ hle=>by omega⟩;simp -dsimp only[go_sem,seval];have : ¬(c+(e.size:Int)<=600):=by omega
     simp[this]
    ·refine csplit (fun h=> ?_) (fun h=> ?_)<;>(try simp only[zab]at h)<;>(try simp -dsimp only[go_sem,seval, *])
     ·refine⟨?_,c+1,by simp -dsimp only[go_sem,seval],fun hdp=>by rw[deep_node hdp]at h;simp at h⟩;simp -dsimp only[go_sem,seval];simp[Expr.deep,h]
     ·have hlen:=zb4 h
      refine zaj 2198956146880 e.kids.length (fun i f hh x=>(f 26).v=vi i/\ ∃c':Int,hh=updC H kc (some (.rows 1 [[vi c']] false))/\c'=c+1+((e.kids.take i).map Expr.size).sum/\c'<=600/\(e.kids.take i).all (Expr.deep d)=true) rfl
       ⟨by simp -dsimp only[go_sem,seval],c+1,by simp -dsimp only[go_sem,seval],by simp,by omega,by simp⟩ ?_
      rintro i f u hh x bs hi ⟨h26,c',rfl,hc',hle,hall⟩;have hwi:=zah i (by omega);simp -dsimp only[go_sem,seval,h26];refine csplit (fun h=> ?_) (fun h=> ?_)<;>(try simp only[zab]at h)<;>(try simp -dsimp only[go_sem,seval, *])
      ·obtain⟨y,hy,hm⟩:=zaf ‹i<e.kids.length›;simp -dsimp only[go_sem,seval,h26,hy,hne,hkv,hw2,hk0];refine zav (ih y _ c' _ _ kc kv fz (by omega) (.inl rfl) (by omega) hle hne (by rw[zac];simp) (by rw[zac];simp[hne,hkv])) ?_;rintro r h' n' ⟨rfl,c2,rfl,hc2⟩;simp -dsimp only[go_sem,seval];have hts:=Expr.take_le_size e.kids (i+1)
       have ht1:((e.kids.take (i+1)).map Expr.size).sum=((e.kids.take i).map Expr.size).sum+y.size:=by
        rw[zae hy];simp
       refine csplit (fun h=> ?_) (fun h=> ?_)<;>(try simp only[zab]at h)<;>(try simp -dsimp only[go_sem,seval, *])
       ·refine⟨?_,c2,by simp -dsimp only[go_sem,seval,zgy],fun hdp hle2=> ?_⟩
        ·simp -dsimp only[go_sem,seval];simp only[Bool.and_eq_false_iff,decide_eq_false_iff_not]at h;rcases h with h | h
         ·rw[Expr.deep,zaZ hm h];simp
         ·have : ¬c+(e.size:Int)<=600:=by omega
          simp[this]
        ·have hy1:=deep_kid hdp hm;have:c'+(y.size:Int)<=600:=by omega
         simp[hy1,this]at h
       ·simp only[zF,decide_eq_true_eq]at h;have h2:=hc2 h.1 h.2;exact⟨by omega,by simp -dsimp only[go_sem,seval,hwi],c2,by simp -dsimp only[go_sem,seval,zgy],by omega,by omega,zbC hy hall h.1⟩
      ·have:i=e.kids.length:=by omega
       subst this;rw[List.take_length]at hall hc';refine⟨?_,c',by simp -dsimp only[go_sem,seval],fun hdp hle2=>by omega⟩;simp -dsimp only[go_sem,seval];have:c+(e.size:Int)<=600:=by omega
       simp[Expr.deep,hall,this,‹nodeOk e=true›])
theorem zc2 (e:Expr):Den Γ G 51 [(.agg [.t (ti (e).op),.t (ti (e).w),.t (ti (e).n),.t (.sl ((e).kids.map (Expr.enc)))])]=some (vb e.formed):=by
 (refine den_ofY Γ51 rfl ?_;dsimp only[f51])
 simp -dsimp only[go_sem,seval];refine zav (visit_den 40 e _ 0 _ _ _ _ false (by omega) (.inr ⟨_,false,rfl,?_,?_⟩) (by omega) (by omega) ?_ ?_ ?_) ?_
 ·decide
 ·simp -dsimp only[go_sem,seval]
 ·decide
 ·simp -dsimp only[go_sem,seval]
 ·simp -dsimp only[go_sem,seval]
 ·rintro r h' n' ⟨rfl,c',rfl,_⟩;simp -dsimp only[go_sem,seval];simp only[Expr.formed];rw[Bool.and_comm]
  congr 1
  by_cases h:e.size<=600
  ·simp[h];omega
  ·simp[h];omega
end Rg
end
section
namespace Rg
open Go
def inR (i n:Int):Bool:=decide (0<=i/\i<n)
theorem zaL (i n:Int):Den Γ G 96 [vi i,vi n]=some (vb (inR i n)):=by
 (refine den_ofY Γ96 rfl ?_;dsimp only[f96])
 simp -dsimp only[go_sem,seval];refine csplit (fun h=> ?_) (fun h=> ?_)<;>(try simp only[zab]at h)<;>(try simp -dsimp only[go_sem,seval, *])
 ·simp[inR];omega
 ·simp[inR];omega
theorem zcq (i n:Int):Den Γ G 110 [vi i,vi n]=some (vb (inR i n)):=by
 (refine den_ofY Γ110 rfl ?_;dsimp only[f110])
 simp -dsimp only[go_sem,seval];refine csplit (fun h=> ?_) (fun h=> ?_)<;>(try simp only[zab]at h)<;>(try simp -dsimp only[go_sem,seval, *])
 ·simp[inR];omega
 ·simp[inR];omega
def Expr.absent (e:Expr):Bool:=decide (e.op=0/\e.w=0/\e.n=0/\e.kids=[])
theorem zin (e:Expr):Den Γ G 98 [(.agg [.t (ti (e).op),.t (ti (e).w),.t (ti (e).n),.t (.sl ((e).kids.map (Expr.enc)))])]=some (vb e.absent):=by
 (refine den_ofY Γ98 rfl ?_;dsimp only[f98])
 simp -dsimp only[go_sem,seval]
 repeat'(refine csplit (fun h=> ?_) (fun h=> ?_)<;>(try simp only[zab]at h)<;>(try simp -dsimp only[go_sem,seval, *]))
 all_goals(simp[Expr.absent, *])
theorem zim (e:Expr):Den Γ G 111 [(.agg [.t (ti (e).op),.t (ti (e).w),.t (ti (e).n),.t (.sl ((e).kids.map (Expr.enc)))])]=some (vb e.absent):=by
 (refine den_ofY Γ111 rfl ?_;dsimp only[f111])
 simp -dsimp only[go_sem,seval]
 repeat'(refine csplit (fun h=> ?_) (fun h=> ?_)<;>(try simp only[zab]at h)<;>(try simp -dsimp only[go_sem,seval, *]))
 all_goals(simp[Expr.absent, *])
def Expr.one (e:Expr):Bool:=decide (e.op=1/\e.w=1/\e.n=1/\e.kids=[])
theorem zoC (e:Expr):Den Γ G 166 [(.agg [.t (ti (e).op),.t (ti (e).w),.t (ti (e).n),.t (.sl ((e).kids.map (Expr.enc)))])]=some (vb e.one):=by
 (refine den_ofY Γ166 rfl ?_;dsimp only[f166])
 simp -dsimp only[go_sem,seval]
 repeat'(refine csplit (fun h=> ?_) (fun h=> ?_)<;>(try simp only[zab]at h)<;>(try simp -dsimp only[go_sem,seval, *]))
 all_goals(simp[Expr.one, *])
def rising (l:List Int):Bool:=(List.range (l.length-1)).all fun i=>decide (l.getD i 0<l.getD (i+1) 0)
theorem zgM {l:List Int} {i:Nat} (h:i+1<l.length) (h2: ¬l.getD i 0<l.getD (i+1) 0):rising l=false:=
 zaZ (List.mem_range.2 (by omega)) (decide_eq_false h2)
theorem zfq {l:List Int} (h: ∀j,j+1<l.length->l.getD j 0<l.getD (j+1) 0):rising l=true:=by
 simp only[rising,List.all_eq_true,List.mem_range,decide_eq_true_eq];exact fun j hj=>h j (by omega)
theorem zfr (l:List Int) (hl:l.length<2^50):Den Γ G 113 [.t (ints l)]=some (vb (rising l)):=by
 (refine den_ofY Γ113 rfl ?_;dsimp only[f113])
 simp -dsimp only[go_sem,seval];refine zaz 1048572 (l.length-1) (fun i f=>(f 3).v=vi ((i+1:Nat):Int)/\ ∀j<i,l.getD j 0<l.getD (j+1) 0) rfl rfl ⟨by simp -dsimp only[go_sem,seval],by simp⟩ ?_;rintro i f u kk bb hi ⟨h3,hall⟩;have hw:=zah (i+1) (by omega);have hw2:IntKind.i64.wrap (((i+1:Nat):Int)-1)=(i:Int):=by rw[zan (by omega)];omega
 simp -dsimp only[go_sem,seval,h3];refine csplit (fun h=> ?_) (fun h=> ?_)<;>(try simp only[zab]at h)<;>(try simp -dsimp only[go_sem,seval, *])
 ·have hlt:i+1<l.length:=by omega
  have hx:l[i+1]? =some l[i+1]:=zI hlt;have hy:l[i]? =some l[i]:=zI (by omega);have gx:l.getD (i+1) 0=l[i+1]:=by simp[List.getD,hx]
  have gy:l.getD i 0=l[i]:=by simp[List.getD,hy]
  simp -dsimp only[go_sem,seval,h3,hx,hy,hw2];refine csplit (fun h=> ?_) (fun h=> ?_)<;>(try simp only[zab]at h)<;>(try simp -dsimp only[go_sem,seval, *])
  ·have:rising l=false:=zgM hlt (by rw[gx,gy];omega);rw[this]
  ·refine⟨by omega,by simp -dsimp only[go_sem,seval,hw],fun j hj=> ?_⟩
   by_cases hji:j=i
   ·subst hji;rw[gx,gy];omega
   ·exact hall j (by omega)
 ·have:rising l=true:=zfq fun j hj=>hall j (by omega)
  rw[this]
theorem zc5 (l:List Int) (hl:l.length<2^50):Den Γ G 101 [.t (ints l)]=some (vb (rising l)):=by
 (refine den_ofY Γ101 rfl ?_;dsimp only[zrZ])
 simp -dsimp only[go_sem,seval];refine zaz 1048572 (l.length-1) (fun i f=>(f 3).v=vi ((i+1:Nat):Int)/\ ∀j<i,l.getD j 0<l.getD (j+1) 0) rfl rfl ⟨by simp -dsimp only[go_sem,seval],by simp⟩ ?_;rintro i f u kk bb hi ⟨h3,hall⟩;have hw:=zah (i+1) (by omega);have hw2:IntKind.i64.wrap (((i+1:Nat):Int)-1)=(i:Int):=by rw[zan (by omega)];omega
 simp -dsimp only[go_sem,seval,h3];refine csplit (fun h=> ?_) (fun h=> ?_)<;>(try simp only[zab]at h)<;>(try simp -dsimp only[go_sem,seval, *])
 ·have hlt:i+1<l.length:=by omega
  have hx:l[i+1]? =some l[i+1]:=zI hlt;have hy:l[i]? =some l[i]:=zI (by omega);have gx:l.getD (i+1) 0=l[i+1]:=by simp[List.getD,hx]
  have gy:l.getD i 0=l[i]:=by simp[List.getD,hy]
  simp -dsimp only[go_sem,seval,h3,hx,hy,hw2];refine csplit (fun h=> ?_) (fun h=> ?_)<;>(try simp only[zab]at h)<;>(try simp -dsimp only[go_sem,seval, *])
  ·have:rising l=false:=zgM hlt (by rw[gx,gy];omega);rw[this]
  ·refine⟨by omega,by simp -dsimp only[go_sem,seval,hw],fun j hj=> ?_⟩
   by_cases hji:j=i
   ·subst hji;rw[gx,gy];omega
   ·exact hall j (by omega)
 ·have:rising l=true:=zfq fun j hj=>hall j (by omega)
  rw[this]
def byteOk (b:ByteArray) (i:Nat):Bool:=match b[i]? with
 | some c=>decide (33<=c.toNat/\c.toNat<=126)
 | none=>false
def isLabel (b:ByteArray):Bool:=decide (1<=b.size/\b.size<=64)&&(List.range b.size).all (byteOk b)
theorem zem {b:ByteArray} {i:Nat} (h:i<b.size) (h2:byteOk b i=false):isLabel b=false:=by
 rw[isLabel,zaZ (List.mem_range.2 h) h2,Bool.and_false]
theorem zi4 {b:ByteArray} {i:Nat} (h:i<b.size): ∃c,b[i]? =some c:=⟨b[i],by simp[h]⟩
theorem zcZ (b:ByteArray):Den Γ G 95 [.t (.str b)]=some (vb (isLabel b)):=by
 (refine den_ofY Γ95 rfl ?_;dsimp only[f95])
 simp -dsimp only[go_sem,seval];refine csplit (fun h=> ?_) (fun h=> ?_)<;>(try simp only[zab]at h)<;>(try simp -dsimp only[go_sem,seval, *])
 ·have : ¬(1<=b.size/\b.size<=64):=by omega
  simp[isLabel,this]
 ·refine csplit (fun h=> ?_) (fun h=> ?_)<;>(try simp only[zab]at h)<;>(try simp -dsimp only[go_sem,seval, *])
  ·have : ¬(1<=b.size/\b.size<=64):=by omega
   simp[isLabel,this]
  ·have hsz:1<=b.size/\b.size<=64:=by omega
   refine zaz 268419084 b.size (fun i f=>(f 14).v=vi i/\ ∀j<i,byteOk b j=true) rfl rfl ⟨by simp -dsimp only[go_sem,seval],by simp⟩ ?_;rintro i f u kk bb hi ⟨h14,hall⟩;have hw:=zah i (by omega);simp -dsimp only[go_sem,seval,h14];refine csplit (fun h=> ?_) (fun h=> ?_)<;>(try simp only[zab]at h)<;>(try simp -dsimp only[go_sem,seval, *])
   ·obtain⟨c,hc⟩:=zi4 ‹i<b.size›;simp -dsimp only[go_sem,seval,h14,hc]
    repeat'(refine csplit (fun h=> ?_) (fun h=> ?_)<;>(try simp only[zab]at h)<;>(try simp -dsimp only[go_sem,seval, *]))
    ·rw[zem ‹i<b.size› (by simp[byteOk,hc];omega)]
    ·rw[zem ‹i<b.size› (by simp[byteOk,hc];omega)]
    ·refine⟨by omega,by simp -dsimp only[go_sem,seval,hw],fun j hj=> ?_⟩
     by_cases hji:j=i
     ·subst hji;simp[byteOk,hc];omega
     ·exact hall j (by omega)
   ·have:isLabel b=true:=by
     simp only[isLabel,hsz,and_self,decide_true,Bool.true_and,List.all_eq_true,List.mem_range];exact fun j hj=>hall j (by omega)
    rw[this]
theorem zcY (b:ByteArray) (hb:b.size<2^50):Den Γ G 109 [.t (.str b)]=some (vb (isLabel b)):=by
 (refine den_ofY Γ109 rfl ?_;dsimp only[zrR])
 simp -dsimp only[go_sem,seval];refine zaz 1048572 b.size (fun i f=>(f 3).v=vi i/\ ∀j<i,byteOk b j=true) rfl rfl ⟨by simp -dsimp only[go_sem,seval],by simp⟩ ?_;rintro i f u kk bb hi ⟨h14,hall⟩;have hw:=zah i (by omega);simp -dsimp only[go_sem,seval,h14];refine csplit (fun h=> ?_) (fun h=> ?_)<;>(try simp only[zab]at h)<;>(try simp -dsimp only[go_sem,seval, *])
 ·obtain⟨c,hc⟩:=zi4 ‹i<b.size›;simp -dsimp only[go_sem,seval,h14,hc]
  repeat'(refine csplit (fun h=> ?_) (fun h=> ?_)<;>(try simp only[zab]at h)<;>(try simp -dsimp only[go_sem,seval, *]))
  ·rw[zem ‹i<b.size› (by simp[byteOk,hc];omega)]
  ·rw[zem ‹i<b.size› (by simp[byteOk,hc];omega)]
  ·refine⟨by omega,by simp -dsimp only[go_sem,seval,hw],fun j hj=> ?_⟩
   by_cases hji:j=i
   ·subst hji;simp[byteOk,hc];omega
   ·exact hall j (by omega)
 ·have:(List.range b.size).all (byteOk b)=true:=by
   simp only[List.all_eq_true,List.mem_range];exact fun j hj=>hall j (by omega)
  refine csplit (fun h=> ?_) (fun h=> ?_)<;>(try simp only[zab]at h)<;>(try simp -dsimp only[go_sem,seval, *])
  ·simp only[isLabel,this,Bool.and_true];apply decide_eq_decide.2;omega
  ·simp only[isLabel,this,Bool.and_true];exact(decide_eq_false (by omega)).symm
end Rg
end
