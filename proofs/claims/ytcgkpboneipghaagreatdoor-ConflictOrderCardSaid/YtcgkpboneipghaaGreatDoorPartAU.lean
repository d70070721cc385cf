/- Part of the proof of the laws of the package relyguardlaw30: an abstract machine for the program's functions, what they compute, and that the machine is the program's. No condition. (H40a H40b H40c H40d H40e H40f H06 H06b H06c H06d H06e H06x H06y H06z H06v H06w H07a H06u) -/
import Derived.Test.YtcgkpboneipghaaGreatDoorPartAQ
import Derived.Test.YtcgkpboneipghaaGreatDoorPartAT
set_option linter.unusedSimpArgs false
set_option linter.unusedVariables false
section
namespace Rg
open Go
def meetsM (a b:Nat) (r:List Nat):Bool:=(List.range 64).any fun i=>a.testBit i&&((r.getD i 0) &&& b != 0)
theorem u_shr (a i:Nat) (h:i<=64):(if (i:Int)<0 then none else some (T.int .u64 ((a:Int).fdiv (2^min i 64))))=some (T.int .u64 ((a >>> i:Nat):Int)):=by
 rw [if_neg (by omega),Nat.min_eq_left h]
 congr 2
 rw [Nat.shiftRight_eq_div_pow,Int.fdiv_eq_ediv_of_nonneg _ (by exact Int.le_of_lt (Int.pow_pos (by omega)))]
 simp
theorem u_and {a b:Nat} (ha:a<2^64) (hb:b<2^64):IntKind.u64.wrap ((BitVec.ofInt IntKind.u64.bits (a:Int) &&& BitVec.ofInt IntKind.u64.bits (b:Int)).toNat:Int)=((a &&& b:Nat):Int):=by
 show IntKind.u64.wrap ((BitVec.ofInt 64 (a:Int) &&& BitVec.ofInt 64 (b:Int)).toNat:Int)=_
 rw [BitVec.toNat_and]
 have e : ∀ x:Nat,x<2^64->(BitVec.ofInt 64 (x:Int)).toNat=x:=by intro x hx; simp [BitVec.toNat_ofInt]; omega
 rw [e a ha,e b hb]
 have:a &&& b<2^64:=Nat.and_lt_two_pow _ hb
 generalize a &&& b=c at this
 unfold IntKind.wrap
 simp [IntKind.bits,IntKind.signed]
 omega
theorem u_and1 {a:Nat} (ha:a<2^64):IntKind.u64.wrap ((BitVec.ofInt IntKind.u64.bits (a:Int) &&& BitVec.ofInt IntKind.u64.bits 1).toNat:Int)=((a &&& 1:Nat):Int):=u_and ha (b:=1) (by omega)
theorem take1 {α β:Type} (f:α->β) {r:List α} {i:Nat} {x:α} (h:r[i]? = some x):List.take 1 (List.drop i (List.map f r))=[f x]:=by
 obtain ⟨hi,hx⟩:=List.getElem?_eq_some_iff.1 h
 rw [List.drop_eq_getElem_cons (by simpa using hi)]; simp [hx]
theorem meets_den (a b:Nat) (r:List Nat) (hr:r.length=64) (ha:a<2^64) (hb:b<2^64) (hrb : ∀ x∈r,x<2^64):Den Γ G 320 [.t (.int .u64 a), .t (.int .u64 b), .agg (r.map fun x:Nat => .t (.int .u64 x))]=some (vb (meetsM a b r)):=by
 (refine den_ofY Γ320 rfl ?_; dsimp only [f320])
 simp -dsimp -implicitDefEqProofs only [go_sem,seval,hr]
 refine loopY 33554368 64 (fun i f=>(f 8).v=vi i /\ ∀ j,j<i->(a.testBit j&&((r.getD j 0) &&& b != 0))=false) rfl rfl ⟨by simp -dsimp -implicitDefEqProofs only [go_sem,seval],fun j hj=>by omega⟩ ?_
 rintro i f u kk bb hi ⟨h8,hn⟩
 have hw:=wrapS i (by omega)
 simp -dsimp -implicitDefEqProofs only [go_sem,seval,h8]
 refine csplit (fun h => ?_) (fun h => ?_) <;> (try rw [h]) <;> (try simp only [bools] at h) <;> (try simp -dsimp -implicitDefEqProofs only [go_sem,seval,h8])
 ·have hs:=u_shr a i hi
  have hx:a >>> i<2^64:=Nat.lt_of_le_of_lt (Nat.shiftRight_le _ _) ha
  have h1:=u_and1 hx
  have hb1:(((a >>> i &&& 1:Nat):Int)=1)=(a.testBit i=true):=by
   rw [Nat.testBit,Nat.and_comm]
   simp only [Nat.one_and_eq_mod_two,bne_iff_ne,ne_eq,eq_iff_iff]
   omega
  obtain ⟨x,hxr,hxm⟩:=get_of (show i<r.length by omega)
  have h2:=u_and (hrb x hxm) hb
  simp -dsimp -implicitDefEqProofs only [go_sem,seval,h8,hs,h1,hb1]
  refine csplit (fun h => ?_) (fun h => ?_) <;> (try rw [h]) <;> (try simp only [bools] at h) <;> (try simp -dsimp -implicitDefEqProofs only [go_sem,seval,h8])
  ·have hlt:((i:Int)<64)=True:=by simp; omega
   have hm1:i*1=i:=by omega
   have hle:(i+1<=r.length)=True:=by simp; omega
   have htk:=take1 (fun x:Nat=>V.t (T.int .u64 (x:Int))) hxr
   have hx0:(((x &&& b:Nat):Int)=0)=(x &&& b=0):=by simp
   have hg:r.getD i 0=x:=by simp [List.getD_eq_getElem?_getD,hxr]
   simp -dsimp -implicitDefEqProofs only [go_sem,seval,h8,hlt,hm1,hle,htk,h2,hx0]
   refine csplit (fun h => ?_) (fun h => ?_) <;> (try rw [h]) <;> (try simp only [bools] at h) <;> (try simp -dsimp -implicitDefEqProofs only [go_sem,seval,h8])
   ·symm
    simp only [meetsM,List.any_eq_true,List.mem_range]
    exact ⟨i,by omega,by rw [hg]; simp [*]⟩
   ·refine ⟨by omega,by simp -dsimp -implicitDefEqProofs only [go_sem,seval,h8,hw],fun j hj => ?_⟩
    rcases Nat.lt_or_ge j i with h3 | h3
    ·exact hn j h3
    ·obtain rfl:j=i:=by omega
     rw [hg]; simp [*]
  ·refine ⟨by omega,by simp -dsimp -implicitDefEqProofs only [go_sem,seval,h8,hw],fun j hj => ?_⟩
   rcases Nat.lt_or_ge j i with h3 | h3
   ·exact hn j h3
   ·obtain rfl:j=i:=by omega
    simp [‹¬ a.testBit j=true›]
 ·rw [show i=64 by omega] at hn
  symm
  simp only [meetsM,List.any_eq_false,List.mem_range]
  intro j hj
  rw [hn j hj]; simp
end Rg
end
section
namespace Rg
open Go
theorem gsize_den (cs ms ls ts:List (List T)) (tl:List T) (hc:cs.length<2^48) (ht:ts.length<2^48) :
 Den Γ G 309 [.t (.ip (.sl cs :: .sl ms :: .sl ls :: .sl ts::tl))]=some (vi (2*(cs.length+ts.length))):=by
 (refine den_ofY Γ309 rfl ?_; dsimp only [f309])
 have h1:=wrap64 (n:=(cs.length:Int)+ts.length) (by omega)
 have h2:=wrap64 (n:=2*((cs.length:Int)+ts.length)) (by omega)
 simp -dsimp -implicitDefEqProofs only [go_sem,seval,h1,h2]
theorem gthread_den (cs ms ls ts:List (List T)) (tl:List T) (c:Nat) (hc:cs.length<2^48) (ht:ts.length<2^48) (h0:0<cs.length+ts.length) (hb:c<2^62) :
 Den Γ G 316 [.t (.ip (.sl cs :: .sl ms :: .sl ls :: .sl ts::tl)),vi c]=some (vi (c / (2*(cs.length+ts.length)):Nat)):=by
 (refine den_ofY Γ316 rfl ?_; dsimp only [f316])
 have h1:=gsize_den cs ms ls ts tl hc ht
 have hz:(2*((cs.length:Int)+ts.length)=0)=False:=by simp; omega
 have hq:((c:Int)).tdiv (2*((cs.length:Int)+ts.length))=((c / (2*(cs.length+ts.length)):Nat):Int):=by
  rw [Int.tdiv_eq_ediv_of_nonneg (by omega)]; push_cast; rfl
 have hle:=Nat.div_le_self c (2*(cs.length+ts.length))
 have hw:IntKind.i64.wrap ((c / (2*(cs.length+ts.length)):Nat):Int)=((c / (2*(cs.length+ts.length)):Nat):Int):=by
  generalize c / (2*(cs.length+ts.length))=q at hle ⊢
  exact wrap64 (by omega)
 simp -dsimp -implicitDefEqProofs only [go_sem,seval,h1,hz,hq,hw]
def precX (r x y t u:Int):Bool :=
 (decide (x<r)&&decide (y<r)&&decide (x.tdiv 2=y.tdiv 2)&&(decide (x.tmod 2=1)||decide (y.tmod 2=1))) ||
 (((decide (x>=r)&&decide (x.tmod 2=0))&&decide ((x-r).tdiv 2=u))||((decide (y>=r)&&decide (y.tmod 2=1))&&decide ((y-r).tdiv 2=t)) ||
  ((decide (x>=r)&&decide (x.tmod 2=0))&&(decide (y>=r)&&decide (y.tmod 2=1))&&decide (x.tdiv 2=y.tdiv 2)))
def precM (n m c d:Nat):Bool:=precX (2*n) (c % (2*(n+m)):Nat) (d % (2*(n+m)):Nat) (c / (2*(n+m)):Nat) (d / (2*(n+m)):Nat)
theorem tdiv2_small {x:Int} (h : -4611686018427387904<=x/\x<=4611686018427387904):IntKind.i64.wrap (x.tdiv 2)=x.tdiv 2:=by
 apply wrap64
 rcases Int.le_total 0 x with h0 | h0
 ·rw [Int.tdiv_eq_ediv_of_nonneg h0]; omega
 ·have:x.tdiv 2 = -((-x) / 2):=by
   rw [<- Int.tdiv_eq_ediv_of_nonneg (by omega),Int.neg_tdiv,Int.neg_neg]
  omega
set_option maxHeartbeats 1000000
theorem prec_den (cs ms ls ts:List (List T)) (tl:List T) (c d:Nat) (hc:cs.length<2^48) (ht:ts.length<2^48) (h0:0<cs.length+ts.length) (hb:c<2^62) (hd:d<2^62) :
 Den Γ G 321 [.t (.ip (.sl cs :: .sl ms :: .sl ls :: .sl ts::tl)),vi c,vi d]=some (vb (precM cs.length ts.length c d)):=by
 (refine den_ofY Γ321 rfl ?_; dsimp only [f321])
 have h1:=gsize_den cs ms ls ts tl hc ht
 have h2:=gthread_den cs ms ls ts tl c hc ht h0 hb
 have h3:=gthread_den cs ms ls ts tl d hc ht h0 hd
 have hz:(2*((cs.length:Int)+ts.length)=0)=False:=by simp; omega
 have hm : ∀ c:Nat,((c:Int)).tmod (2*((cs.length:Int)+ts.length))=((c % (2*(cs.length+ts.length)):Nat):Int):=by
  intro c; rw [Int.tmod_eq_emod_of_nonneg (by omega)]; push_cast; rfl
 have hx:c % (2*(cs.length+ts.length))<2*(cs.length+ts.length):=Nat.mod_lt _ (by omega)
 have hy:d % (2*(cs.length+ts.length))<2*(cs.length+ts.length):=Nat.mod_lt _ (by omega)
 have hw:=wrap64 (n:=2*(cs.length:Int)) (by omega)
 unfold precM
 simp -dsimp -implicitDefEqProofs only [go_sem,seval,h1,h2,h3,hz,hm,hw]
 generalize c % (2*(cs.length+ts.length))=x at hx ⊢
 generalize d % (2*(cs.length+ts.length))=y at hy ⊢
 generalize c / (2*(cs.length+ts.length))=t
 generalize d / (2*(cs.length+ts.length))=u
 have a1:=tdiv2_small (x:=(x:Int)) (by omega)
 have a2:=tdiv2_small (x:=(y:Int)) (by omega)
 have a3:=wrap64 (n:=(x:Int)-2*cs.length) (by omega)
 have a4:=wrap64 (n:=(y:Int)-2*cs.length) (by omega)
 have a5:=tdiv2_small (x:=(x:Int)-2*cs.length) (by omega)
 have a6:=tdiv2_small (x:=(y:Int)-2*cs.length) (by omega)
 simp only [precX]
 generalize hX2:(x:Int).tdiv 2=X2 at a1 ⊢
 generalize hY2:(y:Int).tdiv 2=Y2 at a2 ⊢
 generalize hXm:(x:Int).tmod 2=Xm
 generalize hYm:(y:Int).tmod 2=Ym
 generalize hXr:((x:Int)-2*cs.length).tdiv 2=Xr at a5 ⊢
 generalize hYr:((y:Int)-2*cs.length).tdiv 2=Yr at a6 ⊢
 repeat' (refine csplit (fun h => ?_) (fun h => ?_) <;> (try simp only [bools] at h) <;> (try simp -dsimp -implicitDefEqProofs only [go_sem,seval,a1,a2,a3,a4,a5,a6,hX2,hY2,hXm,hYm,hXr,hYr, *]))
 all_goals (clear h1 h2 h3 hm hz hw a1 a2 a3 a4 a5 a6 hX2 hY2 hXm hYm hXr hYr)
 all_goals simp_all
 all_goals try omega
end Rg
end
section
namespace Rg
open Go
theorem gstep_den (cs ms ls ts st:List (List T)) (tl:List T) (a b c d e f s0 s1 s2 s3 s4 s5 s6 s7 s8 s9 s10:T) (t k:Nat) (x:Int) (w:Bool) (H:Nat->Option O) (n:Nat)
 (ht:ts[t]? = some [a,b,c,d, .sl st,e,f]) (hk:st[k]? = some [s0,s1,s2,s3,s4,s5,s6,s7,s8,s9,s10]) :
 ∃ r h' n',DenR Γ G 310 [.t (.ip (.sl cs :: .sl ms :: .sl ls :: .sl ts::tl)), .agg [vi t,vi k,vi x,vb w]] H n=some (r,h',n')/\r = .agg ([s0,s1,s2,s3,s4,s5,s6,s7,s8,s9,s10].map V.t)/\h' = H:=by
 have hb:=(List.getElem?_eq_some_iff.1 ht).1
 have hb2:=(List.getElem?_eq_some_iff.1 hk).1
 (refine denR_ofY Γ310 rfl ?_; dsimp only [f310])
 simp -dsimp -implicitDefEqProofs only [go_sem,seval,ht,hk]
 exact ⟨rfl,rfl⟩
theorem gearly_den (cs ms ls ts st:List (List T)) (tl:List T) (a b c d e f s1 s2 s3 s4 s5 s6 s7 s8 s9 s10:T) (kd:Int) (t k:Nat) (x:Int) (w:Bool)
 (ht:ts[t]? = some [a,b,c,d, .sl st,e,f]) (hk:st[k]? = some [.int .i64 kd,s1,s2,s3,s4,s5,s6,s7,s8,s9,s10]) :
 Den Γ G 318 [.t (.ip (.sl cs :: .sl ms :: .sl ls :: .sl ts::tl)), .agg [vi t,vi k,vi x,vb w]]=some (vb (w&&decide (kd=3))):=by
 (refine den_ofY Γ318 rfl ?_; dsimp only [f318])
 cases w
 ·simp -dsimp -implicitDefEqProofs only [go_sem,seval]
  simp
 ·simp -dsimp -implicitDefEqProofs only [go_sem,seval]
  obtain ⟨_,_,n',h1,rfl,rfl⟩:=gstep_den cs ms ls ts st tl a b c d e f _ s1 s2 s3 s4 s5 s6 s7 s8 s9 s10 t k x true (fun _=>none) 12 ht hk
  simp -dsimp -implicitDefEqProofs only [go_sem,seval,h1]
  try trace_state
def lateM (model kd:Int) (rel w:Bool):Bool :=
 if w then decide (model=2)&&(decide (kd=3) && !rel) else decide (kd=2)&&(decide (model=1)||decide (model=2))
theorem glate_den (cs ms ls ts st:List (List T)) (tl:List T) (a b c d e f s1 s2 s3 s4 s5 s6 s7 s9 s10:T) (kd model:Int) (rel:Bool) (t k:Nat) (x:Int) (w:Bool)
 (ht:ts[t]? = some [a,b,c,d, .sl st,e,f]) (hk:st[k]? = some [.int .i64 kd,s1,s2,s3,s4,s5,s6,s7, .bool rel,s9,s10]) :
 Den Γ G 319 [.t (.ip (.sl cs :: .sl ms :: .sl ls :: .sl ts :: .int .i64 model::tl)), .agg [vi t,vi k,vi x,vb w]]=some (vb (lateM model kd rel w)):=by
 (refine den_ofY Γ319 rfl ?_; dsimp only [f319])
 simp -dsimp -implicitDefEqProofs only [go_sem,seval]
 obtain ⟨_,_,n',h1,rfl,rfl⟩:=gstep_den cs ms ls ts st (.int .i64 model::tl) a b c d e f _ s1 s2 s3 s4 s5 s6 s7 (.bool rel) s9 s10 t k x w (fun _=>none) 7 ht hk
 cases w <;> cases rel <;> simp -dsimp -implicitDefEqProofs only [go_sem,seval,h1]
 all_goals repeat' (refine csplit (fun h => ?_) (fun h => ?_) <;> (try simp only [bools] at h) <;> (try simp -dsimp -implicitDefEqProofs only [go_sem,seval, *]))
 all_goals (clear h1; simp_all [lateM])
 all_goals try omega
def arity (op:Int):Int :=
 if 1<=op/\op<=3 then 0 else if op=4 then 1 else if 5<=op/\op<=13 then 2 else if op=14 then 3 else -1
theorem size_den (e:Expr) : ∀ l:Int,l<2^40->Den Γ G 47 [(.agg [.t (ti (e).op), .t (ti (e).w), .t (ti (e).n), .t (.sl ((e).kids.map (Expr.enc)))]),vi l]=some (vi (if l<=0 then 0 else min (e.size:Int) l)):=by
 induction e using Expr.ind with
 | _ e ih =>
 intro l hl
 have hsz:=Expr.size_eq e
 have hlen:=Expr.len_le_size e.kids
 (refine den_ofY Γ47 rfl ?_; dsimp only [f47])
 simp -dsimp -implicitDefEqProofs only [go_sem,seval]
 refine csplit (fun h => ?_) (fun h => ?_) <;> (try simp only [bools] at h) <;> (try simp -dsimp -implicitDefEqProofs only [go_sem,seval, *])
 refine loopY 4294966880 e.kids.length (fun i f=>(f 6).v=vi i/\(f 5).v=vi (min (1+((e.kids.take i).map Expr.size).sum:Nat) l)) rfl rfl ⟨by simp -dsimp -implicitDefEqProofs only [go_sem,seval],by simp -dsimp -implicitDefEqProofs only [go_sem,seval]; simp; omega⟩ ?_
 rintro i f u kk bb hi ⟨h6,h5⟩
 have hp:=Expr.take_le_size e.kids i
 have hi' := Expr.len_le_size (e.kids.take i)
 rw [List.length_take,Nat.min_eq_left hi] at hi'
 simp -dsimp -implicitDefEqProofs only [go_sem,seval,h6,h5]
 refine csplit (fun h => ?_) (fun h => ?_) <;> (try simp only [bools] at h) <;> (try simp -dsimp -implicitDefEqProofs only [go_sem,seval,h6,h5, *])
 ·refine csplit (fun h => ?_) (fun h => ?_) <;> (try simp only [bools] at h) <;> (try simp -dsimp -implicitDefEqProofs only [go_sem,seval,h6,h5, *])
  ·have hw:=wrapS i (by omega)
   obtain ⟨x,hx,hm⟩:=get_of ‹i<e.kids.length›
   have ht:=take_succ_of hx
   have hn1:min (((1+((e.kids.take i).map Expr.size).sum:Nat):Int)) l=((1+((e.kids.take i).map Expr.size).sum:Nat):Int):=by omega
   rw [hn1] at h5
   have hw1:IntKind.i64.wrap (l-((1+((e.kids.take i).map Expr.size).sum:Nat):Int))=l-((1+((e.kids.take i).map Expr.size).sum:Nat):Int):=wrap64 (by omega)
   have hd:=ih x hm (l-((1+((e.kids.take i).map Expr.size).sum:Nat):Int)) (by omega)
   simp -dsimp -implicitDefEqProofs only [go_sem,seval,h6,h5,hw,hx,hw1,hd]
   refine ⟨by omega,by simp -dsimp -implicitDefEqProofs only [go_sem,seval], ?_⟩
   simp -dsimp -implicitDefEqProofs only [go_sem,seval]
   rw [if_neg (by omega),ht,wrap64 (by omega)]
   simp only [List.map_append,List.sum_append,List.map_cons,List.map_nil,List.sum_cons,List.sum_nil]
   omega
  ·omega
 ·have:i=e.kids.length:=by omega
  subst this
  rw [List.take_length]; omega
def nodeOk (e:Expr):Bool :=
 if arity e.op≠e.kids.length\/e.w<1\/e.w>8 then false
 else if e.op=1 then decide (0<=e.n/\e.n<2^e.w.toNat)
 else if e.op=2\/e.op=3 then decide (0<=e.n/\e.n<32)
 else if e.op=4 then decide (e.n=0/\e.kw 0=e.w)
 else if e.op=11\/e.op=12\/e.op=13 then decide (e.n=0/\e.w=1/\e.kw 0=e.kw 1)
 else if e.op=14 then decide (e.n=0/\e.kw 0=1/\e.kw 1=e.w/\e.kw 2=e.w)
 else decide (e.n=0/\e.kw 0=e.w/\e.kw 1=e.w)
def Expr.deep:Nat->Expr->Bool
 | 0,_=>false
 | d+1,e=>nodeOk e&&e.kids.all (Expr.deep d)
theorem all_take_succ {α:Type} {l:List α} {i:Nat} {x:α} {p:α->Bool} (h:l[i]? = some x) (h1:(l.take i).all p=true) (h2:p x=true):(l.take (i+1)).all p=true:=by
 rw [take_succ_of h,List.all_append,h1]; simp [h2]
theorem all_false_of {α:Type} {l:List α} {x:α} {p:α->Bool} (h:x∈l) (h2:p x=false):l.all p=false:=by
 rw [List.all_eq_false]; exact ⟨x,h,by simp [h2]⟩
theorem arity_le (op:Int):arity op<=3:=by unfold arity; grind
theorem nodeOk_len {e:Expr} (h:nodeOk e=true):e.kids.length<=3:=by
 have:=arity_le e.op
 unfold nodeOk at h
 split at h
 ·simp at h
 ·rename_i h'; simp only [not_or,Decidable.not_not] at h'; omega
end Rg
end
section
-- FULL
namespace Rg
open Go
theorem op_cases (op:Int):op=1\/op=2\/op=3\/op=4\/op=5\/op=6\/op=7\/op=8\/op=9\/op=10\/op=11\/op=12\/op=13\/op=14\/(op<1\/14<op):=by omega
theorem arity_bad {op:Int} (h:op<1\/14<op):arity op = -1:=by unfold arity; grind
set_option maxHeartbeats 2000000
end Rg
end
section
namespace Rg
open Go
def Expr.formed (e:Expr):Bool:=decide (e.size<=600)&&e.deep 40
theorem small_den (e:Expr) (l:Int) (hl:0<=l/\l<10000):Den Γ G 23 [(.agg [.t (ti (e).op), .t (ti (e).w), .t (ti (e).n), .t (.sl ((e).kids.map (Expr.enc)))]),vi l]=some (vb (decide ((e.size:Int)<=l))):=by
 (refine den_ofY Γ23 rfl ?_; dsimp only [f23])
 have hw:IntKind.i64.wrap (l+1)=l+1:=wrap64 (by omega)
 have h1:=size_den e (l+1) (by omega)
 simp -dsimp -implicitDefEqProofs only [go_sem,seval,h1,hw]
 rw [if_neg (by omega)]
 simp; omega
def leafOk (cells:List Cell) (pair:Bool) (e:Expr):Bool :=
 if e.op=3/\pair=false then false
 else if (e.op=3\/e.op=2) then (match cells[e.n.toNat]? with | some c=>decide (c.w=e.w) | none=>false)
 else true
theorem nodeOk_n {e:Expr} (h:nodeOk e=true):0<=e.n:=by
 unfold nodeOk at h
 split at h
 ·simp at h
 ·grind
def Expr.valid (e:Expr) (cells:List Cell) (pair:Bool):Bool:=e.formed&&e.allE (leafOk cells pair)
def atI (l:List Int) (n:Int):Int:=l.getD n.toNat 0
def opv (op w a b c:Int):Int :=
 if op=4 then 2^w.toNat-1-a
 else if op=5 then ((a.toNat &&& b.toNat:Nat):Int)
 else if op=6 then ((a.toNat ||| b.toNat:Nat):Int)
 else if op=7 then ((a.toNat ^^^ b.toNat:Nat):Int)
 else if op=8 then (a+b) % 2^w.toNat
 else if op=9 then (a-b) % 2^w.toNat
 else if op=10 then a*b % 2^w.toNat
 else if op=11 then (if a=b then 1 else 0)
 else if op=12 then (if a<b then 1 else 0)
 else if op=13 then (if a<=b then 1 else 0)
 else (if a=1 then b else c)
end Rg
end
section
-- FULL
-- APPS
namespace Rg
open Go
namespace Expr
mutual
def ev (old now:List Int):Expr->Int
 | .mk op w n ks=>if op=1 then n else if op=2 then atI now n % 2^w.toNat else if op=3 then atI old n % 2^w.toNat
   else opv op w ((evs old now ks).getD 0 0) ((evs old now ks).getD 1 0) ((evs old now ks).getD 2 0)
def evs (old now:List Int):List Expr->List Int
 | []=>[]
 | e::r=>ev old now e::evs old now r
end
end Expr
theorem deep_node {d:Nat} {e:Expr} (h:e.deep d=true):nodeOk e=true:=by
 cases d with
 | zero=>simp [Expr.deep] at h
 | succ d=>simp only [Expr.deep,Bool.and_eq_true] at h; exact h.1
theorem deep_kid {d:Nat} {e k:Expr} (h:e.deep (d+1)=true) (hk:k∈e.kids):k.deep d=true:=by
 simp only [Expr.deep,Bool.and_eq_true,List.all_eq_true] at h; exact h.2 k hk
theorem node_w {e:Expr} (h:nodeOk e=true):1<=e.w/\e.w<=8:=by
 unfold nodeOk at h; grind
theorem node_arity {e:Expr} (h:nodeOk e=true):arity e.op=(e.kids.length:Int):=by
 unfold nodeOk at h; grind
def Expr.eval (e:Expr) (old now:List Int):Int:=if e.formed then e.ev old now else 0
theorem formed_deep {e:Expr} (h:e.formed=true):e.deep 40=true:=by
 simp only [Expr.formed,Bool.and_eq_true] at h; exact h.2
theorem wide_den (ks:List Expr) (ws:List Int) (hl:ws.length<=3):Den Γ G 91 [.t (.sl (ks.map Expr.enc)), .t (ints ws)]=some (vb (decide (ks.map Expr.w=ws))):=by
 (refine den_ofY Γ91 rfl ?_; dsimp only [f91])
 simp -dsimp -implicitDefEqProofs only [go_sem,seval]
 refine csplit (fun h => ?_) (fun h => ?_) <;> (try simp only [bools] at h) <;> (try simp -dsimp -implicitDefEqProofs only [go_sem,seval, *])
 ·have : ¬ ks.map Expr.w=ws:=fun he=>by have:=congrArg List.length he; simp at this; omega
  simp [this]
 ·have hlen:ks.length=ws.length:=by omega
  refine loopY 134201456 ws.length (fun i f=>(f 14).v=vi i/\(ks.take i).map Expr.w=ws.take i) rfl rfl ⟨by simp -dsimp -implicitDefEqProofs only [go_sem,seval],by simp⟩ ?_
  rintro i f u kk bb hi ⟨h14,ht⟩
  have hw:=wrapS i (by omega)
  simp -dsimp -implicitDefEqProofs only [go_sem,seval,h14]
  refine csplit (fun h => ?_) (fun h => ?_) <;> (try simp only [bools] at h) <;> (try simp -dsimp -implicitDefEqProofs only [go_sem,seval, *])
  ·have hx:ws[i]? = some ws[i]:=List.getElem?_eq_getElem (by omega)
   have hy:ks[i]? = some ks[i]:=List.getElem?_eq_getElem (by omega)
   simp -dsimp -implicitDefEqProofs only [go_sem,seval,h14,hx,hy]
   refine csplit (fun h => ?_) (fun h => ?_) <;> (try simp only [bools] at h) <;> (try simp -dsimp -implicitDefEqProofs only [go_sem,seval, *])
   ·have : ¬ ks.map Expr.w=ws:=fun he=>by
     have:=congrArg (fun l=>l[i]?) he
     simp only [List.getElem?_map,hx,hy,Option.map_some,Option.some.injEq] at this
     contradiction
    simp [this]
   ·refine ⟨by omega,by simp -dsimp -implicitDefEqProofs only [go_sem,seval,hw], ?_⟩
    rw [take_succ_of hx,take_succ_of hy,List.map_append,ht]
    simp [h]
  ·have:i=ws.length:=by omega
   subst this
   rw [List.take_length, <- hlen,List.take_length] at ht
   simp [ht]
@[go_sem] theorem G_0:G 0=[ti 0,ti 1,ti 3,ti 7,ti 15,ti 31,ti 63,ti 127,ti 255]:=rfl
theorem mask_cases {w:Int} (h:1<=w/\w<=8):w=1\/w=2\/w=3\/w=4\/w=5\/w=6\/w=7\/w=8:=by omega
theorem arity_two {op:Int} (h:5<=op/\op<=13):arity op=2:=by unfold arity; grind
theorem nodeOk_mk (op w n:Int) (ks:List Expr):nodeOk (.mk op w n ks) =
 if arity op≠ks.length\/w<1\/w>8 then false
 else if op=1 then decide (0<=n/\n<2^w.toNat)
 else if op=2\/op=3 then decide (0<=n/\n<32)
 else if op=4 then decide (n=0/\(Expr.mk op w n ks).kw 0=w)
 else if op=11\/op=12\/op=13 then decide (n=0/\w=1/\(Expr.mk op w n ks).kw 0=(Expr.mk op w n ks).kw 1)
 else if op=14 then decide (n=0/\(Expr.mk op w n ks).kw 0=1/\(Expr.mk op w n ks).kw 1=w/\(Expr.mk op w n ks).kw 2=w)
 else decide (n=0/\(Expr.mk op w n ks).kw 0=w/\(Expr.mk op w n ks).kw 1=w):=rfl
theorem kw_0 (op w n:Int) (a:Expr) (r:List Expr):(Expr.mk op w n (a::r)).kw 0=a.w:=rfl
theorem kw_1 (op w n:Int) (a b:Expr) (r:List Expr):(Expr.mk op w n (a::b::r)).kw 1=b.w:=rfl
theorem kw_2 (op w n:Int) (a b c:Expr) (r:List Expr):(Expr.mk op w n (a::b::c::r)).kw 2=c.w:=rfl
theorem nodeOk_bin {op w n:Int} {ks:List Expr} (h:5<=op/\op<=10) (hw:1<=w/\w<=8):nodeOk (.mk op w n ks)=decide (n=0/\ks.map Expr.w=[w,w]):=by
 rw [nodeOk_mk,arity_two (show 5<=op/\op<=13 by omega),if_neg (show ¬ op=1 by omega),if_neg (show ¬ (op=2\/op=3) by omega),if_neg (show ¬ op=4 by omega),if_neg (show ¬ (op=11\/op=12\/op=13) by omega),if_neg (show ¬ op=14 by omega)]
 rcases ks with _ | ⟨a,_ | ⟨b,_ | ⟨c,r⟩⟩⟩
 ·rw [if_pos (by simp)]; simp
 ·rw [if_pos (by simp)]; simp
 ·rw [if_neg (by simp; omega),kw_0,kw_1]; simp
 ·rw [if_pos (by simp; omega)]; simp
theorem nodeOk_cmp {op w n:Int} {ks:List Expr} (h:11<=op/\op<=13) (hw:1<=w/\w<=8):nodeOk (.mk op w n ks)=decide (n=0/\w=1/\ks.length=2/\(Expr.mk op w n ks).kw 0=(Expr.mk op w n ks).kw 1):=by
 rw [nodeOk_mk,arity_two (show 5<=op/\op<=13 by omega),if_neg (show ¬ op=1 by omega),if_neg (show ¬ (op=2\/op=3) by omega),if_neg (show ¬ op=4 by omega),if_pos (show (op=11\/op=12\/op=13) by omega)]
 by_cases hl:ks.length=2
 ·rw [if_neg (by omega)]; simp [hl]
 ·rw [if_pos (by omega)]; simp [hl]
theorem nodeOk_not {w n:Int} {ks:List Expr} (hw:1<=w/\w<=8):nodeOk (.mk 4 w n ks)=decide (n=0/\ks.map Expr.w=[w]):=by
 rw [nodeOk_mk,show arity 4=1 from rfl,if_neg (show ¬ (4:Int)=1 by omega),if_neg (show ¬ ((4:Int)=2\/(4:Int)=3) by omega),if_pos rfl]
 rcases ks with _ | ⟨a,_ | ⟨b,r⟩⟩
 ·rw [if_pos (by simp)]; simp
 ·rw [if_neg (by simp; omega),kw_0]; simp
 ·rw [if_pos (by simp; omega)]; simp
theorem nodeOk_ite {w n:Int} {ks:List Expr} (hw:1<=w/\w<=8):nodeOk (.mk 14 w n ks)=decide (n=0/\ks.map Expr.w=[1,w,w]):=by
 rw [nodeOk_mk,show arity 14=3 from rfl,if_neg (show ¬ (14:Int)=1 by omega),if_neg (show ¬ ((14:Int)=2\/(14:Int)=3) by omega),if_neg (show ¬ (14:Int)=4 by omega),if_neg (show ¬ ((14:Int)=11\/(14:Int)=12\/(14:Int)=13) by omega),if_pos rfl]
 rcases ks with _ | ⟨a,_ | ⟨b,_ | ⟨c,_ | ⟨d,r⟩⟩⟩⟩
 ·rw [if_pos (by simp)]; simp
 ·rw [if_pos (by simp)]; simp
 ·rw [if_pos (by simp)]; simp
 ·rw [if_neg (by simp; omega),kw_0,kw_1,kw_2]; simp
 ·rw [if_pos (by simp; omega)]; simp
theorem nodeOk_leaf {op w n:Int} {ks:List Expr} (h:1<=op/\op<=3) (hw:1<=w/\w<=8):nodeOk (.mk op w n ks)=decide (ks.length=0/\0<=n/\(if op=1 then n<2^w.toNat else n<32)):=by
 have ha:arity op=0:=by unfold arity; rw [if_pos h]
 rw [nodeOk_mk,ha]
 by_cases hl:ks.length=0
 ·rw [if_neg (by omega)]
  by_cases h1:op=1
  ·simp [h1,hl]
  ·rw [if_neg h1,if_pos (by omega)]; simp [h1,hl]
 ·rw [if_pos (by omega)]; simp [hl]
theorem nodeOk_bad {op w n:Int} {ks:List Expr} (h:op<1\/14<op):nodeOk (.mk op w n ks)=false:=by
 rw [nodeOk_mk,arity_bad h,if_pos (by omega)]
theorem nodeOk_n0 {op w n:Int} {ks:List Expr} (h : ¬ (1<=op/\op<=3)) (hw:1<=w/\w<=8) (hn : ¬ n=0):nodeOk (.mk op w n ks)=false:=by
 rcases op_cases op with rfl | rfl | rfl | rfl | rfl | rfl | rfl | rfl | rfl | rfl | rfl | rfl | rfl | rfl | hop
 ·omega
 ·omega
 ·omega
 ·rw [nodeOk_not hw]; simp [hn]
 ·rw [nodeOk_bin (by omega) hw]; simp [hn]
 ·rw [nodeOk_bin (by omega) hw]; simp [hn]
 ·rw [nodeOk_bin (by omega) hw]; simp [hn]
 ·rw [nodeOk_bin (by omega) hw]; simp [hn]
 ·rw [nodeOk_bin (by omega) hw]; simp [hn]
 ·rw [nodeOk_bin (by omega) hw]; simp [hn]
 ·rw [nodeOk_cmp (by omega) hw]; simp [hn]
 ·rw [nodeOk_cmp (by omega) hw]; simp [hn]
 ·rw [nodeOk_cmp (by omega) hw]; simp [hn]
 ·rw [nodeOk_ite hw]; simp [hn]
 ·exact nodeOk_bad hop
set_option maxHeartbeats 4000000 in
theorem shaped_den (e:Expr):Den Γ G 71 [.t (.ip [ti e.op,ti e.w,ti e.n, .sl (e.kids.map Expr.enc)])]=some (vb (nodeOk e)):=by
 obtain ⟨op,w,n,ks⟩:=e
 simp only [Expr.op_mk,Expr.w_mk,Expr.n_mk,Expr.kids_mk]
 (refine den_ofY Γ71 rfl ?_; dsimp only [f71])
 by_cases hw:1<=w/\w<=8
 ·have h1 : ¬ w<1:=by omega
  have h2 : ¬ w>8:=by omega
  have hd1:=wide_den ks [w] (by simp)
  have hd2:=wide_den ks [w,w] (by simp)
  have hd3:=wide_den ks [1,w,w] (by simp)
  simp only [ints,List.map_cons,List.map_nil] at hd1 hd2 hd3
  by_cases hleaf:op=1
  ·subst hleaf
   rw [nodeOk_leaf (by omega) hw]
   clear hd1 hd2 hd3
   rcases mask_cases hw with rfl | rfl | rfl | rfl | rfl | rfl | rfl | rfl
   all_goals (
    simp -dsimp -implicitDefEqProofs only [go_sem,seval]
    repeat' (refine csplit (fun h => ?_) (fun h => ?_) <;> (try simp only [bools] at h) <;> (try simp -dsimp -implicitDefEqProofs only [go_sem,seval, *]))
    all_goals ((try simp only [Int.reduceToNat,Int.reducePow,Int.reduceEq,reduceIte]); first | exact (decide_eq_false (by omega)).symm | (simp; done) | (apply decide_eq_decide.2; omega)))
  ·by_cases hleaf2:op=2\/op=3
   ·rw [nodeOk_leaf (by omega) hw]
    clear hd1 hd2 hd3
    rcases hleaf2 with rfl | rfl
    all_goals (
     simp -dsimp -implicitDefEqProofs only [go_sem,seval,h1,h2]
     repeat' (refine csplit (fun h => ?_) (fun h => ?_) <;> (try simp only [bools] at h) <;> (try simp -dsimp -implicitDefEqProofs only [go_sem,seval, *]))
     all_goals ((try simp only [Int.reduceEq,reduceIte]); first | exact (decide_eq_false (by omega)).symm | (simp; done) | (apply decide_eq_decide.2; omega)))
   ·have e1 : ¬ op=2:=by omega
    have e2 : ¬ op=3:=by omega
    by_cases hn:n=0
    ·rcases op_cases op with rfl | rfl | rfl | rfl | rfl | rfl | rfl | rfl | rfl | rfl | rfl | rfl | rfl | rfl | hop
     ·omega
     ·omega
     ·omega
     ·rw [nodeOk_not hw]; simp -dsimp -implicitDefEqProofs only [go_sem,seval,h1,h2,hn,hd1]
     ·rw [nodeOk_bin (by omega) hw]; simp -dsimp -implicitDefEqProofs only [go_sem,seval,h1,h2,hn,hd2]
     ·rw [nodeOk_bin (by omega) hw]; simp -dsimp -implicitDefEqProofs only [go_sem,seval,h1,h2,hn,hd2]
     ·rw [nodeOk_bin (by omega) hw]; simp -dsimp -implicitDefEqProofs only [go_sem,seval,h1,h2,hn,hd2]
     ·rw [nodeOk_bin (by omega) hw]; simp -dsimp -implicitDefEqProofs only [go_sem,seval,h1,h2,hn,hd2]
     ·rw [nodeOk_bin (by omega) hw]; simp -dsimp -implicitDefEqProofs only [go_sem,seval,h1,h2,hn,hd2]
     ·rw [nodeOk_bin (by omega) hw]; simp -dsimp -implicitDefEqProofs only [go_sem,seval,h1,h2,hn,hd2]
     ·rw [nodeOk_cmp (by omega) hw]
      rcases ks with _ | ⟨a,_ | ⟨b,_ | ⟨c,r⟩⟩⟩
      all_goals (
       simp -dsimp -implicitDefEqProofs only [go_sem,seval,h1,h2,hn]
       repeat' (refine csplit (fun h => ?_) (fun h => ?_) <;> (try simp only [bools] at h) <;> (try simp -dsimp -implicitDefEqProofs only [go_sem,seval, *]))
       all_goals (simp [kw_0,kw_1, *])
       all_goals (first | rfl | omega))
     ·rw [nodeOk_cmp (by omega) hw]
      rcases ks with _ | ⟨a,_ | ⟨b,_ | ⟨c,r⟩⟩⟩
      all_goals (
       simp -dsimp -implicitDefEqProofs only [go_sem,seval,h1,h2,hn]
       repeat' (refine csplit (fun h => ?_) (fun h => ?_) <;> (try simp only [bools] at h) <;> (try simp -dsimp -implicitDefEqProofs only [go_sem,seval, *]))
       all_goals (simp [kw_0,kw_1, *])
       all_goals (first | rfl | omega))
     ·rw [nodeOk_cmp (by omega) hw]
      rcases ks with _ | ⟨a,_ | ⟨b,_ | ⟨c,r⟩⟩⟩
      all_goals (
       simp -dsimp -implicitDefEqProofs only [go_sem,seval,h1,h2,hn]
       repeat' (refine csplit (fun h => ?_) (fun h => ?_) <;> (try simp only [bools] at h) <;> (try simp -dsimp -implicitDefEqProofs only [go_sem,seval, *]))
       all_goals (simp [kw_0,kw_1, *])
       all_goals (first | rfl | omega))
     ·rw [nodeOk_ite hw]; simp -dsimp -implicitDefEqProofs only [go_sem,seval,h1,h2,hn,hd3]
     ·rw [nodeOk_bad hop]
      have n1 : ¬ op=4:=by omega
      have n2 : ¬ op=5:=by omega
      have n3 : ¬ op=6:=by omega
      have n4 : ¬ op=7:=by omega
      have n5 : ¬ op=8:=by omega
      have n6 : ¬ op=9:=by omega
      have n7 : ¬ op=10:=by omega
      have n8 : ¬ op=11:=by omega
      have n9 : ¬ op=12:=by omega
      have n10 : ¬ op=13:=by omega
      have n11 : ¬ op=14:=by omega
      simp -dsimp -implicitDefEqProofs only [go_sem,seval,h1,h2,hn,hleaf,e1,e2,n1,n2,n3,n4,n5,n6,n7,n8,n9,n10,n11]
    ·rw [nodeOk_n0 (by omega) hw hn]
     simp -dsimp -implicitDefEqProofs only [go_sem,seval,h1,h2,hleaf,e1,e2,hn]
 ·by_cases h1:w<1
  ·simp -dsimp -implicitDefEqProofs only [go_sem,seval,h1]
   simp only [nodeOk,go_sem]; grind
  ·have h2:w>8:=by omega
   simp -dsimp -implicitDefEqProofs only [go_sem,seval,h1,h2]
   simp only [nodeOk,go_sem]; grind
end Rg
end
section
namespace Rg
open Go
theorem updC_same {α:Type} (f:Nat->α) (i:Nat) (v w:α):updC (updC f i v) i w=updC f i w:=by
 rw [updC_eq]; funext j; unfold upd; split <;> rfl
def Shows (h:Nat->Option O) (kc:Nat) (v:V) (e:Expr):Prop :=
 v = .t (.ip [ti e.op,ti e.w,ti e.n, .sl (e.kids.map Expr.enc)]) \/
 ∃ k fz,v = .mp k 0 0/\k≠kc/\h k=some (.rows 4 [[.t (ti e.op), .t (ti e.w), .t (ti e.n), .t (.sl (e.kids.map Expr.enc))]] fz)
theorem visit_den (d:Nat) : ∀ (e:Expr) (v:V) (c:Int) (H:Nat->Option O) (n kc kv:Nat) (fz:Bool),
 d<=40->Shows H kc v e->0<=c->c<=600->kv≠kc->H kc=some (.rows 1 [[vi c]] false)->H kv=some (.rows 1 [[.fn 70 [] [.mp kc 0 0, .mp kv 0 0]]] fz) ->
 ∃ r h' n',DenR Γ G 70 [v,vi (41-d), .mp kc 0 0, .mp kv 0 0] H n=some (r,h',n') /\
  r=vb (e.deep d&&decide (c+e.size<=600)) /\ ∃ c' : Int,h' = updC H kc (some (.rows 1 [[vi c']] false))/\(e.deep d=true->c+e.size<=600->c' = c+e.size):=by
 induction d with
 | zero =>
   intro e v c H n kc kv fz hd hv hc0 hc hne hkc hkv
   (refine denR_ofY Γ70 rfl ?_; dsimp only [f70])
   have hw:IntKind.i64.wrap (c+1)=c+1:=wrap64 (by omega)
   have hdep:(41-((0:Nat):Int))>40:=by omega
   rcases hv with rfl | ⟨k,fk,rfl,hk,hkk⟩
   all_goals (
    simp -dsimp -implicitDefEqProofs only [go_sem,seval,hkc,hw,hdep]
    repeat' (refine csplit (fun h => ?_) (fun h => ?_) <;> (try simp only [bools] at h) <;> (try simp -dsimp -implicitDefEqProofs only [go_sem,seval, *]))
    all_goals (exact ⟨by simp -dsimp -implicitDefEqProofs only [go_sem,seval,Expr.deep,Bool.false_and],c+1,by simp -dsimp -implicitDefEqProofs only [go_sem,seval],by simp [Expr.deep]⟩))
 | succ d ih =>
   intro e v c H n kc kv fz hd hv hc0 hc hne hkc hkv
   (refine denR_ofY Γ70 rfl ?_; dsimp only [f70])
   have hw:IntKind.i64.wrap (c+1)=c+1:=wrap64 (by omega)
   have hdep : ¬ (41-((d+1:Nat):Int))>40:=by omega
   have hw2:IntKind.i64.wrap (41-((d+1:Nat):Int)+1)=41-(d:Int):=by rw [wrap64 (by omega)]; omega
   have hsh:=shaped_den e
   have hsz:=Expr.size_eq e
   have hpos:=Expr.size_pos e
   rcases hv with rfl | ⟨k,fk,rfl,hk,hkk⟩
   all_goals (
    have hk0:=hw
    (try have hk0:=hk)
    simp -dsimp -implicitDefEqProofs only [go_sem,seval,hkc,hw,hdep]
    refine csplit (fun h => ?_) (fun h => ?_) <;> (try simp only [bools] at h) <;> (try simp -dsimp -implicitDefEqProofs only [go_sem,seval, *])
    ·refine ⟨?_,c+1,by simp -dsimp -implicitDefEqProofs only [go_sem,seval],fun _ hle=>by omega⟩
     simp -dsimp -implicitDefEqProofs only [go_sem,seval]
     have : ¬ (c+(e.size:Int)<=600):=by omega
     simp [this]
    ·refine csplit (fun h => ?_) (fun h => ?_) <;> (try simp only [bools] at h) <;> (try simp -dsimp -implicitDefEqProofs only [go_sem,seval, *])
     ·refine ⟨?_,c+1,by simp -dsimp -implicitDefEqProofs only [go_sem,seval],fun hdp=>by rw [deep_node hdp] at h; simp at h⟩
      simp -dsimp -implicitDefEqProofs only [go_sem,seval]
      simp [Expr.deep,h]
     ·have hlen:=nodeOk_len h
      refine loopYH 2198956146880 e.kids.length (fun i f hh x=>(f 26).v=vi i /\ ∃ c' : Int,hh=updC H kc (some (.rows 1 [[vi c']] false))/\c' = c+1+((e.kids.take i).map Expr.size).sum/\c' <= 600/\(e.kids.take i).all (Expr.deep d)=true) rfl
       ⟨by simp -dsimp -implicitDefEqProofs only [go_sem,seval],c+1,by simp -dsimp -implicitDefEqProofs only [go_sem,seval],by simp,by omega,by simp⟩ ?_
      rintro i f u hh x bs hi ⟨h26,c',rfl,hc',hle,hall⟩
      have hwi:=wrapS i (by omega)
      simp -dsimp -implicitDefEqProofs only [go_sem,seval,h26]
      refine csplit (fun h => ?_) (fun h => ?_) <;> (try simp only [bools] at h) <;> (try simp -dsimp -implicitDefEqProofs only [go_sem,seval, *])
      ·obtain ⟨y,hy,hm⟩:=get_of ‹i<e.kids.length›
       simp -dsimp -implicitDefEqProofs only [go_sem,seval,h26,hy,hne,hkv,hw2,hk0]
       refine rawK_of (ih y _ c' _ _ kc kv fz (by omega) (.inl rfl) (by omega) hle hne (by rw [updC_at]; simp) (by rw [updC_at]; simp [hne,hkv])) ?_
       rintro r h' n' ⟨rfl,c2,rfl,hc2⟩
       simp -dsimp -implicitDefEqProofs only [go_sem,seval]
       have hts:=Expr.take_le_size e.kids (i+1)
       have ht1:((e.kids.take (i+1)).map Expr.size).sum=((e.kids.take i).map Expr.size).sum+y.size:=by
        rw [take_succ_of hy]; simp
       refine csplit (fun h => ?_) (fun h => ?_) <;> (try simp only [bools] at h) <;> (try simp -dsimp -implicitDefEqProofs only [go_sem,seval, *])
       ·refine ⟨?_,c2,by simp -dsimp -implicitDefEqProofs only [go_sem,seval,updC_same],fun hdp hle2 => ?_⟩
        ·simp -dsimp -implicitDefEqProofs only [go_sem,seval]
         simp only [Bool.and_eq_false_iff,decide_eq_false_iff_not] at h
         rcases h with h | h
         ·rw [Expr.deep,all_false_of hm h]; simp
         ·have : ¬ c+(e.size:Int)<=600:=by omega
          simp [this]
        ·have hy1:=deep_kid hdp hm
         have:c' + (y.size:Int)<=600:=by omega
         simp [hy1,this] at h
       ·simp only [Bool.and_eq_true,decide_eq_true_eq] at h
        have h2:=hc2 h.1 h.2
        exact ⟨by omega,by simp -dsimp -implicitDefEqProofs only [go_sem,seval,hwi],c2,by simp -dsimp -implicitDefEqProofs only [go_sem,seval,updC_same],by omega,by omega,all_take_succ hy hall h.1⟩
      ·have:i=e.kids.length:=by omega
       subst this
       rw [List.take_length] at hall hc'
       refine ⟨?_,c',by simp -dsimp -implicitDefEqProofs only [go_sem,seval],fun hdp hle2=>by omega⟩
       simp -dsimp -implicitDefEqProofs only [go_sem,seval]
       have:c+(e.size:Int)<=600:=by omega
       simp [Expr.deep,hall,this, ‹nodeOk e=true›])
theorem wellFormed_den (e:Expr):Den Γ G 51 [(.agg [.t (ti (e).op), .t (ti (e).w), .t (ti (e).n), .t (.sl ((e).kids.map (Expr.enc)))])]=some (vb e.formed):=by
 (refine den_ofY Γ51 rfl ?_; dsimp only [f51])
 simp -dsimp -implicitDefEqProofs only [go_sem,seval]
 refine rawK_of (visit_den 40 e _ 0 _ _ _ _ false (by omega) (.inr ⟨_,false,rfl, ?_, ?_⟩) (by omega) (by omega) ?_ ?_ ?_) ?_
 ·decide
 ·simp -dsimp -implicitDefEqProofs only [go_sem,seval]
 ·decide
 ·simp -dsimp -implicitDefEqProofs only [go_sem,seval]
 ·simp -dsimp -implicitDefEqProofs only [go_sem,seval]
 ·rintro r h' n' ⟨rfl,c',rfl,_⟩
  simp -dsimp -implicitDefEqProofs only [go_sem,seval]
  simp only [Expr.formed]
  rw [Bool.and_comm]
  congr 1
  by_cases h:e.size<=600
  ·simp [h]; omega
  ·simp [h]; omega
end Rg
end
section
namespace Rg
open Go
def inR (i n:Int):Bool:=decide (0<=i/\i<n)
theorem below_den (i n:Int):Den Γ G 96 [vi i,vi n]=some (vb (inR i n)):=by
 (refine den_ofY Γ96 rfl ?_; dsimp only [f96])
 simp -dsimp -implicitDefEqProofs only [go_sem,seval]
 refine csplit (fun h => ?_) (fun h => ?_) <;> (try simp only [bools] at h) <;> (try simp -dsimp -implicitDefEqProofs only [go_sem,seval, *])
 ·simp [inR]; omega
 ·simp [inR]; omega
def Expr.absent (e:Expr):Bool:=decide (e.op=0/\e.w=0/\e.n=0/\e.kids=[])
theorem absentP_den (e:Expr):Den Γ G 98 [(.agg [.t (ti (e).op), .t (ti (e).w), .t (ti (e).n), .t (.sl ((e).kids.map (Expr.enc)))])]=some (vb e.absent):=by
 (refine den_ofY Γ98 rfl ?_; dsimp only [f98])
 simp -dsimp -implicitDefEqProofs only [go_sem,seval]
 repeat' (refine csplit (fun h => ?_) (fun h => ?_) <;> (try simp only [bools] at h) <;> (try simp -dsimp -implicitDefEqProofs only [go_sem,seval, *]))
 all_goals (simp [Expr.absent, *])
def Expr.one (e:Expr):Bool:=decide (e.op=1/\e.w=1/\e.n=1/\e.kids=[])
theorem one_den (e:Expr):Den Γ G 166 [(.agg [.t (ti (e).op), .t (ti (e).w), .t (ti (e).n), .t (.sl ((e).kids.map (Expr.enc)))])]=some (vb e.one):=by
 (refine den_ofY Γ166 rfl ?_; dsimp only [f166])
 simp -dsimp -implicitDefEqProofs only [go_sem,seval]
 repeat' (refine csplit (fun h => ?_) (fun h => ?_) <;> (try simp only [bools] at h) <;> (try simp -dsimp -implicitDefEqProofs only [go_sem,seval, *]))
 all_goals (simp [Expr.one, *])
def rising (l:List Int):Bool:=(List.range (l.length-1)).all fun i=>decide (l.getD i 0<l.getD (i+1) 0)
theorem rising_no {l:List Int} {i:Nat} (h:i+1<l.length) (h2 : ¬ l.getD i 0<l.getD (i+1) 0):rising l=false :=
 all_false_of (List.mem_range.2 (by omega)) (decide_eq_false h2)
theorem rising_yes {l:List Int} (h : ∀ j,j+1<l.length->l.getD j 0<l.getD (j+1) 0):rising l=true:=by
 simp only [rising,List.all_eq_true,List.mem_range,decide_eq_true_eq]
 exact fun j hj=>h j (by omega)
theorem increasing_den (l:List Int) (hl:l.length<2^50):Den Γ G 101 [.t (ints l)]=some (vb (rising l)):=by
 (refine den_ofY Γ101 rfl ?_; dsimp only [f101])
 simp -dsimp -implicitDefEqProofs only [go_sem,seval]
 refine loopY 1048572 (l.length-1) (fun i f=>(f 3).v=vi ((i+1:Nat):Int) /\ ∀ j<i,l.getD j 0<l.getD (j+1) 0) rfl rfl ⟨by simp -dsimp -implicitDefEqProofs only [go_sem,seval],by simp⟩ ?_
 rintro i f u kk bb hi ⟨h3,hall⟩
 have hw:=wrapS (i+1) (by omega)
 have hw2:IntKind.i64.wrap (((i+1:Nat):Int)-1)=(i:Int):=by rw [wrap64 (by omega)]; omega
 simp -dsimp -implicitDefEqProofs only [go_sem,seval,h3]
 refine csplit (fun h => ?_) (fun h => ?_) <;> (try simp only [bools] at h) <;> (try simp -dsimp -implicitDefEqProofs only [go_sem,seval, *])
 ·have hlt:i+1<l.length:=by omega
  have hx:l[i+1]? = some l[i+1]:=List.getElem?_eq_getElem hlt
  have hy:l[i]? = some l[i]:=List.getElem?_eq_getElem (by omega)
  have gx:l.getD (i+1) 0=l[i+1]:=by simp [List.getD,hx]
  have gy:l.getD i 0=l[i]:=by simp [List.getD,hy]
  simp -dsimp -implicitDefEqProofs only [go_sem,seval,h3,hx,hy,hw2]
  refine csplit (fun h => ?_) (fun h => ?_) <;> (try simp only [bools] at h) <;> (try simp -dsimp -implicitDefEqProofs only [go_sem,seval, *])
  ·have:rising l=false:=rising_no hlt (by rw [gx,gy]; omega)
   rw [this]
  ·refine ⟨by omega,by simp -dsimp -implicitDefEqProofs only [go_sem,seval,hw],fun j hj => ?_⟩
   by_cases hji:j=i
   ·subst hji; rw [gx,gy]; omega
   ·exact hall j (by omega)
 ·have:rising l=true:=rising_yes fun j hj=>hall j (by omega)
  rw [this]
def byteOk (b:ByteArray) (i:Nat):Bool:=match b[i]? with
 | some c=>decide (33<=c.toNat/\c.toNat<=126)
 | none=>false
def isLabel (b:ByteArray):Bool:=decide (1<=b.size/\b.size<=64)&&(List.range b.size).all (byteOk b)
theorem label_no {b:ByteArray} {i:Nat} (h:i<b.size) (h2:byteOk b i=false):isLabel b=false:=by
 rw [isLabel,all_false_of (List.mem_range.2 h) h2,Bool.and_false]
theorem byte_get {b:ByteArray} {i:Nat} (h:i<b.size) : ∃ c,b[i]? = some c:=⟨b[i],by simp [h]⟩
theorem labelP_den (b:ByteArray):Den Γ G 95 [.t (.str b)]=some (vb (isLabel b)):=by
 (refine den_ofY Γ95 rfl ?_; dsimp only [f95])
 simp -dsimp -implicitDefEqProofs only [go_sem,seval]
 refine csplit (fun h => ?_) (fun h => ?_) <;> (try simp only [bools] at h) <;> (try simp -dsimp -implicitDefEqProofs only [go_sem,seval, *])
 ·have : ¬ (1<=b.size/\b.size<=64):=by omega
  simp [isLabel,this]
 ·refine csplit (fun h => ?_) (fun h => ?_) <;> (try simp only [bools] at h) <;> (try simp -dsimp -implicitDefEqProofs only [go_sem,seval, *])
  ·have : ¬ (1<=b.size/\b.size<=64):=by omega
   simp [isLabel,this]
  ·have hsz:1<=b.size/\b.size<=64:=by omega
   refine loopY 268419084 b.size (fun i f=>(f 14).v=vi i /\ ∀ j<i,byteOk b j=true) rfl rfl ⟨by simp -dsimp -implicitDefEqProofs only [go_sem,seval],by simp⟩ ?_
   rintro i f u kk bb hi ⟨h14,hall⟩
   have hw:=wrapS i (by omega)
   simp -dsimp -implicitDefEqProofs only [go_sem,seval,h14]
   refine csplit (fun h => ?_) (fun h => ?_) <;> (try simp only [bools] at h) <;> (try simp -dsimp -implicitDefEqProofs only [go_sem,seval, *])
   ·obtain ⟨c,hc⟩:=byte_get ‹i<b.size›
    simp -dsimp -implicitDefEqProofs only [go_sem,seval,h14,hc]
    repeat' (refine csplit (fun h => ?_) (fun h => ?_) <;> (try simp only [bools] at h) <;> (try simp -dsimp -implicitDefEqProofs only [go_sem,seval, *]))
    ·rw [label_no ‹i<b.size› (by simp [byteOk,hc]; omega)]
    ·rw [label_no ‹i<b.size› (by simp [byteOk,hc]; omega)]
    ·refine ⟨by omega,by simp -dsimp -implicitDefEqProofs only [go_sem,seval,hw],fun j hj => ?_⟩
     by_cases hji:j=i
     ·subst hji; simp [byteOk,hc]; omega
     ·exact hall j (by omega)
   ·have:isLabel b=true:=by
     simp only [isLabel,hsz,and_self,decide_true,Bool.true_and,List.all_eq_true,List.mem_range]
     exact fun j hj=>hall j (by omega)
    rw [this]
namespace Expr
mutual
def lv:Expr->List Expr
 | .mk o w n []=>[.mk o w n []]
 | .mk o w n (k::ks)=>lv k++lvs ks
def lvs:List Expr->List Expr
 | []=>[]
 | e::r=>lv e++lvs r
end
theorem lvs_eq : ∀ l:List Expr,lvs l=l.flatMap lv
 | []=>rfl
 | e::r=>by rw [lvs,lvs_eq r]; rfl
theorem lv_eq (e:Expr):lv e=if e.kids=[] then [e] else e.kids.flatMap lv:=by
 obtain ⟨o,w,n,ks⟩:=e
 cases ks with
 | nil=>simp [lv,Expr.kids]
 | cons k ks=>simp [lv,lvs_eq,Expr.kids]
end Expr
def Sh (h:Nat->Option O) (v:V) (e:Expr):Prop :=
 v = .t (.ip [ti e.op,ti e.w,ti e.n, .sl (e.kids.map Expr.enc)]) \/
 ∃ k fz,v = .mp k 0 0/\h k=some (.rows 4 [[.t (ti e.op), .t (ti e.w), .t (ti e.n), .t (.sl (e.kids.map Expr.enc))]] fz)
theorem leaves_den {σ:Type} (g:Nat) (cp:List V) (I:σ->(Nat->Option O)->Prop) (step:σ->Expr->σ) (lc:Expr->Bool)
 (hstep : ∀ s h n v x,I s h->x.kids=[]->lc x=true->Sh h v x -> ∃ r h' n',DenR Γ G g (v::cp) h n=some (r,h',n')/\I (step s x) h') :
 ∀ (e:Expr) (v:V) (s:σ) (h:Nat->Option O) (n:Nat),e.allE (fun x=>lc x&&decide (x.kids.length<=3))=true->I s h->(∀ s h,I s h->Sh h v e) ->
  ∃ r h' n',DenR Γ G 76 [v, .fn g [] cp] h n=some (r,h',n')/\I (e.lv.foldl step s) h' := by
 intro e
 induction e using Expr.ind with
 | _ e ih =>
 intro v s H n hall hI hv
 have hself:=Expr.allE_self hall
 simp only [Bool.and_eq_true,decide_eq_true_eq] at hself
 (refine denR_ofY Γ76 rfl ?_; dsimp only [f76])
 by_cases hk:e.kids=[]
 ·have hsh:=hv s H hI
  have hlv:e.lv=[e]:=by rw [Expr.lv_eq,if_pos hk]
  rw [hlv]
  have hS : ∀ n, ∃ r h' n',DenR Γ G g (v::cp) H n=some (r,h',n')/\I (step s e) h' := fun n=>hstep s H n v e hI hk hself.1 hsh
  rcases hsh with rfl | ⟨k,fz,rfl,hkk⟩
  ·simp only [hk,List.map_nil] at hS
   simp -dsimp -implicitDefEqProofs only [go_sem,seval,hk]
   refine rawK_of (hS _) ?_
   intro r h' n' hI'
   simp -dsimp -implicitDefEqProofs only [go_sem,seval,hk]
   refine wL_step ?_
   simp -dsimp -implicitDefEqProofs only [go_sem,seval]
   exact hI'
  ·simp -dsimp -implicitDefEqProofs only [go_sem,seval,hk,hkk]
   refine rawK_of (hS _) ?_
   intro r h' n' hI'
   have:=hv _ _ hI'
   rcases this with h0 | ⟨k',fz',h0,hkk'⟩
   ·cases h0
   ·cases h0
    simp -dsimp -implicitDefEqProofs only [go_sem,seval,hk,hkk']
    refine wL_step ?_
    simp -dsimp -implicitDefEqProofs only [go_sem,seval]
    exact hI'
 ·have hlv:e.lv=e.kids.flatMap Expr.lv:=by rw [Expr.lv_eq,if_neg hk]
  have hpos : ¬ e.kids.length=0:=by simpa using hk
  have hpos' : ¬ (e.kids.length:Int)=0:=by omega
  rw [hlv]
  have hend : ∀ i,i=e.kids.length->(e.kids.take i).flatMap Expr.lv=e.kids.flatMap Expr.lv:=by rintro i rfl; rw [List.take_length]
  rcases hv s H hI with rfl | ⟨k,fz,rfl,hkk⟩
  ·simp -dsimp -implicitDefEqProofs only [go_sem,seval,hpos']
   refine loopYH 2146959376 e.kids.length (fun i f hh x=>(f 19).v=vi i/\I (((e.kids.take i).flatMap Expr.lv).foldl step s) hh) rfl ⟨by simp -dsimp -implicitDefEqProofs only [go_sem,seval],by simpa using hI⟩ ?_
   rintro i f u hh x bs hi ⟨h19,hI'⟩
   have hwi:=wrapS i (by omega)
   simp -dsimp -implicitDefEqProofs only [go_sem,seval,h19]
   refine csplit (fun h => ?_) (fun h => ?_) <;> (try simp only [bools] at h) <;> (try simp -dsimp -implicitDefEqProofs only [go_sem,seval, *])
   ·obtain ⟨y,hy,hm⟩:=get_of ‹i<e.kids.length›
    simp -dsimp -implicitDefEqProofs only [go_sem,seval,h19,hy]
    refine rawK_of (ih y hm _ _ _ _ (Expr.allE_kid hall hm) hI' (fun _ _ _ => .inl rfl)) ?_
    intro r h' n' hI2
    simp -dsimp -implicitDefEqProofs only [go_sem,seval,h19]
    refine ⟨by omega,by simp -dsimp -implicitDefEqProofs only [go_sem,seval,hwi], ?_⟩
    rw [take_succ_of hy,List.flatMap_append,List.foldl_append]
    simpa using hI2
   ·rw [hend i (by omega)] at hI'
    exact hI'
  ·simp -dsimp -implicitDefEqProofs only [go_sem,seval,hpos',hkk]
   refine loopYH 2146959376 e.kids.length (fun i f hh x=>(f 19).v=vi i/\I (((e.kids.take i).flatMap Expr.lv).foldl step s) hh) rfl ⟨by simp -dsimp -implicitDefEqProofs only [go_sem,seval],by simpa using hI⟩ ?_
   rintro i f u hh x bs hi ⟨h19,hI'⟩
   have hwi:=wrapS i (by omega)
   have hkk2 : ∃ fz',hh k=some (.rows 4 [[.t (ti e.op), .t (ti e.w), .t (ti e.n), .t (.sl (e.kids.map Expr.enc))]] fz'):=by
    rcases hv _ _ hI' with h0 | ⟨k',fz',h0,hkk'⟩
    ·cases h0
    ·cases h0; exact ⟨fz',hkk'⟩
   obtain ⟨fz',hkk2⟩:=hkk2
   simp -dsimp -implicitDefEqProofs only [go_sem,seval,h19]
   refine csplit (fun h => ?_) (fun h => ?_) <;> (try simp only [bools] at h) <;> (try simp -dsimp -implicitDefEqProofs only [go_sem,seval, *])
   ·obtain ⟨y,hy,hm⟩:=get_of ‹i<e.kids.length›
    simp -dsimp -implicitDefEqProofs only [go_sem,seval,h19,hy,hkk2]
    refine rawK_of (ih y hm _ _ _ _ (Expr.allE_kid hall hm) hI' (fun _ _ _ => .inl rfl)) ?_
    intro r h' n' hI2
    simp -dsimp -implicitDefEqProofs only [go_sem,seval,h19]
    refine ⟨by omega,by simp -dsimp -implicitDefEqProofs only [go_sem,seval,hwi], ?_⟩
    rw [take_succ_of hy,List.flatMap_append,List.foldl_append]
    simpa using hI2
   ·rw [hend i (by omega)] at hI'
    exact hI'
end Rg
end
