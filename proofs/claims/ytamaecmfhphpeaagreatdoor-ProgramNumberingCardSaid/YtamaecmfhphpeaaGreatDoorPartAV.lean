/- Part of the proof of the laws of the package relyguardlaw07: an abstract machine for the program's functions, what they compute, and that the machine is the program's. No condition. (H06c H06d H06e H06x H06y H06z H06v H06w H07a H06u) -/
import Derived.Test.YtamaecmfhphpeaaGreatDoorPartAU
set_option linter.unusedSimpArgs false
set_option linter.unusedVariables false
section
namespace Rg
open Go
theorem deep_den (d:Nat) : ∀ (e:Expr) (l:Int),l.toNat=d->l<=100->Den Γ G 68 [(.agg [.t (ti (e).op), .t (ti (e).w), .t (ti (e).n), .t (.sl ((e).kids.map (Expr.enc)))]),vi l]=some (vb (e.deep d)):=by
 induction d with
 | zero =>
  intro e l hl hl'
  (refine den_ofY Γ68 rfl ?_; dsimp only [f68])
  have h1:l<1:=by omega
  simp -dsimp -implicitDefEqProofs only [go_sem,seval,h1]
  rfl
 | succ d ih =>
  intro e l hl hl'
  (refine den_ofY Γ68 rfl ?_; dsimp only [f68])
  have h1 : ¬ l<1:=by omega
  have hn:=node_den e
  simp -dsimp -implicitDefEqProofs only [go_sem,seval,h1,hn]
  refine csplit (fun h => ?_) (fun h => ?_) <;> (try simp only [bools] at h) <;> (try simp -dsimp -implicitDefEqProofs only [go_sem,seval, *])
  ·simp only [Expr.deep,h,Bool.false_and]
  ·have hlen:=nodeOk_len h
   refine loopY 536862768 e.kids.length (fun i f=>(f 5).v=vi i/\(e.kids.take i).all (Expr.deep d)=true) rfl rfl ⟨by simp -dsimp -implicitDefEqProofs only [go_sem,seval],by simp⟩ ?_
   rintro i f u kk bb hi ⟨h5,hall⟩
   have hw:=wrapS i (by omega)
   simp -dsimp -implicitDefEqProofs only [go_sem,seval,h5]
   refine csplit (fun h => ?_) (fun h => ?_) <;> (try simp only [bools] at h) <;> (try simp -dsimp -implicitDefEqProofs only [go_sem,seval, *])
   ·obtain ⟨x,hx,hm⟩:=get_of ‹i<e.kids.length›
    have hw1:IntKind.i64.wrap (l-1)=l-1:=wrap64 (by omega)
    have hd:=ih x (l-1) (by omega) (by omega)
    simp -dsimp -implicitDefEqProofs only [go_sem,seval,h5,hx,hw1,hd]
    refine csplit (fun h => ?_) (fun h => ?_) <;> (try simp only [bools] at h) <;> (try simp -dsimp -implicitDefEqProofs only [go_sem,seval, *])
    ·rw [Expr.deep,all_false_of hm h]; simp
    ·exact ⟨by omega,by simp -dsimp -implicitDefEqProofs only [go_sem,seval,hw],all_take_succ hx hall h⟩
   ·have:i=e.kids.length:=by omega
    subst this
    rw [List.take_length] at hall
    simp only [Expr.deep,hall,Bool.and_true]; simp_all
def Expr.formed (e:Expr):Bool:=decide (e.size<=600)&&e.deep 40
theorem formed_den (e:Expr):Den Γ G 48 [(.agg [.t (ti (e).op), .t (ti (e).w), .t (ti (e).n), .t (.sl ((e).kids.map (Expr.enc)))])]=some (vb e.formed):=by
 (refine den_ofY Γ48 rfl ?_; dsimp only [f48])
 have h1:=size_den e 601 (by omega)
 have h2:=deep_den 40 e 40 rfl (by omega)
 simp -dsimp -implicitDefEqProofs only [go_sem,seval,h1,h2]
 refine csplit (fun h => ?_) (fun h => ?_) <;> (try simp only [bools] at h) <;> (try simp -dsimp -implicitDefEqProofs only [go_sem,seval, *])
 ·have:e.size<=600:=by omega
  simp [Expr.formed,this]
 ·have : ¬ e.size<=600:=by omega
  simp [Expr.formed,this]
theorem small_den (e:Expr) (l:Int) (hl:0<=l/\l<10000):Den Γ G 23 [(.agg [.t (ti (e).op), .t (ti (e).w), .t (ti (e).n), .t (.sl ((e).kids.map (Expr.enc)))]),vi l]=some (vb (decide ((e.size:Int)<=l))):=by
 (refine den_ofY Γ23 rfl ?_; dsimp only [f23])
 have hw:IntKind.i64.wrap (l+1)=l+1:=wrap64 (by omega)
 have h1:=size_den e (l+1) (by omega)
 simp -dsimp -implicitDefEqProofs only [go_sem,seval,h1,hw]
 rw [if_neg (by omega)]
 simp; omega
def leafOk (cells:List Cell) (pair:Bool) (e:Expr):Bool :=
 if e.op=3/\pair=false then false
 else if (e.op=3\/e.op=2) then (match cells[e.n.toNat]? with | some c=>decide (c.w=e.w) | none=>false)
 else true
def Expr.nneg (e:Expr):Bool:=e.allE fun x=>decide (0<=x.n/\x.kids.length<=3)
theorem over_den (cells:List Cell) (pair:Bool) (e:Expr):e.nneg=true->Den Γ G 49 [(.agg [.t (ti (e).op), .t (ti (e).w), .t (ti (e).n), .t (.sl ((e).kids.map (Expr.enc)))]), .t (.sl (cells.map Cell.enc)),vb pair]=some (vb (e.allE (leafOk cells pair))):=by
 induction e using Expr.ind with
 | _ e ih =>
 intro hn
 have hn0:0<=e.n/\e.kids.length<=3:=by have:=Expr.allE_self hn; simpa using this
 (refine den_ofY Γ49 rfl ?_; dsimp only [f49])
 rcases hc:cells[e.n.toNat]? with _ | c
 ·have hge:e.n>=(cells.length:Int):=by rw [List.getElem?_eq_none_iff] at hc; omega
  simp -dsimp -implicitDefEqProofs only [go_sem,seval]
  repeat' (refine csplit (fun h => ?_) (fun h => ?_) <;> (try simp only [bools] at h) <;> (try simp -dsimp -implicitDefEqProofs only [go_sem,seval, *]))
  all_goals (try (rw [Expr.allE_eq]; simp [leafOk, *]; done))
  all_goals (
   refine loopY 144112989052600512 e.kids.length (fun i f=>(f 7).v=vi i/\(e.kids.take i).all (Expr.allE (leafOk cells pair))=true) rfl rfl ⟨by simp -dsimp -implicitDefEqProofs only [go_sem,seval],by simp⟩ ?_
   rintro i f u kk bb hi ⟨h5,hall⟩
   have hw:=wrapS i (by omega)
   simp -dsimp -implicitDefEqProofs only [go_sem,seval,h5]
   refine csplit (fun h => ?_) (fun h => ?_) <;> (try simp only [bools] at h) <;> (try simp -dsimp -implicitDefEqProofs only [go_sem,seval, *])
   ·obtain ⟨x,hx,hm⟩:=get_of ‹i<e.kids.length›
    have hd:=ih x hm (Expr.allE_kid hn hm)
    simp -dsimp -implicitDefEqProofs only [go_sem,seval,h5,hx,hd]
    refine csplit (fun h => ?_) (fun h => ?_) <;> (try simp only [bools] at h) <;> (try simp -dsimp -implicitDefEqProofs only [go_sem,seval, *])
    ·subst_vars; rw [Expr.allE_eq,all_false_of hm h]; simp
    ·exact ⟨by omega,by simp -dsimp -implicitDefEqProofs only [go_sem,seval,hw],all_take_succ hx hall h⟩
   ·have:i=e.kids.length:=by omega
    subst this
    rw [List.take_length] at hall
    subst_vars; rw [Expr.allE_eq,hall]; simp [leafOk, *])
 ·have hge : ¬ e.n>=(cells.length:Int):=by
   have:=(List.getElem?_eq_some_iff.1 hc).1; omega
  simp -dsimp -implicitDefEqProofs only [go_sem,seval]
  repeat' (refine csplit (fun h => ?_) (fun h => ?_) <;> (try simp only [bools] at h) <;> (try simp -dsimp -implicitDefEqProofs only [go_sem,seval, *]))
  all_goals (try (rw [Expr.allE_eq]; simp [leafOk, *]; done))
  all_goals (
   refine loopY 144112989052600512 e.kids.length (fun i f=>(f 7).v=vi i/\(e.kids.take i).all (Expr.allE (leafOk cells pair))=true) rfl rfl ⟨by simp -dsimp -implicitDefEqProofs only [go_sem,seval],by simp⟩ ?_
   rintro i f u kk bb hi ⟨h5,hall⟩
   have hw:=wrapS i (by omega)
   simp -dsimp -implicitDefEqProofs only [go_sem,seval,h5]
   refine csplit (fun h => ?_) (fun h => ?_) <;> (try simp only [bools] at h) <;> (try simp -dsimp -implicitDefEqProofs only [go_sem,seval, *])
   ·obtain ⟨x,hx,hm⟩:=get_of ‹i<e.kids.length›
    have hd:=ih x hm (Expr.allE_kid hn hm)
    simp -dsimp -implicitDefEqProofs only [go_sem,seval,h5,hx,hd]
    refine csplit (fun h => ?_) (fun h => ?_) <;> (try simp only [bools] at h) <;> (try simp -dsimp -implicitDefEqProofs only [go_sem,seval, *])
    ·subst_vars; rw [Expr.allE_eq,all_false_of hm h]; simp
    ·exact ⟨by omega,by simp -dsimp -implicitDefEqProofs only [go_sem,seval,hw],all_take_succ hx hall h⟩
   ·have:i=e.kids.length:=by omega
    subst this
    rw [List.take_length] at hall
    subst_vars; rw [Expr.allE_eq,hall]; simp [leafOk, *])
theorem nodeOk_n {e:Expr} (h:nodeOk e=true):0<=e.n:=by
 unfold nodeOk at h
 split at h
 ·simp at h
 ·grind
theorem deep_nneg (d:Nat) : ∀ e:Expr,e.deep d=true->e.nneg=true:=by
 induction d with
 | zero=>intro e h; simp [Expr.deep] at h
 | succ d ih =>
  intro e h
  simp only [Expr.deep,Bool.and_eq_true,List.all_eq_true] at h
  unfold Expr.nneg
  rw [Expr.allE_eq]
  simp only [Bool.and_eq_true,List.all_eq_true,decide_eq_true_eq]
  exact ⟨⟨nodeOk_n h.1,nodeOk_len h.1⟩,fun k hk=>ih k (h.2 k hk)⟩
theorem formed_nneg {e:Expr} (h:e.formed=true):e.nneg=true:=by
 simp only [Expr.formed,Bool.and_eq_true] at h
 exact deep_nneg 40 e h.2
def Expr.valid (e:Expr) (cells:List Cell) (pair:Bool):Bool:=e.formed&&e.allE (leafOk cells pair)
theorem validE_den (e:Expr) (cells:List Cell) (pair:Bool):Den Γ G 24 [(.agg [.t (ti (e).op), .t (ti (e).w), .t (ti (e).n), .t (.sl ((e).kids.map (Expr.enc)))]), .t (.sl (cells.map Cell.enc)),vb pair]=some (vb (e.valid cells pair)):=by
 (refine den_ofY Γ24 rfl ?_; dsimp only [f24])
 have h1:=formed_den e
 by_cases hf:e.formed=true
 ·have h2:=over_den cells pair e (formed_nneg hf)
  simp -dsimp -implicitDefEqProofs only [go_sem,seval,h1,h2,hf]
  simp [Expr.valid,hf]
 ·have hf:e.formed=false:=by simpa using hf
  simp -dsimp -implicitDefEqProofs only [go_sem,seval,h1,hf]
  simp [Expr.valid,hf]
def atI (l:List Int) (n:Int):Int:=l.getD n.toNat 0
end Rg
end
section
namespace Rg
open Go
def opv (op w a b c:Int):Int :=
 if op=4 then 2^w.toNat-1-a
 else if op=5 then ((a.toNat &&& b.toNat:Nat):Int)
 else if op=6 then ((a.toNat ||| b.toNat:Nat):Int)
 else if op=7 then ((a.toNat ^^^ b.toNat:Nat):Int)
 else if op=8 then (a+b) % 2^w.toNat
 else if op=9 then (a-b) % 2^w.toNat
 else if op=10 then a*b % 2^w.toNat
 else if op=11 then (if a=b then 1 else 0)
 else if op=12 then (if a<b then 1 else 0)
 else if op=13 then (if a<=b then 1 else 0)
 else (if a=1 then b else c)
end Rg
end
section
-- FULL
-- APPS
namespace Rg
open Go
namespace Expr
mutual
def ev (old now:List Int):Expr->Int
 | .mk op w n ks=>if op=1 then n else if op=2 then atI now n % 2^w.toNat else if op=3 then atI old n % 2^w.toNat
  else opv op w ((evs old now ks).getD 0 0) ((evs old now ks).getD 1 0) ((evs old now ks).getD 2 0)
def evs (old now:List Int):List Expr->List Int
 | []=>[]
 | e::r=>ev old now e::evs old now r
end
end Expr
theorem deep_node {d:Nat} {e:Expr} (h:e.deep d=true):nodeOk e=true:=by
 cases d with
 | zero=>simp [Expr.deep] at h
 | succ d=>simp only [Expr.deep,Bool.and_eq_true] at h; exact h.1
theorem deep_kid {d:Nat} {e k:Expr} (h:e.deep (d+1)=true) (hk:k∈e.kids):k.deep d=true:=by
 simp only [Expr.deep,Bool.and_eq_true,List.all_eq_true] at h; exact h.2 k hk
theorem node_w {e:Expr} (h:nodeOk e=true):1<=e.w/\e.w<=8:=by
 unfold nodeOk at h; grind
theorem node_arity {e:Expr} (h:nodeOk e=true):arity e.op=(e.kids.length:Int):=by
 unfold nodeOk at h; grind
def Expr.eval (e:Expr) (old now:List Int):Int:=if e.formed then e.ev old now else 0
theorem formed_deep {e:Expr} (h:e.formed=true):e.deep 40=true:=by
 simp only [Expr.formed,Bool.and_eq_true] at h; exact h.2
theorem const_den (n w:Int):Den Γ G 61 [vi n,vi w]=some (.agg [.t (ti (Expr.mk 1 w n []).op), .t (ti (Expr.mk 1 w n []).w), .t (ti (Expr.mk 1 w n []).n), .t (.sl ((Expr.mk 1 w n []).kids.map (Expr.enc)))]):=by
 (refine den_ofY Γ61 rfl ?_; dsimp only [f61])
 simp -dsimp -implicitDefEqProofs [go_sem,appS,List.map_nil,and_self]
theorem cell_den (n w:Int):Den Γ G 62 [vi n,vi w]=some (.agg [.t (ti (Expr.mk 2 w n []).op), .t (ti (Expr.mk 2 w n []).w), .t (ti (Expr.mk 2 w n []).n), .t (.sl ((Expr.mk 2 w n []).kids.map (Expr.enc)))]):=by
 (refine den_ofY Γ62 rfl ?_; dsimp only [f62])
 simp -dsimp -implicitDefEqProofs [go_sem,appS,List.map_nil,and_self]
theorem two_den (op w:Int) (a b:Expr):Den Γ G 63 [vi op,vi w,(.agg [.t (ti (a).op), .t (ti (a).w), .t (ti (a).n), .t (.sl ((a).kids.map (Expr.enc)))]),(.agg [.t (ti (b).op), .t (ti (b).w), .t (ti (b).n), .t (.sl ((b).kids.map (Expr.enc)))])]=some (.agg [.t (ti (Expr.mk op w 0 [a,b]).op), .t (ti (Expr.mk op w 0 [a,b]).w), .t (ti (Expr.mk op w 0 [a,b]).n), .t (.sl ((Expr.mk op w 0 [a,b]).kids.map (Expr.enc)))]):=by
 (refine den_ofY Γ63 rfl ?_; dsimp only [f63])
 simp -dsimp -implicitDefEqProofs [go_sem,appS,List.map_nil,and_self]
theorem wide_den (ks:List Expr) (ws:List Int) (hl:ws.length<=3):Den Γ G 91 [.t (.sl (ks.map Expr.enc)), .t (ints ws)]=some (vb (decide (ks.map Expr.w=ws))):=by
 (refine den_ofY Γ91 rfl ?_; dsimp only [f91])
 simp -dsimp -implicitDefEqProofs only [go_sem,seval]
 refine csplit (fun h => ?_) (fun h => ?_) <;> (try simp only [bools] at h) <;> (try simp -dsimp -implicitDefEqProofs only [go_sem,seval, *])
 ·have : ¬ ks.map Expr.w=ws:=fun he=>by have:=congrArg List.length he; simp at this; omega
  simp [this]
 ·have hlen:ks.length=ws.length:=by omega
  refine loopY 134201456 ws.length (fun i f=>(f 14).v=vi i/\(ks.take i).map Expr.w=ws.take i) rfl rfl ⟨by simp -dsimp -implicitDefEqProofs only [go_sem,seval],by simp⟩ ?_
  rintro i f u kk bb hi ⟨h14,ht⟩
  have hw:=wrapS i (by omega)
  simp -dsimp -implicitDefEqProofs only [go_sem,seval,h14]
  refine csplit (fun h => ?_) (fun h => ?_) <;> (try simp only [bools] at h) <;> (try simp -dsimp -implicitDefEqProofs only [go_sem,seval, *])
  ·have hx:ws[i]? = some ws[i]:=List.getElem?_eq_getElem (by omega)
   have hy:ks[i]? = some ks[i]:=List.getElem?_eq_getElem (by omega)
   simp -dsimp -implicitDefEqProofs only [go_sem,seval,h14,hx,hy]
   refine csplit (fun h => ?_) (fun h => ?_) <;> (try simp only [bools] at h) <;> (try simp -dsimp -implicitDefEqProofs only [go_sem,seval, *])
   ·have : ¬ ks.map Expr.w=ws:=fun he=>by
     have:=congrArg (fun l=>l[i]?) he
     simp only [List.getElem?_map,hx,hy,Option.map_some,Option.some.injEq] at this
     contradiction
    simp [this]
   ·refine ⟨by omega,by simp -dsimp -implicitDefEqProofs only [go_sem,seval,hw], ?_⟩
    rw [take_succ_of hx,take_succ_of hy,List.map_append,ht]
    simp [h]
  ·have:i=ws.length:=by omega
   subst this
   rw [List.take_length, <- hlen,List.take_length] at ht
   simp [ht]
@[go_sem] theorem G_0:G 0=[ti 0,ti 1,ti 3,ti 7,ti 15,ti 31,ti 63,ti 127,ti 255]:=rfl
theorem mask_cases {w:Int} (h:1<=w/\w<=8):w=1\/w=2\/w=3\/w=4\/w=5\/w=6\/w=7\/w=8:=by omega
theorem arity_two {op:Int} (h:5<=op/\op<=13):arity op=2:=by unfold arity; grind
theorem nodeOk_mk (op w n:Int) (ks:List Expr):nodeOk (.mk op w n ks) =
 if arity op≠ks.length\/w<1\/w>8 then false
 else if op=1 then decide (0<=n/\n<2^w.toNat)
 else if op=2\/op=3 then decide (0<=n/\n<32)
 else if op=4 then decide (n=0/\(Expr.mk op w n ks).kw 0=w)
 else if op=11\/op=12\/op=13 then decide (n=0/\w=1/\(Expr.mk op w n ks).kw 0=(Expr.mk op w n ks).kw 1)
 else if op=14 then decide (n=0/\(Expr.mk op w n ks).kw 0=1/\(Expr.mk op w n ks).kw 1=w/\(Expr.mk op w n ks).kw 2=w)
 else decide (n=0/\(Expr.mk op w n ks).kw 0=w/\(Expr.mk op w n ks).kw 1=w):=rfl
theorem kw_0 (op w n:Int) (a:Expr) (r:List Expr):(Expr.mk op w n (a::r)).kw 0=a.w:=rfl
theorem kw_1 (op w n:Int) (a b:Expr) (r:List Expr):(Expr.mk op w n (a::b::r)).kw 1=b.w:=rfl
theorem kw_2 (op w n:Int) (a b c:Expr) (r:List Expr):(Expr.mk op w n (a::b::c::r)).kw 2=c.w:=rfl
theorem nodeOk_bin {op w n:Int} {ks:List Expr} (h:5<=op/\op<=10) (hw:1<=w/\w<=8):nodeOk (.mk op w n ks)=decide (n=0/\ks.map Expr.w=[w,w]):=by
 rw [nodeOk_mk,arity_two (show 5<=op/\op<=13 by omega),if_neg (show ¬ op=1 by omega),if_neg (show ¬ (op=2\/op=3) by omega),if_neg (show ¬ op=4 by omega),if_neg (show ¬ (op=11\/op=12\/op=13) by omega),if_neg (show ¬ op=14 by omega)]
 rcases ks with _ | ⟨a,_ | ⟨b,_ | ⟨c,r⟩⟩⟩
 ·rw [if_pos (by simp)]; simp
 ·rw [if_pos (by simp)]; simp
 ·rw [if_neg (by simp; omega),kw_0,kw_1]; simp
 ·rw [if_pos (by simp; omega)]; simp
theorem nodeOk_cmp {op w n:Int} {ks:List Expr} (h:11<=op/\op<=13) (hw:1<=w/\w<=8):nodeOk (.mk op w n ks)=decide (n=0/\w=1/\ks.length=2/\(Expr.mk op w n ks).kw 0=(Expr.mk op w n ks).kw 1):=by
 rw [nodeOk_mk,arity_two (show 5<=op/\op<=13 by omega),if_neg (show ¬ op=1 by omega),if_neg (show ¬ (op=2\/op=3) by omega),if_neg (show ¬ op=4 by omega),if_pos (show (op=11\/op=12\/op=13) by omega)]
 by_cases hl:ks.length=2
 ·rw [if_neg (by omega)]; simp [hl]
 ·rw [if_pos (by omega)]; simp [hl]
theorem nodeOk_not {w n:Int} {ks:List Expr} (hw:1<=w/\w<=8):nodeOk (.mk 4 w n ks)=decide (n=0/\ks.map Expr.w=[w]):=by
 rw [nodeOk_mk,show arity 4=1 from rfl,if_neg (show ¬ (4:Int)=1 by omega),if_neg (show ¬ ((4:Int)=2\/(4:Int)=3) by omega),if_pos rfl]
 rcases ks with _ | ⟨a,_ | ⟨b,r⟩⟩
 ·rw [if_pos (by simp)]; simp
 ·rw [if_neg (by simp; omega),kw_0]; simp
 ·rw [if_pos (by simp; omega)]; simp
theorem nodeOk_ite {w n:Int} {ks:List Expr} (hw:1<=w/\w<=8):nodeOk (.mk 14 w n ks)=decide (n=0/\ks.map Expr.w=[1,w,w]):=by
 rw [nodeOk_mk,show arity 14=3 from rfl,if_neg (show ¬ (14:Int)=1 by omega),if_neg (show ¬ ((14:Int)=2\/(14:Int)=3) by omega),if_neg (show ¬ (14:Int)=4 by omega),if_neg (show ¬ ((14:Int)=11\/(14:Int)=12\/(14:Int)=13) by omega),if_pos rfl]
 rcases ks with _ | ⟨a,_ | ⟨b,_ | ⟨c,_ | ⟨d,r⟩⟩⟩⟩
 ·rw [if_pos (by simp)]; simp
 ·rw [if_pos (by simp)]; simp
 ·rw [if_pos (by simp)]; simp
 ·rw [if_neg (by simp; omega),kw_0,kw_1,kw_2]; simp
 ·rw [if_pos (by simp; omega)]; simp
theorem nodeOk_leaf {op w n:Int} {ks:List Expr} (h:1<=op/\op<=3) (hw:1<=w/\w<=8):nodeOk (.mk op w n ks)=decide (ks.length=0/\0<=n/\(if op=1 then n<2^w.toNat else n<32)):=by
 have ha:arity op=0:=by unfold arity; rw [if_pos h]
 rw [nodeOk_mk,ha]
 by_cases hl:ks.length=0
 ·rw [if_neg (by omega)]
  by_cases h1:op=1
  ·simp [h1,hl]
  ·rw [if_neg h1,if_pos (by omega)]; simp [h1,hl]
 ·rw [if_pos (by omega)]; simp [hl]
theorem nodeOk_bad {op w n:Int} {ks:List Expr} (h:op<1\/14<op):nodeOk (.mk op w n ks)=false:=by
 rw [nodeOk_mk,arity_bad h,if_pos (by omega)]
theorem nodeOk_n0 {op w n:Int} {ks:List Expr} (h : ¬ (1<=op/\op<=3)) (hw:1<=w/\w<=8) (hn : ¬ n=0):nodeOk (.mk op w n ks)=false:=by
 rcases op_cases op with rfl | rfl | rfl | rfl | rfl | rfl | rfl | rfl | rfl | rfl | rfl | rfl | rfl | rfl | hop
 ·omega
 ·omega
 ·omega
 ·rw [nodeOk_not hw]; simp [hn]
 ·rw [nodeOk_bin (by omega) hw]; simp [hn]
 ·rw [nodeOk_bin (by omega) hw]; simp [hn]
 ·rw [nodeOk_bin (by omega) hw]; simp [hn]
 ·rw [nodeOk_bin (by omega) hw]; simp [hn]
 ·rw [nodeOk_bin (by omega) hw]; simp [hn]
 ·rw [nodeOk_bin (by omega) hw]; simp [hn]
 ·rw [nodeOk_cmp (by omega) hw]; simp [hn]
 ·rw [nodeOk_cmp (by omega) hw]; simp [hn]
 ·rw [nodeOk_cmp (by omega) hw]; simp [hn]
 ·rw [nodeOk_ite hw]; simp [hn]
 ·exact nodeOk_bad hop
set_option maxHeartbeats 4000000 in
theorem shaped_den (e:Expr):Den Γ G 71 [.t (.ip [ti e.op,ti e.w,ti e.n, .sl (e.kids.map Expr.enc)])]=some (vb (nodeOk e)):=by
 obtain ⟨op,w,n,ks⟩:=e
 simp only [Expr.op_mk,Expr.w_mk,Expr.n_mk,Expr.kids_mk]
 (refine den_ofY Γ71 rfl ?_; dsimp only [f71])
 by_cases hw:1<=w/\w<=8
 ·have h1 : ¬ w<1:=by omega
  have h2 : ¬ w>8:=by omega
  have hd1:=wide_den ks [w] (by simp)
  have hd2:=wide_den ks [w,w] (by simp)
  have hd3:=wide_den ks [1,w,w] (by simp)
  simp only [ints,List.map_cons,List.map_nil] at hd1 hd2 hd3
  by_cases hleaf:op=1
  ·subst hleaf
   rw [nodeOk_leaf (by omega) hw]
   clear hd1 hd2 hd3
   rcases mask_cases hw with rfl | rfl | rfl | rfl | rfl | rfl | rfl | rfl
   all_goals (
    simp -dsimp -implicitDefEqProofs only [go_sem,seval]
    repeat' (refine csplit (fun h => ?_) (fun h => ?_) <;> (try simp only [bools] at h) <;> (try simp -dsimp -implicitDefEqProofs only [go_sem,seval, *]))
    all_goals ((try simp only [Int.reduceToNat,Int.reducePow,Int.reduceEq,reduceIte]); first | exact (decide_eq_false (by omega)).symm | (simp; done) | (apply decide_eq_decide.2; omega)))
  ·by_cases hleaf2:op=2\/op=3
   ·rw [nodeOk_leaf (by omega) hw]
    clear hd1 hd2 hd3
    rcases hleaf2 with rfl | rfl
    all_goals (
     simp -dsimp -implicitDefEqProofs only [go_sem,seval,h1,h2]
     repeat' (refine csplit (fun h => ?_) (fun h => ?_) <;> (try simp only [bools] at h) <;> (try simp -dsimp -implicitDefEqProofs only [go_sem,seval, *]))
     all_goals ((try simp only [Int.reduceEq,reduceIte]); first | exact (decide_eq_false (by omega)).symm | (simp; done) | (apply decide_eq_decide.2; omega)))
   ·have e1 : ¬ op=2:=by omega
    have e2 : ¬ op=3:=by omega
    by_cases hn:n=0
    ·rcases op_cases op with rfl | rfl | rfl | rfl | rfl | rfl | rfl | rfl | rfl | rfl | rfl | rfl | rfl | rfl | hop
     ·omega
     ·omega
     ·omega
     ·rw [nodeOk_not hw]; simp -dsimp -implicitDefEqProofs only [go_sem,seval,h1,h2,hn,hd1]
     ·rw [nodeOk_bin (by omega) hw]; simp -dsimp -implicitDefEqProofs only [go_sem,seval,h1,h2,hn,hd2]
     ·rw [nodeOk_bin (by omega) hw]; simp -dsimp -implicitDefEqProofs only [go_sem,seval,h1,h2,hn,hd2]
     ·rw [nodeOk_bin (by omega) hw]; simp -dsimp -implicitDefEqProofs only [go_sem,seval,h1,h2,hn,hd2]
     ·rw [nodeOk_bin (by omega) hw]; simp -dsimp -implicitDefEqProofs only [go_sem,seval,h1,h2,hn,hd2]
     ·rw [nodeOk_bin (by omega) hw]; simp -dsimp -implicitDefEqProofs only [go_sem,seval,h1,h2,hn,hd2]
     ·rw [nodeOk_bin (by omega) hw]; simp -dsimp -implicitDefEqProofs only [go_sem,seval,h1,h2,hn,hd2]
     ·rw [nodeOk_cmp (by omega) hw]
      rcases ks with _ | ⟨a,_ | ⟨b,_ | ⟨c,r⟩⟩⟩
      all_goals (
       simp -dsimp -implicitDefEqProofs only [go_sem,seval,h1,h2,hn]
       repeat' (refine csplit (fun h => ?_) (fun h => ?_) <;> (try simp only [bools] at h) <;> (try simp -dsimp -implicitDefEqProofs only [go_sem,seval, *]))
       all_goals (simp [kw_0,kw_1, *])
       all_goals (first | rfl | omega))
     ·rw [nodeOk_cmp (by omega) hw]
      rcases ks with _ | ⟨a,_ | ⟨b,_ | ⟨c,r⟩⟩⟩
      all_goals (
       simp -dsimp -implicitDefEqProofs only [go_sem,seval,h1,h2,hn]
       repeat' (refine csplit (fun h => ?_) (fun h => ?_) <;> (try simp only [bools] at h) <;> (try simp -dsimp -implicitDefEqProofs only [go_sem,seval, *]))
       all_goals (simp [kw_0,kw_1, *])
       all_goals (first | rfl | omega))
     ·rw [nodeOk_cmp (by omega) hw]
      rcases ks with _ | ⟨a,_ | ⟨b,_ | ⟨c,r⟩⟩⟩
      all_goals (
       simp -dsimp -implicitDefEqProofs only [go_sem,seval,h1,h2,hn]
       repeat' (refine csplit (fun h => ?_) (fun h => ?_) <;> (try simp only [bools] at h) <;> (try simp -dsimp -implicitDefEqProofs only [go_sem,seval, *]))
       all_goals (simp [kw_0,kw_1, *])
       all_goals (first | rfl | omega))
     ·rw [nodeOk_ite hw]; simp -dsimp -implicitDefEqProofs only [go_sem,seval,h1,h2,hn,hd3]
     ·rw [nodeOk_bad hop]
      have n1 : ¬ op=4:=by omega
      have n2 : ¬ op=5:=by omega
      have n3 : ¬ op=6:=by omega
      have n4 : ¬ op=7:=by omega
      have n5 : ¬ op=8:=by omega
      have n6 : ¬ op=9:=by omega
      have n7 : ¬ op=10:=by omega
      have n8 : ¬ op=11:=by omega
      have n9 : ¬ op=12:=by omega
      have n10 : ¬ op=13:=by omega
      have n11 : ¬ op=14:=by omega
      simp -dsimp -implicitDefEqProofs only [go_sem,seval,h1,h2,hn,hleaf,e1,e2,n1,n2,n3,n4,n5,n6,n7,n8,n9,n10,n11]
    ·rw [nodeOk_n0 (by omega) hw hn]
     simp -dsimp -implicitDefEqProofs only [go_sem,seval,h1,h2,hleaf,e1,e2,hn]
 ·by_cases h1:w<1
  ·simp -dsimp -implicitDefEqProofs only [go_sem,seval,h1]
   simp only [nodeOk,go_sem]; grind
  ·have h2:w>8:=by omega
   simp -dsimp -implicitDefEqProofs only [go_sem,seval,h1,h2]
   simp only [nodeOk,go_sem]; grind
end Rg
end
section
namespace Rg
open Go
theorem updC_same {α:Type} (f:Nat->α) (i:Nat) (v w:α):updC (updC f i v) i w=updC f i w:=by
 rw [updC_eq]; funext j; unfold upd; split <;> rfl
def Shows (h:Nat->Option O) (kc:Nat) (v:V) (e:Expr):Prop :=
 v = .t (.ip [ti e.op,ti e.w,ti e.n, .sl (e.kids.map Expr.enc)]) \/
 ∃ k fz,v = .mp k 0 0/\k≠kc/\h k=some (.rows 4 [[.t (ti e.op), .t (ti e.w), .t (ti e.n), .t (.sl (e.kids.map Expr.enc))]] fz)
theorem visit_den (d:Nat) : ∀ (e:Expr) (v:V) (c:Int) (H:Nat->Option O) (n kc kv:Nat) (fz:Bool),
 d<=40->Shows H kc v e->0<=c->c<=600->kv≠kc->H kc=some (.rows 1 [[vi c]] false)->H kv=some (.rows 1 [[.fn 70 [] [.mp kc 0 0, .mp kv 0 0]]] fz) ->
 ∃ r h' n',DenR Γ G 70 [v,vi (41-d), .mp kc 0 0, .mp kv 0 0] H n=some (r,h',n') /\
  r=vb (e.deep d&&decide (c+e.size<=600)) /\ ∃ c' : Int,h' = updC H kc (some (.rows 1 [[vi c']] false))/\(e.deep d=true->c+e.size<=600->c' = c+e.size):=by
 induction d with
 | zero =>
  intro e v c H n kc kv fz hd hv hc0 hc hne hkc hkv
  (refine denR_ofY Γ70 rfl ?_; dsimp only [f70])
  have hw:IntKind.i64.wrap (c+1)=c+1:=wrap64 (by omega)
  have hdep:(41-((0:Nat):Int))>40:=by omega
  rcases hv with rfl | ⟨k,fk,rfl,hk,hkk⟩
  all_goals (
   simp -dsimp -implicitDefEqProofs only [go_sem,seval,hkc,hw,hdep]
   repeat' (refine csplit (fun h => ?_) (fun h => ?_) <;> (try simp only [bools] at h) <;> (try simp -dsimp -implicitDefEqProofs only [go_sem,seval, *]))
   all_goals (exact ⟨by simp -dsimp -implicitDefEqProofs only [go_sem,seval,Expr.deep,Bool.false_and],c+1,by simp -dsimp -implicitDefEqProofs only [go_sem,seval],by simp [Expr.deep]⟩))
 | succ d ih =>
  intro e v c H n kc kv fz hd hv hc0 hc hne hkc hkv
  (refine denR_ofY Γ70 rfl ?_; dsimp only [f70])
  have hw:IntKind.i64.wrap (c+1)=c+1:=wrap64 (by omega)
  have hdep : ¬ (41-((d+1:Nat):Int))>40:=by omega
  have hw2:IntKind.i64.wrap (41-((d+1:Nat):Int)+1)=41-(d:Int):=by rw [wrap64 (by omega)]; omega
  have hsh:=shaped_den e
  have hsz:=Expr.size_eq e
  have hpos:=Expr.size_pos e
  rcases hv with rfl | ⟨k,fk,rfl,hk,hkk⟩
  all_goals (
   have hk0:=hw
   (try have hk0:=hk)
   simp -dsimp -implicitDefEqProofs only [go_sem,seval,hkc,hw,hdep]
   refine csplit (fun h => ?_) (fun h => ?_) <;> (try simp only [bools] at h) <;> (try simp -dsimp -implicitDefEqProofs only [go_sem,seval, *])
   ·refine ⟨?_,c+1,by simp -dsimp -implicitDefEqProofs only [go_sem,seval],fun _ hle=>by omega⟩
    simp -dsimp -implicitDefEqProofs only [go_sem,seval]
    have : ¬ (c+(e.size:Int)<=600):=by omega
    simp [this]
   ·refine csplit (fun h => ?_) (fun h => ?_) <;> (try simp only [bools] at h) <;> (try simp -dsimp -implicitDefEqProofs only [go_sem,seval, *])
    ·refine ⟨?_,c+1,by simp -dsimp -implicitDefEqProofs only [go_sem,seval],fun hdp=>by rw [deep_node hdp] at h; simp at h⟩
     simp -dsimp -implicitDefEqProofs only [go_sem,seval]
     simp [Expr.deep,h]
    ·have hlen:=nodeOk_len h
     refine loopYH 2198956146880 e.kids.length (fun i f hh x=>(f 26).v=vi i /\ ∃ c' : Int,hh=updC H kc (some (.rows 1 [[vi c']] false))/\c' = c+1+((e.kids.take i).map Expr.size).sum/\c' <= 600/\(e.kids.take i).all (Expr.deep d)=true) rfl
      ⟨by simp -dsimp -implicitDefEqProofs only [go_sem,seval],c+1,by simp -dsimp -implicitDefEqProofs only [go_sem,seval],by simp,by omega,by simp⟩ ?_
     rintro i f u hh x bs hi ⟨h26,c',rfl,hc',hle,hall⟩
     have hwi:=wrapS i (by omega)
     simp -dsimp -implicitDefEqProofs only [go_sem,seval,h26]
     refine csplit (fun h => ?_) (fun h => ?_) <;> (try simp only [bools] at h) <;> (try simp -dsimp -implicitDefEqProofs only [go_sem,seval, *])
     ·obtain ⟨y,hy,hm⟩:=get_of ‹i<e.kids.length›
      simp -dsimp -implicitDefEqProofs only [go_sem,seval,h26,hy,hne,hkv,hw2,hk0]
      refine rawK_of (ih y _ c' _ _ kc kv fz (by omega) (.inl rfl) (by omega) hle hne (by rw [updC_at]; simp) (by rw [updC_at]; simp [hne,hkv])) ?_
      rintro r h' n' ⟨rfl,c2,rfl,hc2⟩
      simp -dsimp -implicitDefEqProofs only [go_sem,seval]
      have hts:=Expr.take_le_size e.kids (i+1)
      have ht1:((e.kids.take (i+1)).map Expr.size).sum=((e.kids.take i).map Expr.size).sum+y.size:=by
       rw [take_succ_of hy]; simp
      refine csplit (fun h => ?_) (fun h => ?_) <;> (try simp only [bools] at h) <;> (try simp -dsimp -implicitDefEqProofs only [go_sem,seval, *])
      ·refine ⟨?_,c2,by simp -dsimp -implicitDefEqProofs only [go_sem,seval,updC_same],fun hdp hle2 => ?_⟩
       ·simp -dsimp -implicitDefEqProofs only [go_sem,seval]
        simp only [Bool.and_eq_false_iff,decide_eq_false_iff_not] at h
        rcases h with h | h
        ·rw [Expr.deep,all_false_of hm h]; simp
        ·have : ¬ c+(e.size:Int)<=600:=by omega
         simp [this]
       ·have hy1:=deep_kid hdp hm
        have:c' + (y.size:Int)<=600:=by omega
        simp [hy1,this] at h
      ·simp only [Bool.and_eq_true,decide_eq_true_eq] at h
       have h2:=hc2 h.1 h.2
       exact ⟨by omega,by simp -dsimp -implicitDefEqProofs only [go_sem,seval,hwi],c2,by simp -dsimp -implicitDefEqProofs only [go_sem,seval,updC_same],by omega,by omega,all_take_succ hy hall h.1⟩
     ·have:i=e.kids.length:=by omega
      subst this
      rw [List.take_length] at hall hc'
      refine ⟨?_,c',by simp -dsimp -implicitDefEqProofs only [go_sem,seval],fun hdp hle2=>by omega⟩
      simp -dsimp -implicitDefEqProofs only [go_sem,seval]
      have:c+(e.size:Int)<=600:=by omega
      simp [Expr.deep,hall,this, ‹nodeOk e=true›])
theorem wellFormed_den (e:Expr):Den Γ G 51 [(.agg [.t (ti (e).op), .t (ti (e).w), .t (ti (e).n), .t (.sl ((e).kids.map (Expr.enc)))])]=some (vb e.formed):=by
 (refine den_ofY Γ51 rfl ?_; dsimp only [f51])
 simp -dsimp -implicitDefEqProofs only [go_sem,seval]
 refine rawK_of (visit_den 40 e _ 0 _ _ _ _ false (by omega) (.inr ⟨_,false,rfl, ?_, ?_⟩) (by omega) (by omega) ?_ ?_ ?_) ?_
 ·decide
 ·simp -dsimp -implicitDefEqProofs only [go_sem,seval]
 ·decide
 ·simp -dsimp -implicitDefEqProofs only [go_sem,seval]
 ·simp -dsimp -implicitDefEqProofs only [go_sem,seval]
 ·rintro r h' n' ⟨rfl,c',rfl,_⟩
  simp -dsimp -implicitDefEqProofs only [go_sem,seval]
  simp only [Expr.formed]
  rw [Bool.and_comm]
  congr 1
  by_cases h:e.size<=600
  ·simp [h]; omega
  ·simp [h]; omega
end Rg
end
section
namespace Rg
open Go
def inR (i n:Int):Bool:=decide (0<=i/\i<n)
theorem below_den (i n:Int):Den Γ G 96 [vi i,vi n]=some (vb (inR i n)):=by
 (refine den_ofY Γ96 rfl ?_; dsimp only [f96])
 simp -dsimp -implicitDefEqProofs only [go_sem,seval]
 refine csplit (fun h => ?_) (fun h => ?_) <;> (try simp only [bools] at h) <;> (try simp -dsimp -implicitDefEqProofs only [go_sem,seval, *])
 ·simp [inR]; omega
 ·simp [inR]; omega
theorem in_den (i n:Int):Den Γ G 110 [vi i,vi n]=some (vb (inR i n)):=by
 (refine den_ofY Γ110 rfl ?_; dsimp only [f110])
 simp -dsimp -implicitDefEqProofs only [go_sem,seval]
 refine csplit (fun h => ?_) (fun h => ?_) <;> (try simp only [bools] at h) <;> (try simp -dsimp -implicitDefEqProofs only [go_sem,seval, *])
 ·simp [inR]; omega
 ·simp [inR]; omega
def Expr.absent (e:Expr):Bool:=decide (e.op=0/\e.w=0/\e.n=0/\e.kids=[])
theorem absentP_den (e:Expr):Den Γ G 98 [(.agg [.t (ti (e).op), .t (ti (e).w), .t (ti (e).n), .t (.sl ((e).kids.map (Expr.enc)))])]=some (vb e.absent):=by
 (refine den_ofY Γ98 rfl ?_; dsimp only [f98])
 simp -dsimp -implicitDefEqProofs only [go_sem,seval]
 repeat' (refine csplit (fun h => ?_) (fun h => ?_) <;> (try simp only [bools] at h) <;> (try simp -dsimp -implicitDefEqProofs only [go_sem,seval, *]))
 all_goals (simp [Expr.absent, *])
theorem absentR_den (e:Expr):Den Γ G 111 [(.agg [.t (ti (e).op), .t (ti (e).w), .t (ti (e).n), .t (.sl ((e).kids.map (Expr.enc)))])]=some (vb e.absent):=by
 (refine den_ofY Γ111 rfl ?_; dsimp only [f111])
 simp -dsimp -implicitDefEqProofs only [go_sem,seval]
 repeat' (refine csplit (fun h => ?_) (fun h => ?_) <;> (try simp only [bools] at h) <;> (try simp -dsimp -implicitDefEqProofs only [go_sem,seval, *]))
 all_goals (simp [Expr.absent, *])
def Expr.one (e:Expr):Bool:=decide (e.op=1/\e.w=1/\e.n=1/\e.kids=[])
theorem one_den (e:Expr):Den Γ G 166 [(.agg [.t (ti (e).op), .t (ti (e).w), .t (ti (e).n), .t (.sl ((e).kids.map (Expr.enc)))])]=some (vb e.one):=by
 (refine den_ofY Γ166 rfl ?_; dsimp only [f166])
 simp -dsimp -implicitDefEqProofs only [go_sem,seval]
 repeat' (refine csplit (fun h => ?_) (fun h => ?_) <;> (try simp only [bools] at h) <;> (try simp -dsimp -implicitDefEqProofs only [go_sem,seval, *]))
 all_goals (simp [Expr.one, *])
def rising (l:List Int):Bool:=(List.range (l.length-1)).all fun i=>decide (l.getD i 0<l.getD (i+1) 0)
theorem rising_no {l:List Int} {i:Nat} (h:i+1<l.length) (h2 : ¬ l.getD i 0<l.getD (i+1) 0):rising l=false :=
 all_false_of (List.mem_range.2 (by omega)) (decide_eq_false h2)
theorem rising_yes {l:List Int} (h : ∀ j,j+1<l.length->l.getD j 0<l.getD (j+1) 0):rising l=true:=by
 simp only [rising,List.all_eq_true,List.mem_range,decide_eq_true_eq]
 exact fun j hj=>h j (by omega)
theorem rising_den (l:List Int) (hl:l.length<2^50):Den Γ G 113 [.t (ints l)]=some (vb (rising l)):=by
 (refine den_ofY Γ113 rfl ?_; dsimp only [f113])
 simp -dsimp -implicitDefEqProofs only [go_sem,seval]
 refine loopY 1048572 (l.length-1) (fun i f=>(f 3).v=vi ((i+1:Nat):Int) /\ ∀ j<i,l.getD j 0<l.getD (j+1) 0) rfl rfl ⟨by simp -dsimp -implicitDefEqProofs only [go_sem,seval],by simp⟩ ?_
 rintro i f u kk bb hi ⟨h3,hall⟩
 have hw:=wrapS (i+1) (by omega)
 have hw2:IntKind.i64.wrap (((i+1:Nat):Int)-1)=(i:Int):=by rw [wrap64 (by omega)]; omega
 simp -dsimp -implicitDefEqProofs only [go_sem,seval,h3]
 refine csplit (fun h => ?_) (fun h => ?_) <;> (try simp only [bools] at h) <;> (try simp -dsimp -implicitDefEqProofs only [go_sem,seval, *])
 ·have hlt:i+1<l.length:=by omega
  have hx:l[i+1]? = some l[i+1]:=List.getElem?_eq_getElem hlt
  have hy:l[i]? = some l[i]:=List.getElem?_eq_getElem (by omega)
  have gx:l.getD (i+1) 0=l[i+1]:=by simp [List.getD,hx]
  have gy:l.getD i 0=l[i]:=by simp [List.getD,hy]
  simp -dsimp -implicitDefEqProofs only [go_sem,seval,h3,hx,hy,hw2]
  refine csplit (fun h => ?_) (fun h => ?_) <;> (try simp only [bools] at h) <;> (try simp -dsimp -implicitDefEqProofs only [go_sem,seval, *])
  ·have:rising l=false:=rising_no hlt (by rw [gx,gy]; omega)
   rw [this]
  ·refine ⟨by omega,by simp -dsimp -implicitDefEqProofs only [go_sem,seval,hw],fun j hj => ?_⟩
   by_cases hji:j=i
   ·subst hji; rw [gx,gy]; omega
   ·exact hall j (by omega)
 ·have:rising l=true:=rising_yes fun j hj=>hall j (by omega)
  rw [this]
theorem increasing_den (l:List Int) (hl:l.length<2^50):Den Γ G 101 [.t (ints l)]=some (vb (rising l)):=by
 (refine den_ofY Γ101 rfl ?_; dsimp only [f101])
 simp -dsimp -implicitDefEqProofs only [go_sem,seval]
 refine loopY 1048572 (l.length-1) (fun i f=>(f 3).v=vi ((i+1:Nat):Int) /\ ∀ j<i,l.getD j 0<l.getD (j+1) 0) rfl rfl ⟨by simp -dsimp -implicitDefEqProofs only [go_sem,seval],by simp⟩ ?_
 rintro i f u kk bb hi ⟨h3,hall⟩
 have hw:=wrapS (i+1) (by omega)
 have hw2:IntKind.i64.wrap (((i+1:Nat):Int)-1)=(i:Int):=by rw [wrap64 (by omega)]; omega
 simp -dsimp -implicitDefEqProofs only [go_sem,seval,h3]
 refine csplit (fun h => ?_) (fun h => ?_) <;> (try simp only [bools] at h) <;> (try simp -dsimp -implicitDefEqProofs only [go_sem,seval, *])
 ·have hlt:i+1<l.length:=by omega
  have hx:l[i+1]? = some l[i+1]:=List.getElem?_eq_getElem hlt
  have hy:l[i]? = some l[i]:=List.getElem?_eq_getElem (by omega)
  have gx:l.getD (i+1) 0=l[i+1]:=by simp [List.getD,hx]
  have gy:l.getD i 0=l[i]:=by simp [List.getD,hy]
  simp -dsimp -implicitDefEqProofs only [go_sem,seval,h3,hx,hy,hw2]
  refine csplit (fun h => ?_) (fun h => ?_) <;> (try simp only [bools] at h) <;> (try simp -dsimp -implicitDefEqProofs only [go_sem,seval, *])
  ·have:rising l=false:=rising_no hlt (by rw [gx,gy]; omega)
   rw [this]
  ·refine ⟨by omega,by simp -dsimp -implicitDefEqProofs only [go_sem,seval,hw],fun j hj => ?_⟩
   by_cases hji:j=i
   ·subst hji; rw [gx,gy]; omega
   ·exact hall j (by omega)
 ·have:rising l=true:=rising_yes fun j hj=>hall j (by omega)
  rw [this]
def byteOk (b:ByteArray) (i:Nat):Bool:=match b[i]? with
 | some c=>decide (33<=c.toNat/\c.toNat<=126)
 | none=>false
def isLabel (b:ByteArray):Bool:=decide (1<=b.size/\b.size<=64)&&(List.range b.size).all (byteOk b)
theorem label_no {b:ByteArray} {i:Nat} (h:i<b.size) (h2:byteOk b i=false):isLabel b=false:=by
 rw [isLabel,all_false_of (List.mem_range.2 h) h2,Bool.and_false]
theorem byte_get {b:ByteArray} {i:Nat} (h:i<b.size) : ∃ c,b[i]? = some c:=⟨b[i],by simp [h]⟩
theorem labelP_den (b:ByteArray):Den Γ G 95 [.t (.str b)]=some (vb (isLabel b)):=by
 (refine den_ofY Γ95 rfl ?_; dsimp only [f95])
 simp -dsimp -implicitDefEqProofs only [go_sem,seval]
 refine csplit (fun h => ?_) (fun h => ?_) <;> (try simp only [bools] at h) <;> (try simp -dsimp -implicitDefEqProofs only [go_sem,seval, *])
 ·have : ¬ (1<=b.size/\b.size<=64):=by omega
  simp [isLabel,this]
 ·refine csplit (fun h => ?_) (fun h => ?_) <;> (try simp only [bools] at h) <;> (try simp -dsimp -implicitDefEqProofs only [go_sem,seval, *])
  ·have : ¬ (1<=b.size/\b.size<=64):=by omega
   simp [isLabel,this]
  ·have hsz:1<=b.size/\b.size<=64:=by omega
   refine loopY 268419084 b.size (fun i f=>(f 14).v=vi i /\ ∀ j<i,byteOk b j=true) rfl rfl ⟨by simp -dsimp -implicitDefEqProofs only [go_sem,seval],by simp⟩ ?_
   rintro i f u kk bb hi ⟨h14,hall⟩
   have hw:=wrapS i (by omega)
   simp -dsimp -implicitDefEqProofs only [go_sem,seval,h14]
   refine csplit (fun h => ?_) (fun h => ?_) <;> (try simp only [bools] at h) <;> (try simp -dsimp -implicitDefEqProofs only [go_sem,seval, *])
   ·obtain ⟨c,hc⟩:=byte_get ‹i<b.size›
    simp -dsimp -implicitDefEqProofs only [go_sem,seval,h14,hc]
    repeat' (refine csplit (fun h => ?_) (fun h => ?_) <;> (try simp only [bools] at h) <;> (try simp -dsimp -implicitDefEqProofs only [go_sem,seval, *]))
    ·rw [label_no ‹i<b.size› (by simp [byteOk,hc]; omega)]
    ·rw [label_no ‹i<b.size› (by simp [byteOk,hc]; omega)]
    ·refine ⟨by omega,by simp -dsimp -implicitDefEqProofs only [go_sem,seval,hw],fun j hj => ?_⟩
     by_cases hji:j=i
     ·subst hji; simp [byteOk,hc]; omega
     ·exact hall j (by omega)
   ·have:isLabel b=true:=by
     simp only [isLabel,hsz,and_self,decide_true,Bool.true_and,List.all_eq_true,List.mem_range]
     exact fun j hj=>hall j (by omega)
    rw [this]
theorem labelR_den (b:ByteArray) (hb:b.size<2^50):Den Γ G 109 [.t (.str b)]=some (vb (isLabel b)):=by
 (refine den_ofY Γ109 rfl ?_; dsimp only [f109])
 simp -dsimp -implicitDefEqProofs only [go_sem,seval]
 refine loopY 1048572 b.size (fun i f=>(f 3).v=vi i /\ ∀ j<i,byteOk b j=true) rfl rfl ⟨by simp -dsimp -implicitDefEqProofs only [go_sem,seval],by simp⟩ ?_
 rintro i f u kk bb hi ⟨h14,hall⟩
 have hw:=wrapS i (by omega)
 simp -dsimp -implicitDefEqProofs only [go_sem,seval,h14]
 refine csplit (fun h => ?_) (fun h => ?_) <;> (try simp only [bools] at h) <;> (try simp -dsimp -implicitDefEqProofs only [go_sem,seval, *])
 ·obtain ⟨c,hc⟩:=byte_get ‹i<b.size›
  simp -dsimp -implicitDefEqProofs only [go_sem,seval,h14,hc]
  repeat' (refine csplit (fun h => ?_) (fun h => ?_) <;> (try simp only [bools] at h) <;> (try simp -dsimp -implicitDefEqProofs only [go_sem,seval, *]))
  ·rw [label_no ‹i<b.size› (by simp [byteOk,hc]; omega)]
  ·rw [label_no ‹i<b.size› (by simp [byteOk,hc]; omega)]
  ·refine ⟨by omega,by simp -dsimp -implicitDefEqProofs only [go_sem,seval,hw],fun j hj => ?_⟩
   by_cases hji:j=i
   ·subst hji; simp [byteOk,hc]; omega
   ·exact hall j (by omega)
 ·have:(List.range b.size).all (byteOk b)=true:=by
   simp only [List.all_eq_true,List.mem_range]
   exact fun j hj=>hall j (by omega)
  refine csplit (fun h => ?_) (fun h => ?_) <;> (try simp only [bools] at h) <;> (try simp -dsimp -implicitDefEqProofs only [go_sem,seval, *])
  ·simp only [isLabel,this,Bool.and_true]
   apply decide_eq_decide.2; omega
  ·simp only [isLabel,this,Bool.and_true]
   exact (decide_eq_false (by omega)).symm
namespace Expr
mutual
def lv:Expr->List Expr
 | .mk o w n []=>[.mk o w n []]
 | .mk o w n (k::ks)=>lv k++lvs ks
def lvs:List Expr->List Expr
 | []=>[]
 | e::r=>lv e++lvs r
end
theorem lvs_eq : ∀ l:List Expr,lvs l=l.flatMap lv
 | []=>rfl
 | e::r=>by rw [lvs,lvs_eq r]; rfl
theorem lv_eq (e:Expr):lv e=if e.kids=[] then [e] else e.kids.flatMap lv:=by
 obtain ⟨o,w,n,ks⟩:=e
 cases ks with
 | nil=>simp [lv,Expr.kids]
 | cons k ks=>simp [lv,lvs_eq,Expr.kids]
end Expr
def Sh (h:Nat->Option O) (v:V) (e:Expr):Prop :=
 v = .t (.ip [ti e.op,ti e.w,ti e.n, .sl (e.kids.map Expr.enc)]) \/
 ∃ k fz,v = .mp k 0 0/\h k=some (.rows 4 [[.t (ti e.op), .t (ti e.w), .t (ti e.n), .t (.sl (e.kids.map Expr.enc))]] fz)
theorem leaves_den {σ:Type} (g:Nat) (cp:List V) (I:σ->(Nat->Option O)->Prop) (step:σ->Expr->σ) (lc:Expr->Bool)
 (hstep : ∀ s h n v x,I s h->x.kids=[]->lc x=true->Sh h v x -> ∃ r h' n',DenR Γ G g (v::cp) h n=some (r,h',n')/\I (step s x) h') :
 ∀ (e:Expr) (v:V) (s:σ) (h:Nat->Option O) (n:Nat),e.allE (fun x=>lc x&&decide (x.kids.length<=3))=true->I s h->(∀ s h,I s h->Sh h v e) ->
  ∃ r h' n',DenR Γ G 76 [v, .fn g [] cp] h n=some (r,h',n')/\I (e.lv.foldl step s) h' := by
 intro e
 induction e using Expr.ind with
 | _ e ih =>
 intro v s H n hall hI hv
 have hself:=Expr.allE_self hall
 simp only [Bool.and_eq_true,decide_eq_true_eq] at hself
 (refine denR_ofY Γ76 rfl ?_; dsimp only [f76])
 by_cases hk:e.kids=[]
 ·have hsh:=hv s H hI
  have hlv:e.lv=[e]:=by rw [Expr.lv_eq,if_pos hk]
  rw [hlv]
  have hS : ∀ n, ∃ r h' n',DenR Γ G g (v::cp) H n=some (r,h',n')/\I (step s e) h' := fun n=>hstep s H n v e hI hk hself.1 hsh
  rcases hsh with rfl | ⟨k,fz,rfl,hkk⟩
  ·simp only [hk,List.map_nil] at hS
   simp -dsimp -implicitDefEqProofs only [go_sem,seval,hk]
   refine rawK_of (hS _) ?_
   intro r h' n' hI'
   simp -dsimp -implicitDefEqProofs only [go_sem,seval,hk]
   refine wL_step ?_
   simp -dsimp -implicitDefEqProofs only [go_sem,seval]
   exact hI'
  ·simp -dsimp -implicitDefEqProofs only [go_sem,seval,hk,hkk]
   refine rawK_of (hS _) ?_
   intro r h' n' hI'
   have:=hv _ _ hI'
   rcases this with h0 | ⟨k',fz',h0,hkk'⟩
   ·cases h0
   ·cases h0
    simp -dsimp -implicitDefEqProofs only [go_sem,seval,hk,hkk']
    refine wL_step ?_
    simp -dsimp -implicitDefEqProofs only [go_sem,seval]
    exact hI'
 ·have hlv:e.lv=e.kids.flatMap Expr.lv:=by rw [Expr.lv_eq,if_neg hk]
  have hpos : ¬ e.kids.length=0:=by simpa using hk
  have hpos' : ¬ (e.kids.length:Int)=0:=by omega
  rw [hlv]
  have hend : ∀ i,i=e.kids.length->(e.kids.take i).flatMap Expr.lv=e.kids.flatMap Expr.lv:=by rintro i rfl; rw [List.take_length]
  rcases hv s H hI with rfl | ⟨k,fz,rfl,hkk⟩
  ·simp -dsimp -implicitDefEqProofs only [go_sem,seval,hpos']
   refine loopYH 2146959376 e.kids.length (fun i f hh x=>(f 19).v=vi i/\I (((e.kids.take i).flatMap Expr.lv).foldl step s) hh) rfl ⟨by simp -dsimp -implicitDefEqProofs only [go_sem,seval],by simpa using hI⟩ ?_
   rintro i f u hh x bs hi ⟨h19,hI'⟩
   have hwi:=wrapS i (by omega)
   simp -dsimp -implicitDefEqProofs only [go_sem,seval,h19]
   refine csplit (fun h => ?_) (fun h => ?_) <;> (try simp only [bools] at h) <;> (try simp -dsimp -implicitDefEqProofs only [go_sem,seval, *])
   ·obtain ⟨y,hy,hm⟩:=get_of ‹i<e.kids.length›
    simp -dsimp -implicitDefEqProofs only [go_sem,seval,h19,hy]
    refine rawK_of (ih y hm _ _ _ _ (Expr.allE_kid hall hm) hI' (fun _ _ _ => .inl rfl)) ?_
    intro r h' n' hI2
    simp -dsimp -implicitDefEqProofs only [go_sem,seval,h19]
    refine ⟨by omega,by simp -dsimp -implicitDefEqProofs only [go_sem,seval,hwi], ?_⟩
    rw [take_succ_of hy,List.flatMap_append,List.foldl_append]
    simpa using hI2
   ·rw [hend i (by omega)] at hI'
    exact hI'
  ·simp -dsimp -implicitDefEqProofs only [go_sem,seval,hpos',hkk]
   refine loopYH 2146959376 e.kids.length (fun i f hh x=>(f 19).v=vi i/\I (((e.kids.take i).flatMap Expr.lv).foldl step s) hh) rfl ⟨by simp -dsimp -implicitDefEqProofs only [go_sem,seval],by simpa using hI⟩ ?_
   rintro i f u hh x bs hi ⟨h19,hI'⟩
   have hwi:=wrapS i (by omega)
   have hkk2 : ∃ fz',hh k=some (.rows 4 [[.t (ti e.op), .t (ti e.w), .t (ti e.n), .t (.sl (e.kids.map Expr.enc))]] fz'):=by
    rcases hv _ _ hI' with h0 | ⟨k',fz',h0,hkk'⟩
    ·cases h0
    ·cases h0; exact ⟨fz',hkk'⟩
   obtain ⟨fz',hkk2⟩:=hkk2
   simp -dsimp -implicitDefEqProofs only [go_sem,seval,h19]
   refine csplit (fun h => ?_) (fun h => ?_) <;> (try simp only [bools] at h) <;> (try simp -dsimp -implicitDefEqProofs only [go_sem,seval, *])
   ·obtain ⟨y,hy,hm⟩:=get_of ‹i<e.kids.length›
    simp -dsimp -implicitDefEqProofs only [go_sem,seval,h19,hy,hkk2]
    refine rawK_of (ih y hm _ _ _ _ (Expr.allE_kid hall hm) hI' (fun _ _ _ => .inl rfl)) ?_
    intro r h' n' hI2
    simp -dsimp -implicitDefEqProofs only [go_sem,seval,h19]
    refine ⟨by omega,by simp -dsimp -implicitDefEqProofs only [go_sem,seval,hwi], ?_⟩
    rw [take_succ_of hy,List.flatMap_append,List.foldl_append]
    simpa using hI2
   ·rw [hend i (by omega)] at hI'
    exact hI'
end Rg
end
