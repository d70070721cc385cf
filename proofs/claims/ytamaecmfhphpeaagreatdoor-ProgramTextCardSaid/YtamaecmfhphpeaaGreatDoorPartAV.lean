/- Part of the proof of the laws of the package relyguardlaw07: an abstract machine for the program's functions, what they compute, and that the machine is the program's. No condition. (H06x H06y H06z H06v H06w H07a H06u H06t H06s H07b H07c H07d) -/
import Derived.Test.YtamaecmfhphpeaaGreatDoorPartAU
set_option linter.unusedSimpArgs false
set_option linter.unusedVariables false
section
namespace Rg
open Go
theorem wide_den (ks:List Expr) (ws:List Int) (hl:ws.length<=3):Den Γ G 91 [.t (.sl (ks.map Expr.enc)), .t (ints ws)]=some (vb (decide (ks.map Expr.w=ws))):=by
 (refine den_ofY Γ91 rfl ?_; dsimp only [f91])
 simp -dsimp -implicitDefEqProofs only [go_sem,seval]
 refine csplit (fun h => ?_) (fun h => ?_) <;> (try simp only [bools] at h) <;> (try simp -dsimp -implicitDefEqProofs only [go_sem,seval, *])
 ·have : ¬ ks.map Expr.w=ws:=fun he=>by have:=congrArg List.length he; simp at this; omega
  simp [this]
 ·have hlen:ks.length=ws.length:=by omega
  refine loopY 134201456 ws.length (fun i f=>(f 14).v=vi i/\(ks.take i).map Expr.w=ws.take i) rfl rfl ⟨by simp -dsimp -implicitDefEqProofs only [go_sem,seval],by simp⟩ ?_
  rintro i f u kk bb hi ⟨h14,ht⟩
  have hw:=wrapS i (by omega)
  simp -dsimp -implicitDefEqProofs only [go_sem,seval,h14]
  refine csplit (fun h => ?_) (fun h => ?_) <;> (try simp only [bools] at h) <;> (try simp -dsimp -implicitDefEqProofs only [go_sem,seval, *])
  ·have hx:ws[i]? = some ws[i]:=List.getElem?_eq_getElem (by omega)
   have hy:ks[i]? = some ks[i]:=List.getElem?_eq_getElem (by omega)
   simp -dsimp -implicitDefEqProofs only [go_sem,seval,h14,hx,hy]
   refine csplit (fun h => ?_) (fun h => ?_) <;> (try simp only [bools] at h) <;> (try simp -dsimp -implicitDefEqProofs only [go_sem,seval, *])
   ·have : ¬ ks.map Expr.w=ws:=fun he=>by
     have:=congrArg (fun l=>l[i]?) he
     simp only [List.getElem?_map,hx,hy,Option.map_some,Option.some.injEq] at this
     contradiction
    simp [this]
   ·refine ⟨by omega,by simp -dsimp -implicitDefEqProofs only [go_sem,seval,hw], ?_⟩
    rw [take_succ_of hx,take_succ_of hy,List.map_append,ht]
    simp [h]
  ·have:i=ws.length:=by omega
   subst this
   rw [List.take_length, <- hlen,List.take_length] at ht
   simp [ht]
@[go_sem] theorem G_0:G 0=[ti 0,ti 1,ti 3,ti 7,ti 15,ti 31,ti 63,ti 127,ti 255]:=rfl
theorem mask_cases {w:Int} (h:1<=w/\w<=8):w=1\/w=2\/w=3\/w=4\/w=5\/w=6\/w=7\/w=8:=by omega
theorem arity_two {op:Int} (h:5<=op/\op<=13):arity op=2:=by unfold arity; grind
theorem nodeOk_mk (op w n:Int) (ks:List Expr):nodeOk (.mk op w n ks) =
 if arity op≠ks.length\/w<1\/w>8 then false
 else if op=1 then decide (0<=n/\n<2^w.toNat)
 else if op=2\/op=3 then decide (0<=n/\n<32)
 else if op=4 then decide (n=0/\(Expr.mk op w n ks).kw 0=w)
 else if op=11\/op=12\/op=13 then decide (n=0/\w=1/\(Expr.mk op w n ks).kw 0=(Expr.mk op w n ks).kw 1)
 else if op=14 then decide (n=0/\(Expr.mk op w n ks).kw 0=1/\(Expr.mk op w n ks).kw 1=w/\(Expr.mk op w n ks).kw 2=w)
 else decide (n=0/\(Expr.mk op w n ks).kw 0=w/\(Expr.mk op w n ks).kw 1=w):=rfl
theorem kw_0 (op w n:Int) (a:Expr) (r:List Expr):(Expr.mk op w n (a::r)).kw 0=a.w:=rfl
theorem kw_1 (op w n:Int) (a b:Expr) (r:List Expr):(Expr.mk op w n (a::b::r)).kw 1=b.w:=rfl
theorem kw_2 (op w n:Int) (a b c:Expr) (r:List Expr):(Expr.mk op w n (a::b::c::r)).kw 2=c.w:=rfl
theorem nodeOk_bin {op w n:Int} {ks:List Expr} (h:5<=op/\op<=10) (hw:1<=w/\w<=8):nodeOk (.mk op w n ks)=decide (n=0/\ks.map Expr.w=[w,w]):=by
 rw [nodeOk_mk,arity_two (show 5<=op/\op<=13 by omega),if_neg (show ¬ op=1 by omega),if_neg (show ¬ (op=2\/op=3) by omega),if_neg (show ¬ op=4 by omega),if_neg (show ¬ (op=11\/op=12\/op=13) by omega),if_neg (show ¬ op=14 by omega)]
 rcases ks with _ | ⟨a,_ | ⟨b,_ | ⟨c,r⟩⟩⟩
 ·rw [if_pos (by simp)]; simp
 ·rw [if_pos (by simp)]; simp
 ·rw [if_neg (by simp; omega),kw_0,kw_1]; simp
 ·rw [if_pos (by simp; omega)]; simp
theorem nodeOk_cmp {op w n:Int} {ks:List Expr} (h:11<=op/\op<=13) (hw:1<=w/\w<=8):nodeOk (.mk op w n ks)=decide (n=0/\w=1/\ks.length=2/\(Expr.mk op w n ks).kw 0=(Expr.mk op w n ks).kw 1):=by
 rw [nodeOk_mk,arity_two (show 5<=op/\op<=13 by omega),if_neg (show ¬ op=1 by omega),if_neg (show ¬ (op=2\/op=3) by omega),if_neg (show ¬ op=4 by omega),if_pos (show (op=11\/op=12\/op=13) by omega)]
 by_cases hl:ks.length=2
 ·rw [if_neg (by omega)]; simp [hl]
 ·rw [if_pos (by omega)]; simp [hl]
theorem nodeOk_not {w n:Int} {ks:List Expr} (hw:1<=w/\w<=8):nodeOk (.mk 4 w n ks)=decide (n=0/\ks.map Expr.w=[w]):=by
 rw [nodeOk_mk,show arity 4=1 from rfl,if_neg (show ¬ (4:Int)=1 by omega),if_neg (show ¬ ((4:Int)=2\/(4:Int)=3) by omega),if_pos rfl]
 rcases ks with _ | ⟨a,_ | ⟨b,r⟩⟩
 ·rw [if_pos (by simp)]; simp
 ·rw [if_neg (by simp; omega),kw_0]; simp
 ·rw [if_pos (by simp; omega)]; simp
theorem nodeOk_ite {w n:Int} {ks:List Expr} (hw:1<=w/\w<=8):nodeOk (.mk 14 w n ks)=decide (n=0/\ks.map Expr.w=[1,w,w]):=by
 rw [nodeOk_mk,show arity 14=3 from rfl,if_neg (show ¬ (14:Int)=1 by omega),if_neg (show ¬ ((14:Int)=2\/(14:Int)=3) by omega),if_neg (show ¬ (14:Int)=4 by omega),if_neg (show ¬ ((14:Int)=11\/(14:Int)=12\/(14:Int)=13) by omega),if_pos rfl]
 rcases ks with _ | ⟨a,_ | ⟨b,_ | ⟨c,_ | ⟨d,r⟩⟩⟩⟩
 ·rw [if_pos (by simp)]; simp
 ·rw [if_pos (by simp)]; simp
 ·rw [if_pos (by simp)]; simp
 ·rw [if_neg (by simp; omega),kw_0,kw_1,kw_2]; simp
 ·rw [if_pos (by simp; omega)]; simp
theorem nodeOk_leaf {op w n:Int} {ks:List Expr} (h:1<=op/\op<=3) (hw:1<=w/\w<=8):nodeOk (.mk op w n ks)=decide (ks.length=0/\0<=n/\(if op=1 then n<2^w.toNat else n<32)):=by
 have ha:arity op=0:=by unfold arity; rw [if_pos h]
 rw [nodeOk_mk,ha]
 by_cases hl:ks.length=0
 ·rw [if_neg (by omega)]
  by_cases h1:op=1
  ·simp [h1,hl]
  ·rw [if_neg h1,if_pos (by omega)]; simp [h1,hl]
 ·rw [if_pos (by omega)]; simp [hl]
theorem nodeOk_bad {op w n:Int} {ks:List Expr} (h:op<1\/14<op):nodeOk (.mk op w n ks)=false:=by
 rw [nodeOk_mk,arity_bad h,if_pos (by omega)]
theorem nodeOk_n0 {op w n:Int} {ks:List Expr} (h : ¬ (1<=op/\op<=3)) (hw:1<=w/\w<=8) (hn : ¬ n=0):nodeOk (.mk op w n ks)=false:=by
 rcases op_cases op with rfl | rfl | rfl | rfl | rfl | rfl | rfl | rfl | rfl | rfl | rfl | rfl | rfl | rfl | hop
 ·omega
 ·omega
 ·omega
 ·rw [nodeOk_not hw]; simp [hn]
 ·rw [nodeOk_bin (by omega) hw]; simp [hn]
 ·rw [nodeOk_bin (by omega) hw]; simp [hn]
 ·rw [nodeOk_bin (by omega) hw]; simp [hn]
 ·rw [nodeOk_bin (by omega) hw]; simp [hn]
 ·rw [nodeOk_bin (by omega) hw]; simp [hn]
 ·rw [nodeOk_bin (by omega) hw]; simp [hn]
 ·rw [nodeOk_cmp (by omega) hw]; simp [hn]
 ·rw [nodeOk_cmp (by omega) hw]; simp [hn]
 ·rw [nodeOk_cmp (by omega) hw]; simp [hn]
 ·rw [nodeOk_ite hw]; simp [hn]
 ·exact nodeOk_bad hop
set_option maxHeartbeats 4000000 in
theorem shaped_den (e:Expr):Den Γ G 71 [.t (.ip [ti e.op,ti e.w,ti e.n, .sl (e.kids.map Expr.enc)])]=some (vb (nodeOk e)):=by
 obtain ⟨op,w,n,ks⟩:=e
 simp only [Expr.op_mk,Expr.w_mk,Expr.n_mk,Expr.kids_mk]
 (refine den_ofY Γ71 rfl ?_; dsimp only [f71])
 by_cases hw:1<=w/\w<=8
 ·have h1 : ¬ w<1:=by omega
  have h2 : ¬ w>8:=by omega
  have hd1:=wide_den ks [w] (by simp)
  have hd2:=wide_den ks [w,w] (by simp)
  have hd3:=wide_den ks [1,w,w] (by simp)
  simp only [ints,List.map_cons,List.map_nil] at hd1 hd2 hd3
  by_cases hleaf:op=1
  ·subst hleaf
   rw [nodeOk_leaf (by omega) hw]
   clear hd1 hd2 hd3
   rcases mask_cases hw with rfl | rfl | rfl | rfl | rfl | rfl | rfl | rfl
   all_goals (
    simp -dsimp -implicitDefEqProofs only [go_sem,seval]
    repeat' (refine csplit (fun h => ?_) (fun h => ?_) <;> (try simp only [bools] at h) <;> (try simp -dsimp -implicitDefEqProofs only [go_sem,seval, *]))
    all_goals ((try simp only [Int.reduceToNat,Int.reducePow,Int.reduceEq,reduceIte]); first | exact (decide_eq_false (by omega)).symm | (simp; done) | (apply decide_eq_decide.2; omega)))
  ·by_cases hleaf2:op=2\/op=3
   ·rw [nodeOk_leaf (by omega) hw]
    clear hd1 hd2 hd3
    rcases hleaf2 with rfl | rfl
    all_goals (
     simp -dsimp -implicitDefEqProofs only [go_sem,seval,h1,h2]
     repeat' (refine csplit (fun h => ?_) (fun h => ?_) <;> (try simp only [bools] at h) <;> (try simp -dsimp -implicitDefEqProofs only [go_sem,seval, *]))
     all_goals ((try simp only [Int.reduceEq,reduceIte]); first | exact (decide_eq_false (by omega)).symm | (simp; done) | (apply decide_eq_decide.2; omega)))
   ·have e1 : ¬ op=2:=by omega
    have e2 : ¬ op=3:=by omega
    by_cases hn:n=0
    ·rcases op_cases op with rfl | rfl | rfl | rfl | rfl | rfl | rfl | rfl | rfl | rfl | rfl | rfl | rfl | rfl | hop
     ·omega
     ·omega
     ·omega
     ·rw [nodeOk_not hw]; simp -dsimp -implicitDefEqProofs only [go_sem,seval,h1,h2,hn,hd1]
     ·rw [nodeOk_bin (by omega) hw]; simp -dsimp -implicitDefEqProofs only [go_sem,seval,h1,h2,hn,hd2]
     ·rw [nodeOk_bin (by omega) hw]; simp -dsimp -implicitDefEqProofs only [go_sem,seval,h1,h2,hn,hd2]
     ·rw [nodeOk_bin (by omega) hw]; simp -dsimp -implicitDefEqProofs only [go_sem,seval,h1,h2,hn,hd2]
     ·rw [nodeOk_bin (by omega) hw]; simp -dsimp -implicitDefEqProofs only [go_sem,seval,h1,h2,hn,hd2]
     ·rw [nodeOk_bin (by omega) hw]; simp -dsimp -implicitDefEqProofs only [go_sem,seval,h1,h2,hn,hd2]
     ·rw [nodeOk_bin (by omega) hw]; simp -dsimp -implicitDefEqProofs only [go_sem,seval,h1,h2,hn,hd2]
     ·rw [nodeOk_cmp (by omega) hw]
      rcases ks with _ | ⟨a,_ | ⟨b,_ | ⟨c,r⟩⟩⟩
      all_goals (
       simp -dsimp -implicitDefEqProofs only [go_sem,seval,h1,h2,hn]
       repeat' (refine csplit (fun h => ?_) (fun h => ?_) <;> (try simp only [bools] at h) <;> (try simp -dsimp -implicitDefEqProofs only [go_sem,seval, *]))
       all_goals (simp [kw_0,kw_1, *])
       all_goals (first | rfl | omega))
     ·rw [nodeOk_cmp (by omega) hw]
      rcases ks with _ | ⟨a,_ | ⟨b,_ | ⟨c,r⟩⟩⟩
      all_goals (
       simp -dsimp -implicitDefEqProofs only [go_sem,seval,h1,h2,hn]
       repeat' (refine csplit (fun h => ?_) (fun h => ?_) <;> (try simp only [bools] at h) <;> (try simp -dsimp -implicitDefEqProofs only [go_sem,seval, *]))
       all_goals (simp [kw_0,kw_1, *])
       all_goals (first | rfl | omega))
     ·rw [nodeOk_cmp (by omega) hw]
      rcases ks with _ | ⟨a,_ | ⟨b,_ | ⟨c,r⟩⟩⟩
      all_goals (
       simp -dsimp -implicitDefEqProofs only [go_sem,seval,h1,h2,hn]
       repeat' (refine csplit (fun h => ?_) (fun h => ?_) <;> (try simp only [bools] at h) <;> (try simp -dsimp -implicitDefEqProofs only [go_sem,seval, *]))
       all_goals (simp [kw_0,kw_1, *])
       all_goals (first | rfl | omega))
     ·rw [nodeOk_ite hw]; simp -dsimp -implicitDefEqProofs only [go_sem,seval,h1,h2,hn,hd3]
     ·rw [nodeOk_bad hop]
      have n1 : ¬ op=4:=by omega
      have n2 : ¬ op=5:=by omega
      have n3 : ¬ op=6:=by omega
      have n4 : ¬ op=7:=by omega
      have n5 : ¬ op=8:=by omega
      have n6 : ¬ op=9:=by omega
      have n7 : ¬ op=10:=by omega
      have n8 : ¬ op=11:=by omega
      have n9 : ¬ op=12:=by omega
      have n10 : ¬ op=13:=by omega
      have n11 : ¬ op=14:=by omega
      simp -dsimp -implicitDefEqProofs only [go_sem,seval,h1,h2,hn,hleaf,e1,e2,n1,n2,n3,n4,n5,n6,n7,n8,n9,n10,n11]
    ·rw [nodeOk_n0 (by omega) hw hn]
     simp -dsimp -implicitDefEqProofs only [go_sem,seval,h1,h2,hleaf,e1,e2,hn]
 ·by_cases h1:w<1
  ·simp -dsimp -implicitDefEqProofs only [go_sem,seval,h1]
   simp only [nodeOk,go_sem]; grind
  ·have h2:w>8:=by omega
   simp -dsimp -implicitDefEqProofs only [go_sem,seval,h1,h2]
   simp only [nodeOk,go_sem]; grind
end Rg
end
section
namespace Rg
open Go
theorem updC_same {α:Type} (f:Nat->α) (i:Nat) (v w:α):updC (updC f i v) i w=updC f i w:=by
 rw [updC_eq]; funext j; unfold upd; split <;> rfl
def Shows (h:Nat->Option O) (kc:Nat) (v:V) (e:Expr):Prop :=
 v = .t (.ip [ti e.op,ti e.w,ti e.n, .sl (e.kids.map Expr.enc)]) \/
 ∃ k fz,v = .mp k 0 0/\k≠kc/\h k=some (.rows 4 [[.t (ti e.op), .t (ti e.w), .t (ti e.n), .t (.sl (e.kids.map Expr.enc))]] fz)
theorem visit_den (d:Nat) : ∀ (e:Expr) (v:V) (c:Int) (H:Nat->Option O) (n kc kv:Nat) (fz:Bool),
 d<=40->Shows H kc v e->0<=c->c<=600->kv≠kc->H kc=some (.rows 1 [[vi c]] false)->H kv=some (.rows 1 [[.fn 70 [] [.mp kc 0 0, .mp kv 0 0]]] fz) ->
 ∃ r h' n',DenR Γ G 70 [v,vi (41-d), .mp kc 0 0, .mp kv 0 0] H n=some (r,h',n') /\
  r=vb (e.deep d&&decide (c+e.size<=600)) /\ ∃ c' : Int,h' = updC H kc (some (.rows 1 [[vi c']] false))/\(e.deep d=true->c+e.size<=600->c' = c+e.size):=by
 induction d with
 | zero =>
  intro e v c H n kc kv fz hd hv hc0 hc hne hkc hkv
  (refine denR_ofY Γ70 rfl ?_; dsimp only [f70])
  have hw:IntKind.i64.wrap (c+1)=c+1:=wrap64 (by omega)
  have hdep:(41-((0:Nat):Int))>40:=by omega
  rcases hv with rfl | ⟨k,fk,rfl,hk,hkk⟩
  all_goals (
   simp -dsimp -implicitDefEqProofs only [go_sem,seval,hkc,hw,hdep]
   repeat' (refine csplit (fun h => ?_) (fun h => ?_) <;> (try simp only [bools] at h) <;> (try simp -dsimp -implicitDefEqProofs only [go_sem,seval, *]))
   all_goals (exact ⟨by simp -dsimp -implicitDefEqProofs only [go_sem,seval,Expr.deep,Bool.false_and],c+1,by simp -dsimp -implicitDefEqProofs only [go_sem,seval],by simp [Expr.deep]⟩))
 | succ d ih =>
  intro e v c H n kc kv fz hd hv hc0 hc hne hkc hkv
  (refine denR_ofY Γ70 rfl ?_; dsimp only [f70])
  have hw:IntKind.i64.wrap (c+1)=c+1:=wrap64 (by omega)
  have hdep : ¬ (41-((d+1:Nat):Int))>40:=by omega
  have hw2:IntKind.i64.wrap (41-((d+1:Nat):Int)+1)=41-(d:Int):=by rw [wrap64 (by omega)]; omega
  have hsh:=shaped_den e
  have hsz:=Expr.size_eq e
  have hpos:=Expr.size_pos e
  rcases hv with rfl | ⟨k,fk,rfl,hk,hkk⟩
  all_goals (
   have hk0:=hw
   (try have hk0:=hk)
   simp -dsimp -implicitDefEqProofs only [go_sem,seval,hkc,hw,hdep]
   refine csplit (fun h => ?_) (fun h => ?_) <;> (try simp only [bools] at h) <;> (try simp -dsimp -implicitDefEqProofs only [go_sem,seval, *])
   ·refine ⟨?_,c+1,by simp -dsimp -implicitDefEqProofs only [go_sem,seval],fun _ hle=>by omega⟩
    simp -dsimp -implicitDefEqProofs only [go_sem,seval]
    have : ¬ (c+(e.size:Int)<=600):=by omega
    simp [this]
   ·refine csplit (fun h => ?_) (fun h => ?_) <;> (try simp only [bools] at h) <;> (try simp -dsimp -implicitDefEqProofs only [go_sem,seval, *])
    ·refine ⟨?_,c+1,by simp -dsimp -implicitDefEqProofs only [go_sem,seval],fun hdp=>by rw [deep_node hdp] at h; simp at h⟩
     simp -dsimp -implicitDefEqProofs only [go_sem,seval]
     simp [Expr.deep,h]
    ·have hlen:=nodeOk_len h
     refine loopYH 2198956146880 e.kids.length (fun i f hh x=>(f 26).v=vi i /\ ∃ c' : Int,hh=updC H kc (some (.rows 1 [[vi c']] false))/\c' = c+1+((e.kids.take i).map Expr.size).sum/\c' <= 600/\(e.kids.take i).all (Expr.deep d)=true) rfl
      ⟨by simp -dsimp -implicitDefEqProofs only [go_sem,seval],c+1,by simp -dsimp -implicitDefEqProofs only [go_sem,seval],by simp,by omega,by simp⟩ ?_
     rintro i f u hh x bs hi ⟨h26,c',rfl,hc',hle,hall⟩
     have hwi:=wrapS i (by omega)
     simp -dsimp -implicitDefEqProofs only [go_sem,seval,h26]
     refine csplit (fun h => ?_) (fun h => ?_) <;> (try simp only [bools] at h) <;> (try simp -dsimp -implicitDefEqProofs only [go_sem,seval, *])
     ·obtain ⟨y,hy,hm⟩:=get_of ‹i<e.kids.length›
      simp -dsimp -implicitDefEqProofs only [go_sem,seval,h26,hy,hne,hkv,hw2,hk0]
      refine rawK_of (ih y _ c' _ _ kc kv fz (by omega) (.inl rfl) (by omega) hle hne (by rw [updC_at]; simp) (by rw [updC_at]; simp [hne,hkv])) ?_
      rintro r h' n' ⟨rfl,c2,rfl,hc2⟩
      simp -dsimp -implicitDefEqProofs only [go_sem,seval]
      have hts:=Expr.take_le_size e.kids (i+1)
      have ht1:((e.kids.take (i+1)).map Expr.size).sum=((e.kids.take i).map Expr.size).sum+y.size:=by
       rw [take_succ_of hy]; simp
      refine csplit (fun h => ?_) (fun h => ?_) <;> (try simp only [bools] at h) <;> (try simp -dsimp -implicitDefEqProofs only [go_sem,seval, *])
      ·refine ⟨?_,c2,by simp -dsimp -implicitDefEqProofs only [go_sem,seval,updC_same],fun hdp hle2 => ?_⟩
       ·simp -dsimp -implicitDefEqProofs only [go_sem,seval]
        simp only [Bool.and_eq_false_iff,decide_eq_false_iff_not] at h
        rcases h with h | h
        ·rw [Expr.deep,all_false_of hm h]; simp
        ·have : ¬ c+(e.size:Int)<=600:=by omega
         simp [this]
       ·have hy1:=deep_kid hdp hm
        have:c' + (y.size:Int)<=600:=by omega
        simp [hy1,this] at h
      ·simp only [Bool.and_eq_true,decide_eq_true_eq] at h
       have h2:=hc2 h.1 h.2
       exact ⟨by omega,by simp -dsimp -implicitDefEqProofs only [go_sem,seval,hwi],c2,by simp -dsimp -implicitDefEqProofs only [go_sem,seval,updC_same],by omega,by omega,all_take_succ hy hall h.1⟩
     ·have:i=e.kids.length:=by omega
      subst this
      rw [List.take_length] at hall hc'
      refine ⟨?_,c',by simp -dsimp -implicitDefEqProofs only [go_sem,seval],fun hdp hle2=>by omega⟩
      simp -dsimp -implicitDefEqProofs only [go_sem,seval]
      have:c+(e.size:Int)<=600:=by omega
      simp [Expr.deep,hall,this, ‹nodeOk e=true›])
theorem wellFormed_den (e:Expr):Den Γ G 51 [(.agg [.t (ti (e).op), .t (ti (e).w), .t (ti (e).n), .t (.sl ((e).kids.map (Expr.enc)))])]=some (vb e.formed):=by
 (refine den_ofY Γ51 rfl ?_; dsimp only [f51])
 simp -dsimp -implicitDefEqProofs only [go_sem,seval]
 refine rawK_of (visit_den 40 e _ 0 _ _ _ _ false (by omega) (.inr ⟨_,false,rfl, ?_, ?_⟩) (by omega) (by omega) ?_ ?_ ?_) ?_
 ·decide
 ·simp -dsimp -implicitDefEqProofs only [go_sem,seval]
 ·decide
 ·simp -dsimp -implicitDefEqProofs only [go_sem,seval]
 ·simp -dsimp -implicitDefEqProofs only [go_sem,seval]
 ·rintro r h' n' ⟨rfl,c',rfl,_⟩
  simp -dsimp -implicitDefEqProofs only [go_sem,seval]
  simp only [Expr.formed]
  rw [Bool.and_comm]
  congr 1
  by_cases h:e.size<=600
  ·simp [h]; omega
  ·simp [h]; omega
end Rg
end
section
namespace Rg
open Go
def inR (i n:Int):Bool:=decide (0<=i/\i<n)
theorem below_den (i n:Int):Den Γ G 96 [vi i,vi n]=some (vb (inR i n)):=by
 (refine den_ofY Γ96 rfl ?_; dsimp only [f96])
 simp -dsimp -implicitDefEqProofs only [go_sem,seval]
 refine csplit (fun h => ?_) (fun h => ?_) <;> (try simp only [bools] at h) <;> (try simp -dsimp -implicitDefEqProofs only [go_sem,seval, *])
 ·simp [inR]; omega
 ·simp [inR]; omega
def Expr.absent (e:Expr):Bool:=decide (e.op=0/\e.w=0/\e.n=0/\e.kids=[])
theorem absentP_den (e:Expr):Den Γ G 98 [(.agg [.t (ti (e).op), .t (ti (e).w), .t (ti (e).n), .t (.sl ((e).kids.map (Expr.enc)))])]=some (vb e.absent):=by
 (refine den_ofY Γ98 rfl ?_; dsimp only [f98])
 simp -dsimp -implicitDefEqProofs only [go_sem,seval]
 repeat' (refine csplit (fun h => ?_) (fun h => ?_) <;> (try simp only [bools] at h) <;> (try simp -dsimp -implicitDefEqProofs only [go_sem,seval, *]))
 all_goals (simp [Expr.absent, *])
def Expr.one (e:Expr):Bool:=decide (e.op=1/\e.w=1/\e.n=1/\e.kids=[])
theorem one_den (e:Expr):Den Γ G 166 [(.agg [.t (ti (e).op), .t (ti (e).w), .t (ti (e).n), .t (.sl ((e).kids.map (Expr.enc)))])]=some (vb e.one):=by
 (refine den_ofY Γ166 rfl ?_; dsimp only [f166])
 simp -dsimp -implicitDefEqProofs only [go_sem,seval]
 repeat' (refine csplit (fun h => ?_) (fun h => ?_) <;> (try simp only [bools] at h) <;> (try simp -dsimp -implicitDefEqProofs only [go_sem,seval, *]))
 all_goals (simp [Expr.one, *])
def rising (l:List Int):Bool:=(List.range (l.length-1)).all fun i=>decide (l.getD i 0<l.getD (i+1) 0)
theorem rising_no {l:List Int} {i:Nat} (h:i+1<l.length) (h2 : ¬ l.getD i 0<l.getD (i+1) 0):rising l=false :=
 all_false_of (List.mem_range.2 (by omega)) (decide_eq_false h2)
theorem rising_yes {l:List Int} (h : ∀ j,j+1<l.length->l.getD j 0<l.getD (j+1) 0):rising l=true:=by
 simp only [rising,List.all_eq_true,List.mem_range,decide_eq_true_eq]
 exact fun j hj=>h j (by omega)
theorem increasing_den (l:List Int) (hl:l.length<2^50):Den Γ G 101 [.t (ints l)]=some (vb (rising l)):=by
 (refine den_ofY Γ101 rfl ?_; dsimp only [f101])
 simp -dsimp -implicitDefEqProofs only [go_sem,seval]
 refine loopY 1048572 (l.length-1) (fun i f=>(f 3).v=vi ((i+1:Nat):Int) /\ ∀ j<i,l.getD j 0<l.getD (j+1) 0) rfl rfl ⟨by simp -dsimp -implicitDefEqProofs only [go_sem,seval],by simp⟩ ?_
 rintro i f u kk bb hi ⟨h3,hall⟩
 have hw:=wrapS (i+1) (by omega)
 have hw2:IntKind.i64.wrap (((i+1:Nat):Int)-1)=(i:Int):=by rw [wrap64 (by omega)]; omega
 simp -dsimp -implicitDefEqProofs only [go_sem,seval,h3]
 refine csplit (fun h => ?_) (fun h => ?_) <;> (try simp only [bools] at h) <;> (try simp -dsimp -implicitDefEqProofs only [go_sem,seval, *])
 ·have hlt:i+1<l.length:=by omega
  have hx:l[i+1]? = some l[i+1]:=List.getElem?_eq_getElem hlt
  have hy:l[i]? = some l[i]:=List.getElem?_eq_getElem (by omega)
  have gx:l.getD (i+1) 0=l[i+1]:=by simp [List.getD,hx]
  have gy:l.getD i 0=l[i]:=by simp [List.getD,hy]
  simp -dsimp -implicitDefEqProofs only [go_sem,seval,h3,hx,hy,hw2]
  refine csplit (fun h => ?_) (fun h => ?_) <;> (try simp only [bools] at h) <;> (try simp -dsimp -implicitDefEqProofs only [go_sem,seval, *])
  ·have:rising l=false:=rising_no hlt (by rw [gx,gy]; omega)
   rw [this]
  ·refine ⟨by omega,by simp -dsimp -implicitDefEqProofs only [go_sem,seval,hw],fun j hj => ?_⟩
   by_cases hji:j=i
   ·subst hji; rw [gx,gy]; omega
   ·exact hall j (by omega)
 ·have:rising l=true:=rising_yes fun j hj=>hall j (by omega)
  rw [this]
def byteOk (b:ByteArray) (i:Nat):Bool:=match b[i]? with
 | some c=>decide (33<=c.toNat/\c.toNat<=126)
 | none=>false
def isLabel (b:ByteArray):Bool:=decide (1<=b.size/\b.size<=64)&&(List.range b.size).all (byteOk b)
theorem label_no {b:ByteArray} {i:Nat} (h:i<b.size) (h2:byteOk b i=false):isLabel b=false:=by
 rw [isLabel,all_false_of (List.mem_range.2 h) h2,Bool.and_false]
theorem byte_get {b:ByteArray} {i:Nat} (h:i<b.size) : ∃ c,b[i]? = some c:=⟨b[i],by simp [h]⟩
theorem labelP_den (b:ByteArray):Den Γ G 95 [.t (.str b)]=some (vb (isLabel b)):=by
 (refine den_ofY Γ95 rfl ?_; dsimp only [f95])
 simp -dsimp -implicitDefEqProofs only [go_sem,seval]
 refine csplit (fun h => ?_) (fun h => ?_) <;> (try simp only [bools] at h) <;> (try simp -dsimp -implicitDefEqProofs only [go_sem,seval, *])
 ·have : ¬ (1<=b.size/\b.size<=64):=by omega
  simp [isLabel,this]
 ·refine csplit (fun h => ?_) (fun h => ?_) <;> (try simp only [bools] at h) <;> (try simp -dsimp -implicitDefEqProofs only [go_sem,seval, *])
  ·have : ¬ (1<=b.size/\b.size<=64):=by omega
   simp [isLabel,this]
  ·have hsz:1<=b.size/\b.size<=64:=by omega
   refine loopY 268419084 b.size (fun i f=>(f 14).v=vi i /\ ∀ j<i,byteOk b j=true) rfl rfl ⟨by simp -dsimp -implicitDefEqProofs only [go_sem,seval],by simp⟩ ?_
   rintro i f u kk bb hi ⟨h14,hall⟩
   have hw:=wrapS i (by omega)
   simp -dsimp -implicitDefEqProofs only [go_sem,seval,h14]
   refine csplit (fun h => ?_) (fun h => ?_) <;> (try simp only [bools] at h) <;> (try simp -dsimp -implicitDefEqProofs only [go_sem,seval, *])
   ·obtain ⟨c,hc⟩:=byte_get ‹i<b.size›
    simp -dsimp -implicitDefEqProofs only [go_sem,seval,h14,hc]
    repeat' (refine csplit (fun h => ?_) (fun h => ?_) <;> (try simp only [bools] at h) <;> (try simp -dsimp -implicitDefEqProofs only [go_sem,seval, *]))
    ·rw [label_no ‹i<b.size› (by simp [byteOk,hc]; omega)]
    ·rw [label_no ‹i<b.size› (by simp [byteOk,hc]; omega)]
    ·refine ⟨by omega,by simp -dsimp -implicitDefEqProofs only [go_sem,seval,hw],fun j hj => ?_⟩
     by_cases hji:j=i
     ·subst hji; simp [byteOk,hc]; omega
     ·exact hall j (by omega)
   ·have:isLabel b=true:=by
     simp only [isLabel,hsz,and_self,decide_true,Bool.true_and,List.all_eq_true,List.mem_range]
     exact fun j hj=>hall j (by omega)
    rw [this]
namespace Expr
mutual
def lv:Expr->List Expr
 | .mk o w n []=>[.mk o w n []]
 | .mk o w n (k::ks)=>lv k++lvs ks
def lvs:List Expr->List Expr
 | []=>[]
 | e::r=>lv e++lvs r
end
theorem lvs_eq : ∀ l:List Expr,lvs l=l.flatMap lv
 | []=>rfl
 | e::r=>by rw [lvs,lvs_eq r]; rfl
theorem lv_eq (e:Expr):lv e=if e.kids=[] then [e] else e.kids.flatMap lv:=by
 obtain ⟨o,w,n,ks⟩:=e
 cases ks with
 | nil=>simp [lv,Expr.kids]
 | cons k ks=>simp [lv,lvs_eq,Expr.kids]
end Expr
def Sh (h:Nat->Option O) (v:V) (e:Expr):Prop :=
 v = .t (.ip [ti e.op,ti e.w,ti e.n, .sl (e.kids.map Expr.enc)]) \/
 ∃ k fz,v = .mp k 0 0/\h k=some (.rows 4 [[.t (ti e.op), .t (ti e.w), .t (ti e.n), .t (.sl (e.kids.map Expr.enc))]] fz)
theorem leaves_den {σ:Type} (g:Nat) (cp:List V) (I:σ->(Nat->Option O)->Prop) (step:σ->Expr->σ) (lc:Expr->Bool)
 (hstep : ∀ s h n v x,I s h->x.kids=[]->lc x=true->Sh h v x -> ∃ r h' n',DenR Γ G g (v::cp) h n=some (r,h',n')/\I (step s x) h') :
 ∀ (e:Expr) (v:V) (s:σ) (h:Nat->Option O) (n:Nat),e.allE (fun x=>lc x&&decide (x.kids.length<=3))=true->I s h->(∀ s h,I s h->Sh h v e) ->
  ∃ r h' n',DenR Γ G 76 [v, .fn g [] cp] h n=some (r,h',n')/\I (e.lv.foldl step s) h' := by
 intro e
 induction e using Expr.ind with
 | _ e ih =>
 intro v s H n hall hI hv
 have hself:=Expr.allE_self hall
 simp only [Bool.and_eq_true,decide_eq_true_eq] at hself
 (refine denR_ofY Γ76 rfl ?_; dsimp only [f76])
 by_cases hk:e.kids=[]
 ·have hsh:=hv s H hI
  have hlv:e.lv=[e]:=by rw [Expr.lv_eq,if_pos hk]
  rw [hlv]
  have hS : ∀ n, ∃ r h' n',DenR Γ G g (v::cp) H n=some (r,h',n')/\I (step s e) h' := fun n=>hstep s H n v e hI hk hself.1 hsh
  rcases hsh with rfl | ⟨k,fz,rfl,hkk⟩
  ·simp only [hk,List.map_nil] at hS
   simp -dsimp -implicitDefEqProofs only [go_sem,seval,hk]
   refine rawK_of (hS _) ?_
   intro r h' n' hI'
   simp -dsimp -implicitDefEqProofs only [go_sem,seval,hk]
   refine wL_step ?_
   simp -dsimp -implicitDefEqProofs only [go_sem,seval]
   exact hI'
  ·simp -dsimp -implicitDefEqProofs only [go_sem,seval,hk,hkk]
   refine rawK_of (hS _) ?_
   intro r h' n' hI'
   have:=hv _ _ hI'
   rcases this with h0 | ⟨k',fz',h0,hkk'⟩
   ·cases h0
   ·cases h0
    simp -dsimp -implicitDefEqProofs only [go_sem,seval,hk,hkk']
    refine wL_step ?_
    simp -dsimp -implicitDefEqProofs only [go_sem,seval]
    exact hI'
 ·have hlv:e.lv=e.kids.flatMap Expr.lv:=by rw [Expr.lv_eq,if_neg hk]
  have hpos : ¬ e.kids.length=0:=by simpa using hk
  have hpos' : ¬ (e.kids.length:Int)=0:=by omega
  rw [hlv]
  have hend : ∀ i,i=e.kids.length->(e.kids.take i).flatMap Expr.lv=e.kids.flatMap Expr.lv:=by rintro i rfl; rw [List.take_length]
  rcases hv s H hI with rfl | ⟨k,fz,rfl,hkk⟩
  ·simp -dsimp -implicitDefEqProofs only [go_sem,seval,hpos']
   refine loopYH 2146959376 e.kids.length (fun i f hh x=>(f 19).v=vi i/\I (((e.kids.take i).flatMap Expr.lv).foldl step s) hh) rfl ⟨by simp -dsimp -implicitDefEqProofs only [go_sem,seval],by simpa using hI⟩ ?_
   rintro i f u hh x bs hi ⟨h19,hI'⟩
   have hwi:=wrapS i (by omega)
   simp -dsimp -implicitDefEqProofs only [go_sem,seval,h19]
   refine csplit (fun h => ?_) (fun h => ?_) <;> (try simp only [bools] at h) <;> (try simp -dsimp -implicitDefEqProofs only [go_sem,seval, *])
   ·obtain ⟨y,hy,hm⟩:=get_of ‹i<e.kids.length›
    simp -dsimp -implicitDefEqProofs only [go_sem,seval,h19,hy]
    refine rawK_of (ih y hm _ _ _ _ (Expr.allE_kid hall hm) hI' (fun _ _ _ => .inl rfl)) ?_
    intro r h' n' hI2
    simp -dsimp -implicitDefEqProofs only [go_sem,seval,h19]
    refine ⟨by omega,by simp -dsimp -implicitDefEqProofs only [go_sem,seval,hwi], ?_⟩
    rw [take_succ_of hy,List.flatMap_append,List.foldl_append]
    simpa using hI2
   ·rw [hend i (by omega)] at hI'
    exact hI'
  ·simp -dsimp -implicitDefEqProofs only [go_sem,seval,hpos',hkk]
   refine loopYH 2146959376 e.kids.length (fun i f hh x=>(f 19).v=vi i/\I (((e.kids.take i).flatMap Expr.lv).foldl step s) hh) rfl ⟨by simp -dsimp -implicitDefEqProofs only [go_sem,seval],by simpa using hI⟩ ?_
   rintro i f u hh x bs hi ⟨h19,hI'⟩
   have hwi:=wrapS i (by omega)
   have hkk2 : ∃ fz',hh k=some (.rows 4 [[.t (ti e.op), .t (ti e.w), .t (ti e.n), .t (.sl (e.kids.map Expr.enc))]] fz'):=by
    rcases hv _ _ hI' with h0 | ⟨k',fz',h0,hkk'⟩
    ·cases h0
    ·cases h0; exact ⟨fz',hkk'⟩
   obtain ⟨fz',hkk2⟩:=hkk2
   simp -dsimp -implicitDefEqProofs only [go_sem,seval,h19]
   refine csplit (fun h => ?_) (fun h => ?_) <;> (try simp only [bools] at h) <;> (try simp -dsimp -implicitDefEqProofs only [go_sem,seval, *])
   ·obtain ⟨y,hy,hm⟩:=get_of ‹i<e.kids.length›
    simp -dsimp -implicitDefEqProofs only [go_sem,seval,h19,hy,hkk2]
    refine rawK_of (ih y hm _ _ _ _ (Expr.allE_kid hall hm) hI' (fun _ _ _ => .inl rfl)) ?_
    intro r h' n' hI2
    simp -dsimp -implicitDefEqProofs only [go_sem,seval,h19]
    refine ⟨by omega,by simp -dsimp -implicitDefEqProofs only [go_sem,seval,hwi], ?_⟩
    rw [take_succ_of hy,List.flatMap_append,List.foldl_append]
    simpa using hI2
   ·rw [hend i (by omega)] at hI'
    exact hI'
end Rg
end
section
-- FULL
namespace Rg
open Go
def lcV (x:Expr):Bool:=decide (0<=x.n/\(x.kids=[]->x.op=1\/x.op=2\/x.op=3))
def IV (cells:List Cell) (pair:Bool) (k3 k4 k5 k7:Nat) (e:Expr) (s:Bool) (h:Nat->Option O):Prop :=
 h k7=some (.rows 1 [[vb s]] false)/\h k4=some (.rows 1 [[.t (.sl (cells.map Cell.enc))]] false)/\h k5=some (.rows 1 [[vb pair]] false) /\
 h k3=some (.rows 4 [[.t (ti e.op), .t (ti e.w), .t (ti e.n), .t (.sl (e.kids.map Expr.enc))]] false)
theorem valid1_den (cells:List Cell) (pair:Bool) (k3 k4 k5 k7:Nat) (e:Expr) (h4:k4≠k7) (h5:k5≠k7) (h3:k3≠k7) (s:Bool) (H:Nat->Option O) (n:Nat) (v:V) (x:Expr)
 (hI:IV cells pair k3 k4 k5 k7 e s H) (hk:x.kids=[]) (hl:lcV x=true) (hs:Sh H v x) :
 ∃ r h' n',DenR Γ G 136 [v, .mp k4 0 0, .mp k5 0 0, .mp k7 0 0] H n=some (r,h',n')/\IV cells pair k3 k4 k5 k7 e (s&&leafOk cells pair x) h' := by
 obtain ⟨i7,i4,i5,i3⟩:=hI
 simp only [lcV,decide_eq_true_eq] at hl
 obtain ⟨hn0,hop⟩:=hl
 have hop:=hop hk
 (refine denR_ofY Γ136 rfl ?_; dsimp only [f136])
 have yes : ∀ h',h' = H->leafOk cells pair x=true->IV cells pair k3 k4 k5 k7 e (s&&leafOk cells pair x) h' := fun h' he hh=>by
  rw [hh,Bool.and_true,he]; exact ⟨i7,i4,i5,i3⟩
 have no : ∀ h',h' = updC H k7 (some (.rows 1 [[vb false]] false))->leafOk cells pair x=false->IV cells pair k3 k4 k5 k7 e (s&&leafOk cells pair x) h' := fun h' he hh=>by
  rw [hh,Bool.and_false,he]
  refine ⟨by simp [updC_at],by simp [updC_at,h4,i4],by simp [updC_at,h5,i5],by simp [updC_at,h3,i3]⟩
 rcases hc:cells[x.n.toNat]? with _ | c
 ·have hge:x.n>=(cells.length:Int):=by rw [List.getElem?_eq_none_iff] at hc; omega
  rcases hs with rfl | ⟨k,fz,rfl,hkk⟩
  ·rcases hop with ho | ho | ho
   all_goals (
    simp -dsimp -implicitDefEqProofs [go_sem,i7,i4,i5,ho,hge]
    repeat' (refine csplit (fun h => ?_) (fun h => ?_) <;> (try simp only [bools] at h) <;> (try simp -dsimp -implicitDefEqProofs [go_sem, *]))
    all_goals (first | exact no _ (by simp -dsimp -implicitDefEqProofs [go_sem]) (by simp [leafOk,ho,hc]) | exact yes _ rfl (by simp [leafOk,ho,hc])))
  ·rcases hop with ho | ho | ho
   all_goals (
    simp -dsimp -implicitDefEqProofs [go_sem,i7,i4,i5,ho,hge,hkk]
    repeat' (refine csplit (fun h => ?_) (fun h => ?_) <;> (try simp only [bools] at h) <;> (try simp -dsimp -implicitDefEqProofs [go_sem, *]))
    all_goals (first | exact no _ (by simp -dsimp -implicitDefEqProofs [go_sem]) (by simp [leafOk,ho,hc]) | exact yes _ rfl (by simp [leafOk,ho,hc])))
 ·have hge : ¬ x.n>=(cells.length:Int):=by
   have:=(List.getElem?_eq_some_iff.1 hc).1; omega
  rcases hs with rfl | ⟨k,fz,rfl,hkk⟩
  ·rcases hop with ho | ho | ho
   all_goals (
    simp -dsimp -implicitDefEqProofs [go_sem,i7,i4,i5,ho,hge,hc,hn0]
    repeat' (refine csplit (fun h => ?_) (fun h => ?_) <;> (try simp only [bools] at h) <;> (try simp -dsimp -implicitDefEqProofs [go_sem, *]))
    all_goals (first | exact no _ (by simp -dsimp -implicitDefEqProofs [go_sem]) (by simp [leafOk, *]) | exact yes _ rfl (by simp [leafOk, *])))
  ·rcases hop with ho | ho | ho
   all_goals (
    simp -dsimp -implicitDefEqProofs [go_sem,i7,i4,i5,ho,hge,hc,hn0,hkk]
    repeat' (refine csplit (fun h => ?_) (fun h => ?_) <;> (try simp only [bools] at h) <;> (try simp -dsimp -implicitDefEqProofs [go_sem, *]))
    all_goals (first | exact no _ (by simp -dsimp -implicitDefEqProofs [go_sem]) (by simp [leafOk, *]) | exact yes _ rfl (by simp [leafOk, *])))
theorem foldl_and (p:Expr->Bool) : ∀ (l:List Expr) (s:Bool),l.foldl (fun s x=>s&&p x) s=(s&&l.all p)
 | [],s=>by simp
 | x::l,s=>by simp only [List.foldl_cons,foldl_and p l,List.all_cons,Bool.and_assoc]
theorem lv_all {p:Expr->Bool} (hp : ∀ x:Expr,x.kids≠[]->nodeOk x=true->p x=true) (d:Nat) : ∀ e:Expr,e.deep d=true->e.allE p=e.lv.all p:=by
 induction d with
 | zero=>intro e h; simp [Expr.deep] at h
 | succ d ih =>
  intro e h
  rw [Expr.allE_eq,Expr.lv_eq]
  split
  ·rename_i hk; rw [hk]; simp
  ·rename_i hk
   rw [hp e hk (deep_node h),Bool.true_and]
   have : ∀ k∈e.kids,k.allE p=k.lv.all p:=fun k hk=>ih k (deep_kid h hk)
   generalize e.kids=ks at this
   induction ks with
   | nil=>rfl
   | cons k ks ih2 =>
    simp only [List.all_cons,List.flatMap_cons,List.all_append]
    rw [this k (by simp),ih2 (fun x hx=>this x (by simp [hx]))]
theorem kids_op {x:Expr} (hk:x.kids≠[]) (h:nodeOk x=true):4<=x.op:=by
 have ha:=node_arity h
 have:0<x.kids.length:=List.length_pos_iff.2 hk
 unfold arity at ha; grind
theorem leafOk_kids (cells:List Cell) (pair:Bool) {x:Expr} (hk:x.kids≠[]) (h:nodeOk x=true):leafOk cells pair x=true:=by
 have:=kids_op hk h
 unfold leafOk
 rw [if_neg (by omega),if_neg (by omega)]
theorem deep_lc (d:Nat) : ∀ e:Expr,e.deep d=true->e.allE (fun x=>lcV x&&decide (x.kids.length<=3))=true:=by
 induction d with
 | zero=>intro e h; simp [Expr.deep] at h
 | succ d ih =>
  intro e h
  rw [Expr.allE_eq]
  have hn:=deep_node h
  simp only [Bool.and_eq_true,List.all_eq_true,decide_eq_true_eq,lcV]
  refine ⟨⟨⟨nodeOk_n hn,fun hk => ?_⟩,nodeOk_len hn⟩,fun k hk => ?_⟩
  ·have ha:=node_arity hn
   rw [hk] at ha
   rcases op_cases e.op with hh | hh | hh | hh | hh | hh | hh | hh | hh | hh | hh | hh | hh | hh | hop
   ·exact .inl hh
   ·exact .inr (.inl hh)
   ·exact .inr (.inr hh)
   all_goals (try (rw [hh] at ha; simp [arity] at ha; done))
   rw [arity_bad hop] at ha; simp at ha
  ·have:=ih k (deep_kid h hk)
   simpa only [lcV] using this
theorem validP_den (e:Expr) (cells:List Cell) (pair:Bool):Den Γ G 107 [(.agg [.t (ti (e).op), .t (ti (e).w), .t (ti (e).n), .t (.sl ((e).kids.map (Expr.enc)))]), .t (.sl (cells.map Cell.enc)),vb pair]=some (vb (e.valid cells pair)):=by
 (refine den_ofY Γ107 rfl ?_; dsimp only [f107])
 have h1:=wellFormed_den e
 by_cases hf:e.formed=true
 ·simp -dsimp -implicitDefEqProofs [go_sem,h1,hf]
  have hd:=formed_deep hf
  refine rawK_of (leaves_den 136 _ (IV cells pair 0 1 2 7 e) (fun s x=>s&&leafOk cells pair x) lcV (valid1_den cells pair 0 1 2 7 e (by decide) (by decide) (by decide)) e _ true _ _ (deep_lc 40 e hd) ⟨by simp -dsimp -implicitDefEqProofs [go_sem],by simp -dsimp -implicitDefEqProofs [go_sem],by simp -dsimp -implicitDefEqProofs [go_sem],by simp -dsimp -implicitDefEqProofs [go_sem]⟩ (fun s h hI => .inr ⟨0,false,rfl,hI.2.2.2⟩)) ?_
  rintro r h' n' ⟨i7,_⟩
  simp -dsimp -implicitDefEqProofs [go_sem,i7]
  rw [foldl_and,Expr.valid,hf,lv_all (fun x=>leafOk_kids cells pair) 40 e hd]
 ·have hf:e.formed=false:=by simpa using hf
  simp -dsimp -implicitDefEqProofs [go_sem,h1,hf]
  simp [Expr.valid,hf]
end Rg
end
section
-- APPS
namespace Rg
open Go
def Own (h:Nat->Option O) (x:Nat) (v:V) (sz:Nat) (rows:List (List V)):Prop :=
 (v = .t .nils/\rows=[]) \/ ∃ k,v = .ms k 0 rows.length/\k<x/\h k=some (.rows sz rows false)
theorem mapM_some_of {α β:Type} (f:α->Option β) : ∀ (l:List α) (r:List β),(∀ i:Nat, ∀ a,l[i]? = some a -> ∃ b,r[i]? = some b/\f a=some b)->l.length=r.length->l.mapM f=some r
 | [],[],_,_=>rfl
 | [],_::_,_,h=>by simp at h
 | _::_,[],_,h=>by simp at h
 | a::l,b::r,h,hl=>by
  rw [List.mapM_cons]
  obtain ⟨b',hb,hf⟩:=h 0 a rfl
  simp at hb; subst hb
  rw [hf,mapM_some_of f l r (fun i a' ha=>by simpa using h (i+1) a' (by simpa using ha)) (by simpa using hl)]
  rfl
theorem rows_toT (h:Nat->Option O) (d:Nat) (es:List (List T)) (hn : ∀ e∈es, ∀ t∈e,T.norm t=t) :
 (es.map (·.map V.t)).mapM (fun row=>row.mapM (toT h d))=some es:=by
 refine mapM_some_of _ _ _ (fun i a ha => ?_) (by simp)
 rw [List.getElem?_map] at ha
 cases he:es[i]? with
 | none=>rw [he] at ha; simp at ha
 | some e =>
  rw [he] at ha
  simp only [Option.map_some,Option.some.injEq] at ha
  subst ha
  refine ⟨e,rfl, ?_⟩
  refine mapM_some_of _ _ _ (fun j b hb => ?_) (by simp)
  rw [List.getElem?_map] at hb
  cases ht:e[j]? with
  | none=>rw [ht] at hb; simp at hb
  | some t =>
   rw [ht] at hb
   simp only [Option.map_some,Option.some.injEq] at hb
   subst hb
   have:=hn e (List.mem_of_getElem? he) t (List.mem_of_getElem? ht)
   refine ⟨t,rfl, ?_⟩
   cases d <;> simp [toT,this]
theorem own_reify {h:Nat->Option O} {x:Nat} {v:V} {sz:Nat} {es:List (List T)} (ho:Own h x v sz (es.map (·.map V.t))) (hn : ∀ e∈es, ∀ t∈e,T.norm t=t) :
 toT h 1000 v=some (.sl es):=by
 rcases ho with ⟨rfl,he⟩ | ⟨k,rfl,hk,hh⟩
 ·have:es=[]:=by simpa using he
  subst this; rfl
 ·rw [toT,hh]
  simp only [rd,Nat.zero_add,Nat.le_refl,if_true,List.drop_zero,List.take_length,Option.bind_eq_bind,Option.bind_some]
  rw [rows_toT h 999 es hn]; rfl
theorem ints_norm (l:List Int) : ∀ e∈(l.map fun n=>[ti n]), ∀ t∈e,T.norm t=t:=by
 intro e he t ht
 obtain ⟨n,_,rfl⟩:=List.mem_map.1 he
 simp at ht; subst ht; rfl
def marked (l:List Bool) (i:Nat):List Int:=((List.range i).filter fun j=>l.getD j false).map fun j:Nat=>(j:Int)
theorem marked_succ (l:List Bool) (i:Nat):marked l (i+1)=marked l i++if l.getD i false then [(i:Int)] else []:=by
 unfold marked
 rw [List.range_succ,List.filter_append,List.map_append]
 cases h:l.getD i false <;> simp only [List.filter_cons,List.filter_nil,h,if_true,if_false,Bool.false_eq_true,List.map_nil,List.map_cons]
def rowsI (l:List Int):List (List V):=(l.map fun n=>[ti n]).map (·.map V.t)
theorem rowsI_len (l:List Int):(rowsI l).length=l.length:=by simp [rowsI]
theorem rowsI_app (l:List Int) (n:Int):rowsI (l++[n])=rowsI l++[[vi n]]:=by simp [rowsI]
theorem rowsI_all (l:List Int):((rowsI l).all fun r=>decide (r.length=1))=true:=by simp [rowsI]
theorem ne_add {k x:Nat} (h:k<x) (j:Nat) : ¬ k=x+j:=by omega
theorem ne_add2 {k x:Nat} (h:k<x) (j j' : Nat) : ¬ k=x+j+j' := by omega
theorem ne_add3 {k x:Nat} (h:k<x) (j j' j'' : Nat) : ¬ k=x+j+j' + j'' := by omega
end Rg
end
section
-- FULL
namespace Rg
open Go
theorem ghost_den (p:Prog) (c:Int) (x:Cell) (h0:0<=c) (hc:p.cells[c.toNat]? = some x):Den Γ G 163 [(.agg [.t (.sl ((p).cells.map (Cell.enc))), .t (.sl ((p).modules.map (Contract.enc))), .t (.sl ((p).locks.map (Lock.enc))), .t (.sl ((p).threads.map (Thread.enc)))]),vi c]=some (vb x.ghost):=by
 (refine den_ofY Γ163 rfl ?_; dsimp only [f163])
 simp -dsimp -implicitDefEqProofs [go_sem,h0,hc]
def ofThread (p:Prog) (t c:Int):Bool:=decide (0<=c)&&match p.cells[c.toNat]? with
 | some x=>decide (x.thread=t)
 | none=>false
theorem cell_in {p:Prog} {c:Int} (h:inR c p.cells.length=true):0<=c /\ ∃ x,p.cells[c.toNat]? = some x:=by
 simp only [inR,decide_eq_true_eq] at h
 exact ⟨h.1,_,List.getElem?_eq_getElem (by omega)⟩
theorem ofThread_out {p:Prog} {t c:Int} (h:inR c p.cells.length=false):ofThread p t c=false:=by
 simp only [inR,decide_eq_false_iff_not] at h
 unfold ofThread
 by_cases h0:0<=c
 ·have:p.cells[c.toNat]? = none:=List.getElem?_eq_none_iff.2 (by omega)
  simp [this]
 ·simp [h0]
theorem sharedP_den (p:Prog) (c:Int):Den Γ G 100 [(.agg [.t (.sl ((p).cells.map (Cell.enc))), .t (.sl ((p).modules.map (Contract.enc))), .t (.sl ((p).locks.map (Lock.enc))), .t (.sl ((p).threads.map (Thread.enc)))]),vi c]=some (vb (ofThread p (-1) c)):=by
 (refine den_ofY Γ100 rfl ?_; dsimp only [f100])
 have hb:=below_den c p.cells.length
 simp -dsimp -implicitDefEqProofs [go_sem,hb]
 refine csplit (fun h => ?_) (fun h => ?_) <;> (try simp only [bools] at h) <;> (try simp -dsimp -implicitDefEqProofs [go_sem, *])
 ·obtain ⟨h0,x,hx⟩:=cell_in h
  simp -dsimp -implicitDefEqProofs [go_sem,h0,hx,h]
  simp [ofThread,h0,hx]
 ·rw [ofThread_out h]
theorem ownP_den (p:Prog) (t c:Int):Den Γ G 146 [vi c, .t (.ip [.sl (p.cells.map Cell.enc), .sl (p.modules.map Contract.enc), .sl (p.locks.map Lock.enc), .sl (p.threads.map Thread.enc)]), .t (.ip [ti t])]=some (vb (ofThread p t c)):=by
 (refine den_ofY Γ146 rfl ?_; dsimp only [f146])
 have hb:=below_den c p.cells.length
 simp -dsimp -implicitDefEqProofs [go_sem,hb]
 refine csplit (fun h => ?_) (fun h => ?_) <;> (try simp only [bools] at h) <;> (try simp -dsimp -implicitDefEqProofs [go_sem, *])
 ·obtain ⟨h0,x,hx⟩:=cell_in h
  simp -dsimp -implicitDefEqProofs [go_sem,h0,hx,h]
  simp [ofThread,h0,hx]
 ·rw [ofThread_out h]
theorem toT1_trees (h:Nat->Option O) : ∀ c:List T,(∀ t∈c,T.norm t=t)->(c.map V.t).mapM (toT1 h)=some (c.map V.t)
 | [],_=>rfl
 | t::c,hn=>by
  rw [List.map_cons,List.mapM_cons,toT1_trees h c fun x hx=>hn x (by simp [hx])]
  have:toT1 h (.t t)=some (.t t):=by simp [toT1,toT,hn t (by simp)]
  rw [this]; rfl
theorem trees_all (c:List T):(c.map V.t).all V.tree=true:=by
 rw [List.all_eq_true]; intro v hv; obtain ⟨t,_,rfl⟩:=List.mem_map.1 hv; rfl
def IsP (g:Nat) (c:List T) (P:Int->Bool):Prop:=(∀ t∈c,T.norm t=t) /\ ∀ n:Int,Den Γ G g (vi n::c.map V.t)=some (vb (P n))
def IsF (F:T) (P:Int->Bool):Prop:=T.norm F=F /\ ∃ g a b,fnOf (.t F)=some (g,a,b)/\(∀ (h:Nat->Option O) (n:Int),(a++[vi n]++b).mapM (toT1 h)=some (a++[vi n]++b)) /\
 (∀ n:Int,(a++[vi n]++b).all V.tree=true) /\ ∀ n:Int,Den Γ G g (a++[vi n]++b)=some (vb (P n))
theorem fnK_of {v:V} {g:Nat} {a b:List V} (hf:fnOf v=some (g,a,b)) (K:Nat->List V->List V->Prop) (w:WK K):fnK (some v) K w=K g a b:=by
 simp only [fnK,hf]
theorem IsP.isF {g:Nat} {c:List T} {P:Int->Bool} (h:IsP g c P):IsF (.fn g [] c) P:=by
 refine ⟨rfl,g,[],c.map V.t,rfl,fun hh n => ?_,fun n => ?_,fun n => ?_⟩
 ·have:=toT1_trees hh (ti n::c) (fun t ht=>(List.mem_cons.1 ht).elim (fun e=>by rw [e]; rfl) (h.1 t))
  exact this
 ·exact trees_all (ti n::c)
 ·exact h.2 n
theorem isF_fa {g:Nat} {c:List T} {P:Int->Bool} (hn : ∀ t∈c,T.norm t=t) (hd : ∀ n:Int,Den Γ G g [.agg (c.map V.t),vi n]=some (vb (P n))):IsF (.fa g c) P:=by
 refine ⟨rfl,g,[.agg (c.map V.t)],[],rfl,fun hh n => ?_,fun n => ?_,fun n=>hd n⟩
 ·clear hd
  have h1:toT1 hh (.agg (c.map V.t))=some (.agg (c.map V.t)):=by
   have:(c.map V.t).mapM (toT hh 1000)=some c:=by
    induction c with
    | nil=>rfl
    | cons t c ih=>rw [List.map_cons,List.mapM_cons,ih fun x hx=>hn x (by simp [hx])]; simp [toT,hn t (by simp)]
   simp [toT1,this]
  rw [List.append_nil,List.cons_append,List.nil_append,List.mapM_cons,List.mapM_cons,h1]; rfl
 ·simp [V.tree]
theorem index_den (F:T) (P:Int->Bool) (hP:IsF F P) (l:List Int) (hl:l.length<2^50) :
 Den Γ G 145 [.t (ints l), .t F]=some (vi (match l.findIdx? P with | some i=>i | none => -1)):=by
 (refine den_ofY Γ145 rfl ?_; dsimp only [f145])
 obtain ⟨_,g,a,b,hf,hm,ha,hd⟩:=hP
 have hK:=fnK_of hf
 simp -dsimp -implicitDefEqProofs only [go_sem,seval]
 refine loopY 524080 l.length (fun i f=>(f 8).v=vi i /\ ∀ x∈l.take i,P x=false) rfl rfl ⟨by simp -dsimp -implicitDefEqProofs only [go_sem,seval],by simp⟩ ?_
 rintro i f u kk bb hi ⟨h8,hall⟩
 have hw:=wrapS i (by omega)
 simp -dsimp -implicitDefEqProofs only [go_sem,seval,h8]
 refine csplit (fun h => ?_) (fun h => ?_) <;> (try simp only [bools] at h) <;> (try simp -dsimp -implicitDefEqProofs only [go_sem,seval, *])
 ·obtain ⟨y,hy,hm'⟩:=get_of ‹i<l.length›
  simp -dsimp -implicitDefEqProofs only [go_sem,seval,h8,hy,hK,hm,ha,hd]
  refine csplit (fun h => ?_) (fun h => ?_) <;> (try simp only [bools] at h) <;> (try simp -dsimp -implicitDefEqProofs only [go_sem,seval, *])
  ·have:l.findIdx? P=some i:=by
    rw [List.findIdx?_eq_some_iff_getElem]
    have hlt:i<l.length := ‹i<l.length›
    have hyl:l[i]=y:=by rw [List.getElem?_eq_getElem hlt] at hy; exact Option.some.inj hy
    refine ⟨hlt,by rw [hyl]; exact h,fun j hj => ?_⟩
    have:=hall l[j] (by rw [List.mem_take_iff_getElem]; exact ⟨j,by omega,rfl⟩)
    simp [this]
   rw [this]
  ·refine ⟨by omega,by simp -dsimp -implicitDefEqProofs only [go_sem,seval,hw],fun x hx => ?_⟩
   rw [take_succ_of hy] at hx
   rcases List.mem_append.1 hx with hx | hx
   ·exact hall x hx
   ·rw [List.mem_singleton.1 hx]; exact h
 ·have:i=l.length:=by omega
  subst this
  rw [List.take_length] at hall
  have:l.findIdx? P=none:=by rw [List.findIdx?_eq_none_iff]; exact hall
  rw [this]
theorem contains_den (F:T) (P:Int->Bool) (hP:IsF F P) (l:List Int) (hl:l.length<2^50) :
 Den Γ G 131 [.t (ints l), .t F]=some (vb (l.any P)):=by
 (refine den_ofY Γ131 rfl ?_; dsimp only [f131])
 have hd:=index_den F P hP l hl
 have hn:=hP.1
 simp only [T.norm] at hn
 simp -dsimp -implicitDefEqProofs only [go_sem,seval,hd,hn]
 cases h:l.findIdx? P with
 | none =>
  rw [List.findIdx?_eq_none_iff] at h
  have:l.any P=false:=by rw [List.any_eq_false]; intro x hx; simp [h x hx]
  simp [this]
 | some i =>
  have:l.any P=true:=by
   rw [List.findIdx?_eq_some_iff_getElem] at h
   obtain ⟨hi,hp,_⟩:=h
   rw [List.any_eq_true]; exact ⟨_,List.getElem_mem hi,hp⟩
  simp [this]
theorem within1_den (F:T) (P:Int->Bool) (hP:IsF F P):IsP 132 [.ip [F]] (fun n => !P n):=by
 refine ⟨by simp [T.norm],fun n => ?_⟩
 (refine den_ofY Γ132 rfl ?_; dsimp only [f132])
 obtain ⟨_,g,a,b,hf,hm,ha,hd⟩:=hP
 have hK:=fnK_of hf
 simp -dsimp -implicitDefEqProofs only [go_sem,seval,hK,hm,ha,hd]
theorem within_den (F:T) (P:Int->Bool) (hP:IsF F P) (l:List Int) (hl:l.length<2^50) :
 Den Γ G 102 [.t (ints l), .t F]=some (vb (l.all P)):=by
 (refine den_ofY Γ102 rfl ?_; dsimp only [f102])
 have hn:=hP.1
 simp only [T.norm] at hn
 have hd:=contains_den _ _ (within1_den F P hP).isF l hl
 simp -dsimp -implicitDefEqProofs only [go_sem,seval,hd,hn]
 rw [List.all_eq_not_any_not]
end Rg
end
section
-- FULL
namespace Rg
open Go
def progT (p:Prog):T:=.ip [.sl (p.cells.map Cell.enc), .sl (p.modules.map Contract.enc), .sl (p.locks.map Lock.enc), .sl (p.threads.map Thread.enc)]
theorem ownIs (p:Prog) (t:Int):IsP 146 [progT p, .ip [ti t]] (ofThread p t):=⟨by simp [progT,T.norm],fun n=>ownP_den p t n⟩
theorem own_den (p:Prog) (t:Int):Den Γ G 133 [(.agg [.t (.sl ((p).cells.map (Cell.enc))), .t (.sl ((p).modules.map (Contract.enc))), .t (.sl ((p).locks.map (Lock.enc))), .t (.sl ((p).threads.map (Thread.enc)))]),vi t]=some (.t (.fn 146 [] [progT p, .ip [ti t]])):=by
 (refine den_ofY Γ133 rfl ?_; dsimp only [f133])
 simp -dsimp -implicitDefEqProofs [go_sem]
 rfl
def sees (p:Prog) (t c:Int):Bool:=ofThread p (-1) c||ofThread p t c
theorem visible_den (p:Prog) (t:Int):Den Γ G 104 [(.agg [.t (.sl ((p).cells.map (Cell.enc))), .t (.sl ((p).modules.map (Contract.enc))), .t (.sl ((p).locks.map (Lock.enc))), .t (.sl ((p).threads.map (Thread.enc)))]),vi t]=some (.t (.fn 134 [] [progT p, .ip [.fn 146 [] [progT p, .ip [ti t]]]])):=by
 (refine den_ofY Γ104 rfl ?_; dsimp only [f104])
 have h1:=own_den p t
 simp -dsimp -implicitDefEqProofs [go_sem,h1]
 rfl
theorem visibleIs (p:Prog) (t:Int):IsP 134 [progT p, .ip [.fn 146 [] [progT p, .ip [ti t]]]] (sees p t):=by
 refine ⟨by simp [progT,T.norm],fun n => ?_⟩
 (refine den_ofY Γ134 rfl ?_; dsimp only [f134])
 have h1:=sharedP_den p n
 have h2:=ownP_den p t n
 simp -dsimp -implicitDefEqProofs [go_sem,h1,progT]
 refine csplit (fun h => ?_) (fun h => ?_) <;> (try simp only [bools] at h) <;> (try simp -dsimp -implicitDefEqProofs [go_sem,progT, *])
 ·simp [sees,h]
 ·simp [sees,h]
end Rg
end
