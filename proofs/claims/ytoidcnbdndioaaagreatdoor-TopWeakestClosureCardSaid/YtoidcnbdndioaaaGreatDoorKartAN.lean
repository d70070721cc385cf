/- Part of the proof of laws of relyguardtop. No condition. -/
import Derived.Test.YtoidcnbdndioaaaGreatDoorKartAM
import Derived.Test.YtoidcnbdndioaaaGreatDoorKartAK
import Derived.Test.YtoidcnbdndioaaaGreatDoorKartAL
import Derived.Lib.ItoaLen
set_option linter.unusedSimpArgs false
set_option linter.unusedVariables false
section
namespace Rg
open Go
namespace Expr
mutual
def mapL (f:Expr->Expr):Expr->Expr
 | .mk o w n []=>f (.mk o w n [])
 | .mk o w n (k::ks)=> .mk o w n (mapL f k::zyA f ks)
def zyA (f:Expr->Expr):List Expr->List Expr
 | []=>[]
 | e::r=>mapL f e::zyA f r
end
theorem zLj (f:Expr->Expr): ∀l:List Expr,zyA f l=l.map (mapL f)
 | []=>rfl
 | e::r=>by rw[zyA,zLj f r];rfl
theorem mapL_leaf {f:Expr->Expr} {e:Expr} (h:e.kids=[]):e.mapL f=f e:=by
 obtain⟨o,w,n,ks⟩:=e
 cases ks with
 | nil=>rfl
 | cons k ks=>simp[Expr.kids]at h
theorem mapL_node {f:Expr->Expr} {e:Expr} (h:e.kids≠[]):e.mapL f= .mk e.op e.w e.n (e.kids.map (mapL f)):=by
 obtain⟨o,w,n,ks⟩:=e
 cases ks with
 | nil=>simp[Expr.kids]at h
 | cons k ks=>rw[mapL,zLj];rfl
end Expr
def Cut (h:Nat->Option O) (lo hi:Nat) (cs:List V) (e:Expr):Prop:=
 ∃x,cs=[.t (ti e.op),.t (ti e.w),.t (ti e.n),x]/\V.cells x=some [x]/\
  ∀h2 d,e.size<=d->(∀k,lo<=k->k<hi->h2 k=h k)->toT h2 d x=some (.sl (e.kids.map Expr.enc))
theorem Cut.mono {h h':Nat->Option O} {lo hi lo' AK:Nat} {cs:List V} {e:Expr} (c:Cut h lo hi cs e) (h1:lo'<=lo) (h2:hi<=AK) (hh: ∀k,lo<=k->k<hi->h' k=h k):Cut h' lo' AK cs e:=by
 obtain⟨x,hc,hx,ht⟩:=c;exact⟨x,hc,hx,fun g d hd hg=>ht g d hd fun k k1 k2=>(hg k (by omega) (by omega)).trans (hh k k1 k2)⟩
theorem Cut.tree (h:Nat->Option O) (lo hi:Nat) (e:Expr):Cut h lo hi [.t (ti e.op),.t (ti e.w),.t (ti e.n),.t (.sl (e.kids.map Expr.enc))] e:=
 ⟨_,rfl,rfl,fun _ d _ _=>by cases d<;>rfl⟩
theorem Cut.leaf (h:Nat->Option O) (lo hi:Nat) {e:Expr} (he:e.kids=[]):Cut h lo hi [.t (ti e.op),.t (ti e.w),.t (ti e.n),.t .nils] e:=
 ⟨_,rfl,rfl,fun _ d _ _=>by rw[he];cases d<;>rfl⟩
theorem zLw {h h2:Nat->Option O} {lo hi d:Nat}: ∀(rows:List (List V)) (ks:List Expr),rows.length=ks.length->(∀(j:Nat) r e,rows[j]? =some r->ks[j]? =some e->Cut h lo hi r e/\e.size<=d)->
 (∀k,lo<=k->k<hi->h2 k=h k)->rows.mapM (fun row=>row.mapM (toT h2 d))=some (ks.map Expr.enc)
 | [],[],_,_,_=>rfl
 | [],_::_,hl,_,_=>by simp at hl
 | _::_,[],hl,_,_=>by simp at hl
 | r::rows,e::ks,hl,hj,hh=>by
   have ih:=zLw rows ks (by simpa using hl) (fun j r e h1 h2=>hj (j+1) r e h1 h2) hh;obtain⟨⟨x,rfl,_,ht⟩,hd⟩:=hj 0 r e rfl rfl;have h0:=ht h2 d hd hh;have hn: ∀n:Int,toT h2 d (.t (ti n))=some (ti n):=fun n=>by cases d<;>rfl
   rw[List.mapM_cons,ih];simp only[List.mapM_cons,List.mapM_nil,hn,h0,Option.pure_def,zC,zD,List.map_cons,Expr.enc_eq]
theorem Cut.node {h:Nat->Option O} {lo hi k:Nat} {rows:List (List V)} {o w n:Int} {ks:List Expr} {fz:Bool} {len:Nat} (hl:rows.length=ks.length) (hn:len=ks.length)
 (hr: ∀(j:Nat) r e,rows[j]? =some r->ks[j]? =some e->Cut h lo hi r e) (hk:h k=some (.rows 4 rows fz)) (h1:lo<=k) (h2:k<hi):
 Cut h lo hi [.t (ti o),.t (ti w),.t (ti n),.ms k 0 len] (.mk o w n ks):=by
 subst hn;refine⟨_,rfl,rfl,fun g d hd hg=> ?_⟩;obtain⟨d,rfl⟩: ∃d',d=d'+1:=⟨d-1,by have:=Expr.size_pos (.mk o w n ks);omega⟩
 have AS:=Expr.size_eq (.mk o w n ks)
 have PW:=zLw (d:=d) rows ks hl (fun j r e a b=>⟨hr j r e a b,by
  have hm:e∈ks:=zL b;have:=Expr.size_kid (e:=.mk o w n ks) (k:=e) hm
  omega⟩) hg
 rw[toT,hg k h1 h2,hk];simp only[rd,Nat.zero_add,<- hl,Nat.le_refl,if_true,List.drop_zero,zC,zD,List.take_length];rw[PW];rfl
def zPP (g:Nat) (cp:List V) (n0:Nat) {σ:Type} (I:σ->(Nat->Option O)->Prop) (step:σ->Expr->σ) (leaf:Expr->Expr) (lc:Expr->Bool):Prop:=
 ∀s h n v x,I s h->x.kids=[]->lc x=true->Sh h v x->n0<=n->
  ∃r h' n',DenR Γ G g (v::cp) h n=some (r,h',n')/\(∃cs,r= .agg cs/\Cut h' n n' cs (leaf x))/\I (step s x) h'/\n<=n'/\ ∀k,n0<=k->h' k=h k
theorem zIp {σ:Type} (fv:V) (g:Nat) (cp:List V) (As:zfC fv=some (g,[],cp)) (TH:valOf fv=some fv) (n0:Nat) (I:σ->(Nat->Option O)->Prop) (step:σ->Expr->σ) (leaf:Expr->Expr) (lc:Expr->Bool)
 (hI: ∀s h h',I s h->(∀k,k<n0->h' k=h k)->I s h') (Fe:zPP g cp n0 I step leaf lc):
 ∀(e:Expr) (v:V) (s:σ) (h:Nat->Option O) (n:Nat),e.allE (fun x=>lc x&&decide (x.kids.length<=3))=true->I s h->n0<=n->(∀s h,I s h->Sh h v e)->
  ∃r h' n',DenR Γ G 52 [v,fv] h n=some (r,h',n')/\(∃cs,r= .agg cs/\Cut h' n n' cs (e.mapL leaf))/\I (e.lv.foldl step s) h'/\n<=n'/\ ∀k,n0<=k->k<n->h' k=h k:=by
 intro e
 induction e using Expr.ind with
 | _ e ih=>
 intro v s H n Aa TB hn hv;have DX:=Expr.allE_self Aa;simp only[zF,decide_eq_true_eq]at DX;have hK:= @zPC _ _ _ _ As
 (refine zay Γ52 rfl ?_;dsimp only[f52])
 by_cases hk:e.kids=[]
 ·have Bo:=hv s H TB;have F8:e.lv=[e]:=by rw[Expr.lv_eq,if_pos hk]
  rw[F8,Expr.mapL_leaf hk];have hS: ∀n,n0<=n->_:=fun n hn=>Fe s H n v e TB hk DX.1 Bo hn
  rcases Bo with rfl | ⟨k,fz,rfl,AB⟩
  ·simp only[hk,List.map_nil]at hS;simp -dsimp -implicitDefEqProofs only[go_sem,seval,hk,hK,TH];refine zas (hS _ (by omega)) ?_;rintro r h' n' ⟨⟨cs,rfl,x,rfl,hx,ht⟩,Hi,A5,A8⟩;simp -dsimp -implicitDefEqProofs only[go_sem,seval,hx];exact⟨⟨_,rfl,Cut.mono ⟨x,rfl,hx,ht⟩ (by omega) (by omega) (fun _ _ _=>rfl)⟩,Hi,by omega,fun k k1 _=>A8 k k1⟩
  ·simp -dsimp -implicitDefEqProofs only[go_sem,seval,hk,hK,TH,AB];refine zas (hS _ (by omega)) ?_;rintro r h' n' ⟨⟨cs,rfl,x,rfl,hx,ht⟩,Hi,A5,A8⟩;simp -dsimp -implicitDefEqProofs only[go_sem,seval,hx];exact⟨⟨_,rfl,Cut.mono ⟨x,rfl,hx,ht⟩ (by omega) (by omega) (fun _ _ _=>rfl)⟩,Hi,by omega,fun k k1 _=>A8 k k1⟩
 ·have Bk:=Expr.mapL_node (f:=leaf) hk;have F8:e.lv=e.kids.flatMap Expr.lv:=by rw[Expr.lv_eq,if_neg hk]
  have CB: ¬e.kids.length=0:=by simpa using hk
  have I0: ¬(e.kids.length:Int)=0:=by omega
  have A5:(e.kids.length:Int)<=4294967296:=by omega
  rw[F8,Bk];rcases hv s H TB with rfl | ⟨k,fz,rfl,AB⟩
  ·simp -dsimp -implicitDefEqProofs only[go_sem,seval,I0,A5,Int.le_refl]
   refine zaq 549739036736 e.kids.length (fun i f hh x=>(f 24).v=vi i/\n+1+6+5<x/\ ∃rows:List (List V),rows.length=i/\
    hh (n+1+6+5)=some (.rows 4 (rows++List.replicate (e.kids.length-i) [V.t (T.int IntKind.i64 0),V.t (T.int IntKind.i64 0),V.t (T.int IntKind.i64 0),V.t T.nils]) false)/\
    (∀(j:Nat) r y,rows[j]? =some r->e.kids[j]? =some y->Cut hh (n+1+6+5+1) x r (y.mapL leaf))/\I (((e.kids.take i).flatMap Expr.lv).foldl step s) hh/\ ∀k,n0<=k->k<n->hh k=H k) rfl
    ⟨by simp -dsimp -implicitDefEqProofs only[go_sem,seval],by simp -dsimp -implicitDefEqProofs only[go_sem,seval];omega,[],rfl,by simp -dsimp -implicitDefEqProofs only[go_sem,seval];simp,(fun j r y h=>by simp at h),?_,fun k k1 k2=> ?_⟩ ?_
   ·simp -dsimp -implicitDefEqProofs only[go_sem,seval];simp only[List.take_zero,List.flatMap_nil,List.foldl_nil];exact hI _ _ _ TB fun k hk=>by rw[zaa,if_neg (by omega)]
   ·simp -dsimp -implicitDefEqProofs only[go_sem,seval];rw[if_neg (by omega)]
   rintro i f u hh x bs hi ⟨IL,hx,rows,Bb,Ap,SK,Hi,A8⟩;have BF:=zan i (by omega);simp -dsimp -implicitDefEqProofs only[go_sem,seval,IL];refine zac (fun h=> ?_) (fun h=> ?_)<;>(try simp only[zah]at h)<;>(try simp -dsimp -implicitDefEqProofs only[go_sem,seval, *])
   ·obtain⟨y,hy,hm⟩:=zai ‹i<e.kids.length›;have Ad:i<e.kids.length:= ‹i<e.kids.length›;simp -dsimp -implicitDefEqProofs only[go_sem,seval,IL,hy,TH];refine zas (ih y hm _ _ _ _ (Expr.allE_kid Aa hm) Hi (by omega) (fun _ _ _=> .inl rfl)) ?_;rintro r h' n' ⟨⟨cs,rfl,hc⟩,IG,HV,GK⟩;have CM:=hc;obtain⟨z,rfl,hz,_⟩:=CM;have Gw:=GK (n+1+6+5) (by omega) (by omega);rw[Ap]at Gw
    have Ag:(rows++List.replicate (e.kids.length-i) [V.t (T.int IntKind.i64 0),V.t (T.int IntKind.i64 0),V.t (T.int IntKind.i64 0),V.t T.nils])[i]? =some [V.t (T.int IntKind.i64 0),V.t (T.int IntKind.i64 0),V.t (T.int IntKind.i64 0),V.t T.nils]:=by
     rw[List.getElem?_append_right (by omega),Bb,Nat.sub_self,List.getElem?_replicate,if_pos (by omega)]
    have E8: ∀c:List V,(rows++List.replicate (e.kids.length-i) [V.t (T.int IntKind.i64 0),V.t (T.int IntKind.i64 0),V.t (T.int IntKind.i64 0),V.t T.nils]).set i c=(rows++[c])++List.replicate (e.kids.length-(i+1)) [V.t (T.int IntKind.i64 0),V.t (T.int IntKind.i64 0),V.t (T.int IntKind.i64 0),V.t T.nils]:=by
     intro c;rw[show e.kids.length-i=(e.kids.length-(i+1))+1 by omega,List.replicate_succ,<- Bb,List.set_append_right _ _ (Nat.le_refl _),Nat.sub_self,List.set_cons_zero,zQ];rfl
    simp -dsimp -implicitDefEqProofs only[go_sem,seval,IL,Gw,Ag,E8,Ad];refine⟨Ad,by simp -dsimp -implicitDefEqProofs only[go_sem,seval,BF],by simp -dsimp -implicitDefEqProofs only[go_sem,seval];omega,rows++[[V.t (ti (y.mapL leaf).op),V.t (ti (y.mapL leaf).w),V.t (ti (y.mapL leaf).n),z]],by simp[Bb],by simp -dsimp -implicitDefEqProofs only[go_sem,seval],?_,?_,?_⟩
    ·simp -dsimp -implicitDefEqProofs only[go_sem,seval];intro j r w hr hw
     by_cases hj:j<rows.length
     ·rw[List.getElem?_append_left hj]at hr;refine(SK j r w hr hw).mono (Nat.le_refl _) (by omega) fun k k1 k2=> ?_
      rw[zaa,if_neg (by omega)];exact GK k (by omega) (by omega)
     ·have H1:j=i:=by
       have:=(zH.1 hr).1;simp at this;omega
      subst H1;rw[List.getElem?_append_right (by omega),Bb,Nat.sub_self]at hr;simp only[List.getElem?_cons_zero,zA]at hr;rw[hy]at hw;simp only[zA]at hw;subst hr hw;refine hc.mono (by omega) (by omega) fun k k1 k2=> ?_
      rw[zaa,if_neg (by omega)]
    ·simp -dsimp -implicitDefEqProofs only[go_sem,seval];rw[zaf hy,List.flatMap_append,List.foldl_append];simp only[List.flatMap_cons,List.flatMap_nil,List.append_nil];exact hI _ _ _ IG fun k hk=>by rw[zaa,if_neg (by omega)]
    ·simp -dsimp -implicitDefEqProofs only[go_sem,seval];intro k k1 k2;rw[if_neg (by omega),GK k k1 (by omega)];exact A8 k k1 k2
   ·have:i=e.kids.length:=by omega
    subst this;rw[List.take_length]at Hi;rw[Nat.sub_self,List.replicate_zero,List.append_nil]at Ap;have Iq: ∀a b,x<=addC (addC x a) b:=fun a b=>Nat.le_trans (zhI _ _) (zhI _ _)
    refine⟨⟨_,rfl,?_⟩,Hi,Nat.le_trans (by omega) (Iq _ _),A8⟩;refine Cut.node (rows:=rows) (by simp[Bb]) (by simp) ?_ Ap (by omega) (Nat.lt_of_lt_of_le hx (Iq _ _));intro j r y h1 h2;rw[zJ,zE]at h2;obtain⟨y,hy,rfl⟩:=h2;exact(SK j r y h1 hy).mono (by omega) (Iq _ _) fun _ _ _=>rfl
  ·simp -dsimp -implicitDefEqProofs only[go_sem,seval,I0,A5,Int.le_refl,AB]
   refine zaq 549739036736 e.kids.length (fun i f hh x=>(f 24).v=vi i/\n+1+6+5<x/\ ∃rows:List (List V),rows.length=i/\
    hh (n+1+6+5)=some (.rows 4 (rows++List.replicate (e.kids.length-i) [V.t (T.int IntKind.i64 0),V.t (T.int IntKind.i64 0),V.t (T.int IntKind.i64 0),V.t T.nils]) false)/\
    (∀(j:Nat) r y,rows[j]? =some r->e.kids[j]? =some y->Cut hh (n+1+6+5+1) x r (y.mapL leaf))/\I (((e.kids.take i).flatMap Expr.lv).foldl step s) hh/\ ∀k,n0<=k->k<n->hh k=H k) rfl
    ⟨by simp -dsimp -implicitDefEqProofs only[go_sem,seval],by simp -dsimp -implicitDefEqProofs only[go_sem,seval];omega,[],rfl,by simp -dsimp -implicitDefEqProofs only[go_sem,seval];simp,(fun j r y h=>by simp at h),?_,fun q k1 k2=> ?_⟩ ?_
   ·simp -dsimp -implicitDefEqProofs only[go_sem,seval];simp only[List.take_zero,List.flatMap_nil,List.foldl_nil];exact hI _ _ _ TB fun q hk=>by rw[zaa,if_neg (by omega)]
   ·simp -dsimp -implicitDefEqProofs only[go_sem,seval];rw[if_neg (by omega)]
   rintro i f u hh x bs hi ⟨IL,hx,rows,Bb,Ap,SK,Hi,A8⟩;have BF:=zan i (by omega)
   have J5: ∃fz',hh k=some (.rows 4 [[.t (ti e.op),.t (ti e.w),.t (ti e.n),.t (.sl (e.kids.map Expr.enc))]] fz'):=by
    rcases hv _ _ Hi with h0 | ⟨k',fz',h0,J6⟩
    ·cases h0
    ·cases h0;exact⟨fz',J6⟩
   obtain⟨fz',J5⟩:=J5;simp -dsimp -implicitDefEqProofs only[go_sem,seval,IL];refine zac (fun h=> ?_) (fun h=> ?_)<;>(try simp only[zah]at h)<;>(try simp -dsimp -implicitDefEqProofs only[go_sem,seval, *])
   ·obtain⟨y,hy,hm⟩:=zai ‹i<e.kids.length›;have Ad:i<e.kids.length:= ‹i<e.kids.length›;simp -dsimp -implicitDefEqProofs only[go_sem,seval,IL,hy,TH,J5];refine zas (ih y hm _ _ _ _ (Expr.allE_kid Aa hm) Hi (by omega) (fun _ _ _=> .inl rfl)) ?_;rintro r h' n' ⟨⟨cs,rfl,hc⟩,IG,HV,GK⟩;have CM:=hc;obtain⟨z,rfl,hz,_⟩:=CM;have Gw:=GK (n+1+6+5) (by omega) (by omega);rw[Ap]at Gw
    have Ag:(rows++List.replicate (e.kids.length-i) [V.t (T.int IntKind.i64 0),V.t (T.int IntKind.i64 0),V.t (T.int IntKind.i64 0),V.t T.nils])[i]? =some [V.t (T.int IntKind.i64 0),V.t (T.int IntKind.i64 0),V.t (T.int IntKind.i64 0),V.t T.nils]:=by
     rw[List.getElem?_append_right (by omega),Bb,Nat.sub_self,List.getElem?_replicate,if_pos (by omega)]
    have E8: ∀c:List V,(rows++List.replicate (e.kids.length-i) [V.t (T.int IntKind.i64 0),V.t (T.int IntKind.i64 0),V.t (T.int IntKind.i64 0),V.t T.nils]).set i c=(rows++[c])++List.replicate (e.kids.length-(i+1)) [V.t (T.int IntKind.i64 0),V.t (T.int IntKind.i64 0),V.t (T.int IntKind.i64 0),V.t T.nils]:=by
     intro c;rw[show e.kids.length-i=(e.kids.length-(i+1))+1 by omega,List.replicate_succ,<- Bb,List.set_append_right _ _ (Nat.le_refl _),Nat.sub_self,List.set_cons_zero,zQ];rfl
    simp -dsimp -implicitDefEqProofs only[go_sem,seval,IL,Gw,Ag,E8,Ad];refine⟨Ad,by simp -dsimp -implicitDefEqProofs only[go_sem,seval,BF],by simp -dsimp -implicitDefEqProofs only[go_sem,seval];omega,rows++[[V.t (ti (y.mapL leaf).op),V.t (ti (y.mapL leaf).w),V.t (ti (y.mapL leaf).n),z]],by simp[Bb],by simp -dsimp -implicitDefEqProofs only[go_sem,seval],?_,?_,?_⟩
    ·simp -dsimp -implicitDefEqProofs only[go_sem,seval];intro j r w hr hw
     by_cases hj:j<rows.length
     ·rw[List.getElem?_append_left hj]at hr;refine(SK j r w hr hw).mono (Nat.le_refl _) (by omega) fun q k1 k2=> ?_
      rw[zaa,if_neg (by omega)];exact GK q (by omega) (by omega)
     ·have H1:j=i:=by
       have:=(zH.1 hr).1;simp at this;omega
      subst H1;rw[List.getElem?_append_right (by omega),Bb,Nat.sub_self]at hr;simp only[List.getElem?_cons_zero,zA]at hr;rw[hy]at hw;simp only[zA]at hw;subst hr hw;refine hc.mono (by omega) (by omega) fun q k1 k2=> ?_
      rw[zaa,if_neg (by omega)]
    ·simp -dsimp -implicitDefEqProofs only[go_sem,seval];rw[zaf hy,List.flatMap_append,List.foldl_append];simp only[List.flatMap_cons,List.flatMap_nil,List.append_nil];exact hI _ _ _ IG fun q hk=>by rw[zaa,if_neg (by omega)]
    ·simp -dsimp -implicitDefEqProofs only[go_sem,seval];intro q k1 k2;rw[if_neg (by omega),GK q k1 (by omega)];exact A8 q k1 k2
   ·have:i=e.kids.length:=by omega
    subst this;rw[List.take_length]at Hi;rw[Nat.sub_self,List.replicate_zero,List.append_nil]at Ap
    (try simp -dsimp -implicitDefEqProofs only[go_sem,seval,IL,J5])
    have Iq: ∀a b,x<=addC (addC x a) b:=fun a b=>Nat.le_trans (zhI _ _) (zhI _ _)
    refine⟨⟨_,rfl,?_⟩,Hi,Nat.le_trans (by omega) (Iq _ _),A8⟩;refine Cut.node (rows:=rows) (by simp[Bb]) (by simp) ?_ Ap (by omega) (Nat.lt_of_lt_of_le hx (Iq _ _));intro j r y h1 h2;rw[zJ,zE]at h2;obtain⟨y,hy,rfl⟩:=h2;exact(SK j r y h1 hy).mono (by omega) (Iq _ _) fun _ _ _=>rfl
end Rg
end
section
namespace Rg
open Go
theorem zIF (h:Nat->Option O) (n:Nat) (v:V) (e:Expr) (hs:Sh h v e):
 ∃r h' n',DenR Γ G 54 [v] h n=some (r,h',n')/\(r= .agg [.t (ti e.op),.t (ti e.w),.t (ti e.n),.t .nils]/\h'=h/\n<=n'):=by
 (refine zay Γ54 rfl ?_;dsimp only[f54])
 rcases hs with rfl | ⟨k,fz,rfl,AB⟩
 ·simp -dsimp -implicitDefEqProofs only[go_sem,seval];exact⟨rfl,rfl,Nat.le_trans (zhI _ _) (zhI _ _)⟩
 ·simp -dsimp -implicitDefEqProofs only[go_sem,seval,AB];exact⟨rfl,rfl,Nat.le_trans (zhI _ _) (zhI _ _)⟩
theorem zHN (e:Expr):e.mapL (fun x=>x)=e:=by
 induction e using Expr.ind with
 | _ e ih=>
 by_cases hk:e.kids=[]
 ·exact Expr.mapL_leaf hk
 ·rw[Expr.mapL_node hk]
  have:e.kids.map (Expr.mapL fun x=>x)=e.kids:=by
   have:=List.map_congr_left (f:=Expr.mapL fun x=>x) (g:=id) (l:=e.kids) fun k hk=>ih k hk
   simpa using this
  rw[this];obtain⟨o,w,n,ks⟩:=e;rfl
theorem zIJ (e:Expr) (hf:e.formed=true):Den Γ G 55 [(.agg [.t (ti (e).op),.t (ti (e).w),.t (ti (e).n),.t (.sl ((e).kids.map (Expr.enc)))])]=some (.agg [.t (ti (e).op),.t (ti (e).w),.t (ti (e).n),.t (.sl ((e).kids.map (Expr.enc)))]):=by
 (refine zag Γ55 rfl ?_;dsimp only[f55])
 simp -dsimp -implicitDefEqProofs only[go_sem,seval]
 have AS:e.size<=1000:=by
  simp only[Expr.formed,zF,decide_eq_true_eq]at hf;omega
 refine zas (zIp (σ:=Unit) (.t (.fn 54 [] [])) 54 [] rfl rfl 1 (fun _ h=>h 0=some (.rows 4 [[.t (ti e.op),.t (ti e.w),.t (ti e.n),.t (.sl (e.kids.map Expr.enc))]] false)) (fun s _=>s) (fun x=>x) lcS
  (fun s h h' hI hk=>(hk 0 (by omega)).trans hI) ?_ e _ () _ _ (zpJ 40 e (zcp hf)) (by simp -dsimp -implicitDefEqProofs only[go_sem,seval]) (by omega) (fun s h hI=> .inr ⟨0,false,rfl,hI⟩)) ?_
 ·intro s h n v x hI hk _ hs hn;obtain⟨r,h',n',hd,rfl,rfl,A5⟩:=zIF h n v x hs;exact⟨_,_,_,hd,⟨_,rfl,Cut.leaf _ _ _ hk⟩,hI,A5,fun _ _=>rfl⟩
 ·rintro r h' n' ⟨⟨cs,rfl,x,rfl,hx,ht⟩,Hi,A5,A8⟩;rw[zHN]at ht⊢;have h1:=ht h' 1000 AS fun _ _ _=>rfl
  simp -dsimp -implicitDefEqProofs only[go_sem,seval,hx,h1]
def asg (set:List Assign) (c:Int):Option Expr:=(set.find? fun a=>decide (a.cell=c)).map Assign.to
end Rg
end
section
namespace Rg
open Go
theorem zLZ {e:Expr} (h:zbk e=true) (hk:e.kids≠[]):e.op≠1/\e.op≠2/\e.op≠3:=by
 have ha:=zct h;refine⟨fun ho=> ?_,fun ho=> ?_,fun ho=> ?_⟩<;>rw[ho]at ha<;>simp[zcO]at ha<;>exact hk (List.eq_nil_of_length_eq_zero (by omega))
theorem zLk {e x:Expr} (h:x∈e.lv):x.kids=[]:=by
 induction e using Expr.ind with
 | _ e ih=>
   rw[Expr.lv_eq]at h;split at h
   ·rename_i hk;rw[List.mem_singleton.1 h];exact hk
   ·obtain⟨k,hk,hx⟩:=List.mem_flatMap.1 h;exact ih k hk hx
theorem zMK {e k:Expr} (hk:k∈e.kids) {x:Expr} (hx:x∈k.lv):x∈e.lv:=by
 rw[Expr.lv_eq,if_neg (by intro h;rw[h]at hk;simp at hk)];exact List.mem_flatMap.2 ⟨k,hk,hx⟩
theorem zOQ {e:Expr} (hk:e.kids=[]):e∈e.lv:=by rw[Expr.lv_eq,if_pos hk];simp
theorem zKJ {x:Expr}: ∀{d:Nat} {e:Expr},e.deep d=true->x∈e.lv->zbk x=true:=by
 intro d
 induction d with
 | zero=>intro e h;simp[Expr.deep]at h
 | succ d ih=>
   intro e h hx;rw[Expr.lv_eq]at hx;split at hx
   ·rw[List.mem_singleton.1 hx];exact zcq h
   ·obtain⟨k,hk,hx⟩:=List.mem_flatMap.1 hx;exact ih (zc7 h hk) hx
theorem zHW {f:Expr->Bool} {x:Expr}: ∀{e:Expr},e.allE f=true->x∈e.lv->f x=true:=by
 intro e
 induction e using Expr.ind with
 | _ e ih=>
   intro h hx;rw[Expr.lv_eq]at hx;split at hx
   ·rw[List.mem_singleton.1 hx];exact Expr.allE_self h
   ·obtain⟨k,hk,hx⟩:=List.mem_flatMap.1 hx;exact ih k hk (Expr.allE_kid h hk) hx
theorem zHq {k:Nat}: ∀{d:Nat} {e:Expr},d<=k->e.deep d=true->e.deep k=true:=by
 induction k with
 | zero=>intro d e hd h;have:d=0:=by omega
         subst this;exact h
 | succ k ih=>
   intro d e hd h
   cases d with
   | zero=>simp[Expr.deep]at h
   | succ d=>
     simp only[Expr.deep,zF,zN]at h⊢;exact⟨h.1,fun x hx=>ih (by omega) (h.2 x hx)⟩
theorem zJq {f:Expr->Expr} {o1 m1 o2 m2:List Int}: ∀{d:Nat} {e:Expr},e.deep d=true->(∀x∈e.lv,(f x).ev o1 m1=x.ev o2 m2)->(e.mapL f).ev o1 m1=e.ev o2 m2:=by
 intro d
 induction d with
 | zero=>intro e h;simp[Expr.deep]at h
 | succ d ih=>
   intro e h hl
   by_cases hk:e.kids=[]
   ·rw[Expr.mapL_leaf hk];exact hl e (zOQ hk)
   ·obtain⟨n1,n2,n3⟩:=zLZ (zcq h) hk;rw[Expr.mapL_node hk,Expr.ev_eq,Expr.ev_eq o2 m2 e]
    have:(e.kids.map (Expr.mapL f)).map (Expr.ev o1 m1)=e.kids.map (Expr.ev o2 m2):=by
     rw[List.map_map];exact List.map_congr_left fun k hk=>ih (zc7 h hk) fun x hx=>hl x (zMK hk hx)
    simp only[go_sem,n1,n2,n3,if_false,this]
theorem zH7 {cells:List Cell} {e x:Expr} (h:e.valid cells false=true) (hx:x∈e.lv):x.kids=[]/\zbk x=true/\(x.op=1\/x.op=2/\0<=x.n/\x.n<32/\ ∃c,cells[x.n.toNat]? =some c/\c.w=x.w):=by
 simp only[Expr.valid,zF]at h;have hk:=zLk hx;have hn:=zKJ (zcp h.1) hx;have hl:=zHW h.2 hx;have hc:=zHW (zpJ 40 e (zcp h.1)) hx;simp only[lcS,zF,decide_eq_true_eq]at hc;refine⟨hk,hn,?_⟩;have h3:x.op≠3:=fun h3=>by simp[zb3,h3]at hl
 rcases hc.1.2 hk with h1 | ⟨h2 | h2,Ad⟩
 ·exact .inl h1
 ·refine .inr ⟨h2,hc.1.1,Ad,?_⟩;simp only[zb3,h2]at hl
  cases Fs:cells[x.n.toNat]? with
  | none=>simp[Fs]at hl
  | some c=>exact⟨c,rfl,by simpa[Fs]using hl⟩
 ·exact absurd h2 h3
end Rg
end
section
namespace Rg
open Go
theorem zHw (l:List Bool) (m:Nat) (n:Nat):(n:Int)∈zbJ l m<->n<m/\l.getD n false=true:=by
 unfold zbJ;simp only[List.mem_map,List.mem_filter,List.mem_range];constructor
 ·rintro⟨j,⟨hj,hg⟩,he⟩;have:j=n:=by omega
  subst this;exact⟨hj,hg⟩
 ·rintro⟨hj,hg⟩;exact⟨n,⟨hj,hg⟩,rfl⟩
theorem zHA (op:Int) (n:Nat): ∀(l:List Expr) (s:List Bool),s.getD n false=true->(l.foldl (zb2 op) s).getD n false=true
 | [],s,h=>h
 | x::l,s,h=>by
   rw[List.foldl_cons];refine zHA op n l _ ?_;unfold zb2;split
   ·rw[zK,List.getElem?_set];split
    ·split
     ·rfl
     ·rename_i he Ad;subst he;rw[zK,List.getElem?_eq_none (by omega)]at h;simp at h
    ·rw[<- zK];exact h
   ·exact h
theorem zIB (op:Int) {n:Nat}: ∀(l:List Expr) (s:List Bool),n<s.length->(∃x∈l,x.op=op/\x.n.toNat=n)->(l.foldl (zb2 op) s).getD n false=true
 | [],s,_,h=>by obtain⟨x,hx,_⟩:=h;simp at hx
 | y::l,s,hn,h=>by
   rw[List.foldl_cons]
   by_cases hy:y.op=op/\y.n.toNat=n
   ·refine zHA op n l _ ?_;rw[zb2,if_pos hy.1,zK,List.getElem?_set,if_pos hy.2,if_pos (by omega)];rfl
   ·refine zIB op l _ (by rw[zsg];exact hn) ?_;obtain⟨x,hx,h1⟩:=h;rcases List.mem_cons.1 hx with rfl | hx
    ·exact absurd h1 hy
    ·exact⟨x,hx,h1⟩
theorem zOc {e x:Expr} (hf:e.formed=true) (hx:x∈e.lv) (ho:x.op=2) (h0:0<=x.n) (h1:x.n<32):x.n∈e.sup 2:=by
 rw[Expr.sup,if_pos hf];have:=(zHw (e.occ 2) 32 x.n.toNat).2 ⟨by omega,zIB 2 e.lv _ (by simp;omega) ⟨x,hx,ho,rfl⟩⟩;rwa[show((x.n.toNat:Nat):Int)=x.n by omega]at this
end Rg
end
section
namespace Rg
open Go
def wOf (p:Prog) (c:Int):Nat:=match p.cells[c.toNat]? with
 | some x=>x.w.toNat
 | none=>0
def stM (p:Prog):List Int->Int->List Int->List Int
 | [],_,s=>s
 | c::r,n,s=>stM p r (n/ 2^wOf p c) (s.set c.toNat (n % 2^wOf p c))
def zcD (p:Prog) (l:List Int):Nat:=(l.map (wOf p)).sum
def zGE (p:Prog) (mem:List Int):List Int->Int
 | []=>0
 | c::r=>atI mem c % 2^wOf p c+2^wOf p c*zGE p mem r
theorem zlf {p:Prog}: ∀(l:List Int) (n:Int) (s:List Int),(stM p l n s).length=s.length
 | [],_,_=>rfl
 | c::r,n,s=>by rw[stM,zlf r];simp
theorem zHh {p:Prog} {j:Nat}: ∀{l:List Int} {n:Int} {s:List Int},(∀c∈l,c.toNat≠j)->(stM p l n s).getD j 0=s.getD j 0
 | [],_,_,_=>rfl
 | c::r,n,s,h=>by
   rw[stM,zHh fun x hx=>h x (by simp[hx])];have:=h c (by simp);simp[zK,List.getElem?_set,this]
theorem zHu {p:Prog} {mem:List Int}: ∀(l:List Int),0<=zGE p mem l/\zGE p mem l<2^zcD p l
 | []=>by simp[zGE,zcD]
 | c::r=>by
   obtain⟨h1,h2⟩:=zHu (p:=p) (mem:=mem) r;have hp:(0:Int)<2^wOf p c:=zcn _;have h3:=Int.emod_nonneg (atI mem c) (b:=2^wOf p c) (by omega);have h4:=Int.emod_lt_of_pos (atI mem c) hp
   have hb:(2:Int)^zcD p (c::r)=2^wOf p c*2^zcD p r:=by
    rw[zcD,List.map_cons,List.sum_cons,Int.pow_add];rfl
   rw[zGE,hb];constructor
   ·exact Int.add_nonneg h3 (Int.mul_nonneg (by omega) h1)
   ·have h5:(2:Int)^wOf p c*(zGE p mem r+1)<=2^wOf p c*2^zcD p r:=Int.mul_le_mul_of_nonneg_left (by omega) (by omega);rw[Int.mul_add]at h5;omega
theorem zKy {p:Prog} {mem:List Int}: ∀{l:List Int} {s:List Int},l.Pairwise (fun a b=>a.toNat≠b.toNat)->(∀c∈l,c.toNat<s.length)->
 ∀c∈l,atI (stM p l (zGE p mem l) s) c=atI mem c % 2^wOf p c
 | [],_,_,_,c,hc=>by simp at hc
 | x::r,s,hp,hl,c,hc=>by
   obtain⟨p1,p2⟩:=List.pairwise_cons.1 hp;have CB:(0:Int)<2^wOf p x:=zcn _;have h3:=Int.emod_nonneg (atI mem x) (b:=2^wOf p x) (by omega);have h4:=Int.emod_lt_of_pos (atI mem x) CB
   have hd:zGE p mem (x::r)/ 2^wOf p x=zGE p mem r:=by
    rw[zGE,Int.add_mul_ediv_left _ _ (by omega),Int.ediv_eq_zero_of_lt h3 h4,Int.zero_add]
   have hm:zGE p mem (x::r) % 2^wOf p x=atI mem x % 2^wOf p x:=by
    rw[zGE,Int.add_mul_emod_self_left,Int.emod_emod_of_dvd _ (Int.dvd_refl _)]
   rw[stM,hd,hm];rcases List.mem_cons.1 hc with rfl | hc
   ·rw[atI,zHh fun y hy=>fun e=>p1 y hy e.symm];have:=hl c (by simp);simp[zK,List.getElem?_set,this]
   ·exact zKy p2 (fun y hy=>by simpa using hl y (by simp[hy])) c hc
theorem zIc {p:Prog} {e:Expr} (he:e.valid p.cells false=true) {m m' o o':List Int} (h: ∀c∈e.sup 2,atI m c % 2^wOf p c=atI m' c % 2^wOf p c):e.eval o m=e.eval o' m':=by
 have hv:=he;simp only[Expr.valid,zF]at hv;rw[Expr.eval,Expr.eval,if_pos hv.1,if_pos hv.1]
 have:=zJq (f:=fun x=>x) (o1:=o) (o2:=o') (m1:=m) (m2:=m') (zcp hv.1) (fun x hx=>by
  obtain⟨hk,hn,ho⟩:=zH7 he hx;rcases ho with ho | ⟨ho,h0,Ad,c,hc,QK⟩
  ·simp[Expr.ev_eq,ho]
  ·have hm:=zOc hv.1 hx ho h0 Ad;have hg:=h x.n hm;have hw:wOf p x.n=x.w.toNat:=by rw[wOf,hc];simp[QK]
   rw[hw]at hg
   simp[Expr.ev_eq,ho,hg])
 rwa[zHN]at this
theorem zI7 (e:Expr) (o m:List Int):0<=e.eval o m/\(e.formed=true->e.eval o m<2^e.w.toNat):=by
 unfold Expr.eval;split
 ·rename_i h;have:=zix o m 40 e (zcp h);exact⟨this.1,fun _=>this.2⟩
 ·rename_i h;exact⟨Int.le_refl 0,fun h'=>absurd h' h⟩
def mkC (s:List Bool) (l:List Int):List Bool:=l.foldl (fun s c=>s.set c.toNat true) s
theorem zIb (s:List Bool) (l:List Int) (c:Int):mkC s (l++[c])=(mkC s l).set c.toNat true:=by simp[mkC]
theorem zGk: ∀(l:List Int) (s:List Bool),(mkC s l).length=s.length
 | [],s=>rfl
 | c::r,s=>by
   have:=zGk r (s.set c.toNat true);rw[List.length_set]at this;exact this
theorem zGS: ∀(l:List Int) (s:List Bool) (i:Nat),i<s.length->((mkC s l).getD i false=true<->s.getD i false=true\/ ∃c∈l,c.toNat=i)
 | [],s,i,h=>by simp[mkC]
 | c::r,s,i,h=>by
   have:=zGS r (s.set c.toNat true) i (by simpa using h);show(mkC (s.set c.toNat true) r).getD i false=true<->_;rw[this,zK,List.getElem?_set]
   by_cases hc:c.toNat=i
   ·subst hc;simp[h]
   ·rw[if_neg hc,<- zK];simp[hc]
def SlC (h:Nat->Option O) (k:Nat) (v:V) (l:List Int):Prop:=(v= .t .nils/\l=[])\/ ∃kb fz,v= .ms kb 0 l.length/\kb≠k/\h kb=some (.rows 1 (zae l) fz)
theorem zaF.slC {h:Nat->Option O} {x k:Nat} {v:V} {l:List Int} (o:zaF h x v 1 (zae l)) (hk:zbg v k):SlC h k v l:=by
 rcases o with⟨h1,h2⟩ | ⟨q,rfl,h2,h3⟩
 ·refine .inl ⟨h1,?_⟩;have:=congrArg List.length h2;rw[zab]at this;exact List.eq_nil_of_length_eq_zero this
 ·rw[zab]at hk⊢;exact .inr ⟨q,false,rfl,fun e=>by subst e;exact hk _ _ rfl,h3⟩
theorem SlC.keep {h h':Nat->Option O} {k:Nat} {v:V} {l:List Int} (o:SlC h k v l) (hh: ∀j,j≠k->h' j=h j):SlC h' k v l:=by
 rcases o with o | ⟨kb,fz,h1,h2,h3⟩
 ·exact .inl o
 ·exact .inr ⟨kb,fz,h1,h2,by rw[hh kb h2];exact h3⟩
theorem zK5 {h:Nat->Option O} {nx k:Nat} {s:List Bool} {l:List Int} {v:V} (hk:h k=some (.rows 32 [vbs s] false)) (hs:s.length=32) (hl: ∀c∈l,0<=c/\c<32) (hn:l.length<=64) (hv:SlC h k v l):
 ∃r h' n',DenR Γ G 585 [.mp k 0 0,v] h nx=some (r,h',n')/\(h' k=some (.rows 32 [vbs (mkC s l)] false)/\(∀j,j≠k->h' j=h j))/\nx<=n':=by
 rcases hv with⟨rfl,rfl⟩ | ⟨kb,fz,rfl,Do,hb⟩
 ·(refine zay Γ585 rfl ?_;dsimp only[zPE])
  simp -dsimp -implicitDefEqProofs only[go_sem,seval];refine zaD ?_;simp -dsimp -implicitDefEqProofs only[go_sem,seval];exact⟨⟨hk,fun _ _=>rfl⟩,by(try simp -dsimp -implicitDefEqProofs only[go_sem,seval]);(try omega)⟩
 (refine zay Γ585 rfl ?_;dsimp only[zPE])
 simp -dsimp -implicitDefEqProofs only[go_sem,seval,hb];refine zaq 130848 l.length (fun i f H x=>(f 8).v=vi i/\H k=some (.rows 32 [vbs (mkC s (l.take i))] false)/\(∀j,j≠k->H j=h j)/\nx<=x) rfl ⟨by simp -dsimp -implicitDefEqProofs only[go_sem,seval],hk,(fun _ _=>rfl),by(try simp -dsimp -implicitDefEqProofs only[go_sem,seval]);(try omega)⟩ ?_;rintro i f u H x bb hi ⟨g8,hH,Aq,hx⟩;have hw:=zan i (by omega)
 by_cases AV:i<l.length
 ·have DB:=eq_true AV;obtain⟨c,hc,BI⟩:=zai AV;have Gc:=hl c BI;have B5:(zae l)[i]? =some [vi c]:=by simp[zae,hc]
  have BM:H kb=some (.rows 1 (zae l) fz):=by rw[Aq kb Do];exact hb
  have QO:=zGk (l.take i) s;have v1:(vbs (mkC s (l.take i))).length=32:=by simp[vbs,QO,hs]
  have c1:c.toNat*1<=31:=by omega
  have w1:=zvB (l:=mkC s (l.take i)) (i:=c.toNat) (by omega);unfold wr at w1;rw[if_pos (by rw[v1];simp;omega)]at w1;simp only[zA,List.length_cons,List.length_nil,Nat.zero_add,zQ,List.cons_append,List.nil_append]at w1;simp -dsimp -implicitDefEqProofs only[go_sem,seval,g8,DB,BM,B5,Gc,hH,v1,c1];refine⟨AV,by simp -dsimp -implicitDefEqProofs only[go_sem,seval,hw],?_,fun j hj=> ?_,by simp -dsimp -implicitDefEqProofs only[go_sem,seval];omega⟩
  ·simp -dsimp -implicitDefEqProofs only[go_sem,seval,Nat.mul_one,zQ,w1];rw[zaf hc,zIb]
  ·simp -dsimp -implicitDefEqProofs only[go_sem,seval,hj];exact Aq j hj
 ·have DB:=eq_false AV;have:i=l.length:=by omega
  subst this;rw[List.take_length]at hH;simp -dsimp -implicitDefEqProofs only[go_sem,seval,g8,DB];exact⟨⟨hH,Aq⟩,by(try simp -dsimp -implicitDefEqProofs only[go_sem,seval]);(try omega)⟩
theorem zHB (op:Int) (e:Expr): ∀c∈e.sup op,0<=c/\c<32:=fun c hc=>by
 unfold Expr.sup at hc;split at hc
 ·unfold zbJ at hc;obtain⟨j,hj,rfl⟩:=List.mem_map.1 hc;have:=List.mem_range.1 (List.mem_filter.1 hj).1;omega
 ·simp at hc
def mkE (s:List Bool) (e:Expr):List Bool:=mkC (mkC s (e.sup 3)) (e.sup 2)
theorem zG5 (s:List Bool) (e:Expr):(mkE s e).length=s.length:=by rw[mkE,zGk,zGk]
theorem zHG {h:Nat->Option O} {nx k:Nat} {s:List Bool} (e:Expr) (hk:h k=some (.rows 32 [vbs s] false)) (hs:s.length=32) (ND:k<nx):
 ∃r h' n',DenR Γ G 562 [.mp k 0 0,(.agg [.t (ti (e).op),.t (ti (e).w),.t (ti (e).n),.t (.sl ((e).kids.map (Expr.enc)))])] h nx=some (r,h',n')/\(h' k=some (.rows 32 [vbs (mkE s e)] false)/\(∀j,j<nx->j≠k->h' j=h j))/\nx<=n':=by
 (refine zay Γ562 rfl ?_;dsimp only[zQe])
 simp -dsimp -implicitDefEqProofs only[go_sem,seval];refine zas (zfo e _ _) ?_;rintro r h1 n1 ⟨v3,v2,rfl,o3,o2,hn,A8⟩;have y1:=o2.valOf;have y3:=o3.valOf;have z1:=o2.cells;have z3:=o3.cells;unfold V.cells at z1 z3;obtain⟨k1,q3,q2⟩:=A8 k (by omega);rw[hk]at k1;simp -dsimp -implicitDefEqProofs only[go_sem,seval,y1,y3,z1,z3];refine zas (zK5 k1 hs (zHB 3 e) (by have:=zfp 3 e;omega) (o3.slC q3)) ?_;rintro r2 h2 n2 ⟨⟨k2,kp2⟩,Fh⟩;simp -dsimp -implicitDefEqProofs only[go_sem,seval,y1,y3];refine zas (zK5 k2 (by rw[zGk];exact hs) (zHB 2 e) (by have:=zfp 2 e;omega) ((o2.slC q2).keep kp2)) ?_;rintro r3 h3 n3 ⟨⟨k3,kp3⟩,N1⟩;simp -dsimp -implicitDefEqProofs only[go_sem,seval];refine⟨⟨k3,fun j hj Lv=> ?_⟩,by(try simp -dsimp -implicitDefEqProofs only[go_sem,seval]);(try omega)⟩;rw[kp3 j Lv,kp2 j Lv,(A8 j (by omega)).1]
def zMG:List Bool:=List.replicate 32 false
def lkC (L:List Lock):List Bool:=L.foldl (fun s k=>mkE (mkC s [k.cell]) k.inv) zMG
theorem zNR (L:List Lock) (k:Lock):lkC (L++[k])=mkE (mkC (lkC L) [k.cell]) k.inv:=by simp[lkC]
theorem zMN: ∀(L:List Lock) (s:List Bool),(L.foldl (fun s k=>mkE (mkC s [k.cell]) k.inv) s).length=s.length
 | [],s=>rfl
 | k::r,s=>by rw[List.foldl_cons,zMN r,zG5,zGk]
theorem zIv (L:List Lock):(lkC L).length=32:=by rw[lkC,zMN];simp[zMG]
theorem zJr (p:Prog) (hl:p.locks.length<2^20) (hc: ∀k∈p.locks,0<=k.cell/\k.cell<32) (h:Nat->Option O) (nx:Nat):
 ∃r h' n',DenR Γ G 561 [(zP p)] h nx=some (r,h',n')/\(∃k,r= .mp k 0 0/\nx<=k/\k<n'/\h' k=some (.rows 32 [vbs (lkC p.locks)] false)/\ ∀j,j<nx->h' j=h j):=by
 (refine zay Γ561 rfl ?_;dsimp only[zQf])
 simp -dsimp -implicitDefEqProofs only[go_sem,seval];refine zaq 33552416 p.locks.length (fun i f H x=>(f 11).v=vi i/\H (nx+2+1)=some (.rows 32 [vbs (lkC (p.locks.take i))] false)/\(∀j,j<nx->H j=h j)/\nx+2+1<x) rfl ⟨by simp -dsimp -implicitDefEqProofs only[go_sem,seval],?_,?_,by(try simp -dsimp -implicitDefEqProofs only[go_sem,seval]);(try omega)⟩ ?_
 ·simp -dsimp -implicitDefEqProofs only[go_sem,seval];rfl
 ·intro j hj;simp only[zaC,zaA];rw[zaa,if_neg (by omega)]
 rintro i f u H x bb hi ⟨g11,hH,Aq,hx⟩;have hw:=zan i (by omega)
 by_cases AV:i<p.locks.length
 ·have DB:=eq_true AV;obtain⟨k,hk,It⟩:=zai AV;have Gc:=hc k It;simp -dsimp -implicitDefEqProofs only[go_sem,seval,g11,DB,hk,Lock.enc,Expr.enc_eq];have Ac:=zIv (p.locks.take i);refine zas (zK5 (l:=[k.cell]) (s:=lkC (p.locks.take i)) (by rw[zaa,if_neg (by omega)];exact hH) Ac (by simpa using Gc) (by simp) (.inr ⟨x+1+4+3,false,rfl,by omega,by rw[zaa,if_pos rfl];rfl⟩)) ?_;rintro r1 h1 n1 ⟨⟨k1,kp1⟩,Fj⟩;simp -dsimp -implicitDefEqProofs only[go_sem,seval];refine zas (zHG k.inv k1 (by rw[zGk];exact Ac) (by omega)) ?_;rintro r2 h2 n2 ⟨⟨k2,kp2⟩,Fh⟩;simp -dsimp -implicitDefEqProofs only[go_sem,seval,g11];refine⟨AV,by simp -dsimp -implicitDefEqProofs only[go_sem,seval,hw],?_,fun j hj=> ?_,by(try simp -dsimp -implicitDefEqProofs only[go_sem,seval]);(try omega)⟩
  ·simp -dsimp -implicitDefEqProofs only[go_sem,seval];rw[zaf hk,zNR];exact k2
  ·simp -dsimp -implicitDefEqProofs only[go_sem,seval];rw[kp2 j (by omega) (by omega),kp1 j (by omega),zaa,if_neg (by omega)];exact Aq j hj
 ·have DB:=eq_false AV;have:i=p.locks.length:=by omega
  subst this;rw[List.take_length]at hH;simp -dsimp -implicitDefEqProofs only[go_sem,seval,g11,DB];exact⟨nx+2+1,by(try simp -dsimp -implicitDefEqProofs only[go_sem,seval]),by omega,by(try simp -dsimp -implicitDefEqProofs only[go_sem,seval]);(try omega),hH,Aq⟩
def inL (p:Prog) (l base:List Int) (e:Expr):List Nat:=(List.range (2^zcD p l)).filter fun n=>decide (e.eval (stM p l (n:Int) base) (stM p l (n:Int) base)=1)
theorem zHo {p:Prog} {l base:List Int} {e:Expr} {n:Nat}:n∈inL p l base e<->n<2^zcD p l/\e.eval (stM p l (n:Int) base) (stM p l (n:Int) base)=1:=by
 simp[inL,List.mem_filter]
theorem zHm {p:Prog} {mem:List Int} (l:List Int):(((zGE p mem l).toNat:Nat):Int)=zGE p mem l/\(zGE p mem l).toNat<2^zcD p l:=by
 obtain⟨h1,h2⟩:=zHu (p:=p) (mem:=mem) l;have h3:(((zGE p mem l).toNat:Nat):Int)=zGE p mem l:=by omega
 refine⟨h3,?_⟩;have:(((zGE p mem l).toNat:Nat):Int)<((2^zcD p l:Nat):Int):=by rw[h3];push_cast;exact h2
 exact_mod_cast this
section
end
theorem zML (n:Nat) (h:n≠0): ∃t m,n=2^t*(2*m+1):=by
 induction n using Nat.strongRecOn with
 | ind n ih=>
   by_cases q:n % 2=0
   ·obtain⟨t,m,e⟩:=ih (n/ 2) (by omega) (by omega);refine⟨t+1,m,?_⟩;rw[Nat.pow_succ,Nat.mul_comm (2^t) 2,Nat.mul_assoc,<- e];omega
   ·exact⟨0,n/ 2,by omega⟩
theorem zG9 (t a j:Nat):(2^t*a).testBit j=if j<t then false else a.testBit (j-t):=by
 have:=Nat.testBit_two_pow_mul_add a (Nat.two_pow_pos t) j;simpa using this
theorem zJp (m j:Nat):(2*m+1).testBit j=if j=0 then true else m.testBit (j-1):=by
 cases j with
 | zero=>simp
 | succ j=>rw[Nat.testBit_succ,show(2*m+1)/ 2=m by omega];simp
theorem zLt (m j:Nat):(2*m).testBit j=if j=0 then false else m.testBit (j-1):=by
 cases j with
 | zero=>simp
 | succ j=>rw[Nat.testBit_succ,show 2*m/ 2=m by omega];simp
theorem zN6 (t m:Nat):(2^t*(2*m+1))&&& (2^t*(2*m+1)-1)=2^t*(2*m):=by
 have hp:=Nat.two_pow_pos t;have e:2^t*(2*m+1)-1=2^t*(2*m)+(2^t-1):=by rw[Nat.mul_add,Nat.mul_one];omega
 rw[e];refine Nat.eq_of_testBit_eq fun j=> ?_
 rw[Nat.testBit_and,zG9,zG9,Nat.testBit_two_pow_mul_add _ (by omega)]
 by_cases q:j<t
 ·simp[q]
 ·simp only[if_neg q,zJp,zLt]
  by_cases q2:j-t=0<;>simp[q2]
theorem zO9 (t m:Nat) (ht:t<64) (hn:2^t*(2*m+1)<2^64):(2^t*(2*m+1))&&& (2^64-2^t*(2*m+1))=2^t:=by
 have hp:=Nat.two_pow_pos t
 have e64:2^64=2^t*(2*2^(63-t)):=by
  rw[<- Nat.pow_succ',<- Nat.pow_add];congr 1;omega
 have hm:m<2^(63-t):=by
  rw[e64]at hn;have:=Nat.lt_of_mul_lt_mul_left hn;omega
 have e:2^64-2^t*(2*m+1)=2^t*(2*(2^(63-t)-(m+1))+1):=by
  rw[e64,<- Nat.mul_sub];congr 1;omega
 rw[e];refine Nat.eq_of_testBit_eq fun j=> ?_
 rw[Nat.testBit_and,zG9,zG9,Nat.testBit_two_pow]
 by_cases q:j<t
 ·simp[q];omega
 ·simp only[if_neg q,zJp]
  by_cases q2:j-t=0
  ·have:t=j:=by omega
   simp[q2,this]
  ·have:t≠j:=by omega
   simp only[if_neg q2,Nat.testBit_two_pow_sub_succ hm,this,decide_false];cases m.testBit (j-t-1)<;>simp
def hiB (w k:Nat):Nat:=2^k*(w/ 2^k)
theorem zKT (w k j:Nat):(hiB w k).testBit j=if j<k then false else w.testBit j:=by
 rw[hiB,zG9];split
 ·rfl
 ·rw[Nat.testBit_div_two_pow];congr 1;omega
theorem zNW (w:Nat):hiB w 0=w:=by simp[hiB]
theorem zPz (w k:Nat):hiB w k<=w:=Nat.mul_div_le w (2^k)
def zJ0 (w k:Nat):List Nat:=(List.range k).filter fun j=>w.testBit j
theorem zIq {w k:Nat}: ∀{t:Nat},k<=t->(∀j,k<=j->j<t->w.testBit j=false)->zJ0 w t=zJ0 w k
 | 0,h,_=>by
   have:k=0:=by omega
   rw[this]
 | t+1,h,hb=>by
   by_cases q:k=t+1
   ·rw[q]
   ·rw[zJ0,List.range_succ,List.filter_append];have h1:=hb t (by omega) (by omega);have h2:=zIq (w:=w) (k:=k) (t:=t) (by omega) fun j j1 j2=>hb j j1 (by omega)
    rw[zJ0]at h2;rw[h2];simp[h1]
theorem zMD {w k:Nat} (hw:w<2^64) (h:hiB w k≠0): ∃t m,k<=t/\t<64/\hiB w k=2^t*(2*m+1)/\hiB w (t+1)=2^t*(2*m)/\zJ0 w (t+1)=zJ0 w k++[t]:=by
 obtain⟨t,m,e⟩:=zML _ h;have hb:=fun j=>zKT w k j
 rw[e]at hb;have ht:=hb t;rw[zG9,if_neg (by omega),Nat.sub_self,zJp,if_pos rfl]at ht
 have Lq:k<=t:=by
  rcases Nat.lt_or_ge t k with q | q
  ·rw[if_pos q]at ht;cases ht
  ·exact q
 rw[if_neg (by omega)]at ht
 have HC:t<64:=by
  rcases Nat.lt_or_ge t 64 with q | q
  ·exact q
  ·rw[Nat.testBit_lt_two_pow (Nat.lt_of_lt_of_le hw (Nat.pow_le_pow_right (by omega) q))]at ht;cases ht
 refine⟨t,m,Lq,HC,e,?_,?_⟩
 ·refine Nat.eq_of_testBit_eq fun j=> ?_
  rw[zKT,zG9,zLt]
  by_cases q:j<t+1
  ·rw[if_pos q]
   by_cases q2:j<t
   ·rw[if_pos q2]
   ·rw[if_neg q2,if_pos (by omega)]
  ·rw[if_neg q,if_neg (by omega),if_neg (by omega)];have:=hb j;rw[zG9,if_neg (by omega),zJp,if_neg (by omega),if_neg (by omega)]at this;exact this.symm
 ·rw[zJ0,List.range_succ,List.filter_append]
  have h2:=zIq (w:=w) (k:=k) (t:=t) Lq fun j j1 j2=>by
   have:=hb j;rw[zG9,if_pos j2,if_neg (by omega)]at this;exact this.symm
  rw[zJ0]at h2;rw[h2];simp[ht]
theorem zNP {w k:Nat} (hk:k<=64) (h:hiB w k=0):zJ0 w 64=zJ0 w k:=by
 refine zIq hk fun j j1 _=> ?_
 have:=zKT w k j;rw[h,Nat.zero_testBit,if_neg (by omega)]at this;exact this.symm
abbrev vw (n:Nat):V:=.t (.int .u64 (n:Int))
theorem zPb {x:Nat} (hx:x<2^64):(BitVec.ofInt 64 (x:Int)).toNat=x:=by simp[BitVec.toNat_ofInt];omega
theorem zH2 {x:Nat} (hx:x<2^64):IntKind.u64.wrap (x:Int)=(x:Int):=by
 unfold IntKind.wrap;simp[IntKind.bits,IntKind.signed];omega
theorem zQ2 {x:Nat} (h0:x≠0) (hx:x<2^64):IntKind.u64.wrap (0-(x:Int))=((2^64-x:Nat):Int):=by
 unfold IntKind.wrap;simp[IntKind.bits,IntKind.signed];omega
theorem zPg {x:Nat} (h0:x≠0) (hx:x<2^64):IntKind.u64.wrap ((x:Int)-1)=((x-1:Nat):Int):=by
 rw[show(x:Int)-1=((x-1:Nat):Int)by omega];exact zH2 (by omega)
theorem zLI {a b:Nat} (ha:a<2^64) (hb:b<2^64):IntKind.u64.wrap ((BitVec.ofInt IntKind.u64.bits (a:Int)&&& BitVec.ofInt IntKind.u64.bits (b:Int)).toNat:Int)=((a&&& b:Nat):Int):=by
 show IntKind.u64.wrap ((BitVec.ofInt 64 (a:Int)&&& BitVec.ofInt 64 (b:Int)).toNat:Int)=_;rw[BitVec.toNat_and,zPb ha,zPb hb,zH2 (Nat.and_lt_two_pow _ hb)]
theorem zOv {a b:Nat} (ha:a<2^64) (hb:b<2^64):IntKind.u64.wrap ((BitVec.ofInt IntKind.u64.bits (a:Int) ||| BitVec.ofInt IntKind.u64.bits (b:Int)).toNat:Int)=((a ||| b:Nat):Int):=by
 show IntKind.u64.wrap ((BitVec.ofInt 64 (a:Int) ||| BitVec.ofInt 64 (b:Int)).toNat:Int)=_;rw[BitVec.toNat_or,zPb ha,zPb hb,zH2 (Nat.or_lt_two_pow ha hb)]
theorem zPh {a b:Nat} (ha:a<2^64) (hb:b<2^64):IntKind.u64.wrap ((BitVec.ofInt IntKind.u64.bits (a:Int)&&& ~~~BitVec.ofInt IntKind.u64.bits (b:Int)).toNat:Int)=((a&&& (2^64-1-b):Nat):Int):=by
 show IntKind.u64.wrap ((BitVec.ofInt 64 (a:Int)&&& ~~~BitVec.ofInt 64 (b:Int)).toNat:Int)=_;rw[BitVec.toNat_and,BitVec.toNat_not,zPb ha,zPb hb,zH2 (Nat.and_lt_two_pow _ (by omega))]
def tzI (t:Nat):Int:=(IntKind.u64.wrap (((2^t:Nat):Int)*285870213051353865)).fdiv (2^min 58 64)
def tzT:List Nat:=[0,1,56,2,57,49,28,3,61,58,42,50,38,29,17,4,62,47,59,36,45,43,51,22,53,39,33,30,24,18,12,5,63,55,48,27,60,41,37,16,46,35,44,21,52,32,23,11,54,26,40,15,34,20,31,10,25,14,19,9,13,8,7,6]
theorem zRq:G 3=tzT.map fun n:Nat=>T.int .u8 (n:Int):=rfl
theorem zPj: ∀t,t<64->0<=tzI t/\tzI t<64/\tzT[(tzI t).toNat]? =some t:=by decide+kernel
theorem zPk (t m:Nat) (ht:t<64) (hn:2^t*(2*m+1)<2^64):Den Γ G 280 [vw (2^t*(2*m+1))]=some (vi t):=by
 have h1:=zO9 t m ht hn;have hp:=Nat.two_pow_pos t
 have h0:2^t*(2*m+1)≠0:=by
  have:=Nat.mul_pos hp (show 0<2*m+1 by omega);omega
 obtain⟨k1,k2,k3⟩:=zPj t ht
 generalize 2^t*(2*m+1)=n at *
 have e0:((n:Int)=0)=False:=eq_false (by omega);have e1:=zQ2 h0 hn;have e2:=zLI hn (show 2^64-n<2^64 by omega);rw[h1]at e2
 have k4:List.drop ((tzI t).toNat*1) (G 3)=T.int .u8 (t:Int)::List.drop ((tzI t).toNat+1) (G 3):=by
  rw[Nat.mul_one];exact zdo (by rw[zRq,zJ,k3];rfl)
 unfold tzI at k1 k2 k4;have e3:IntKind.i64.wrap (t:Int)=(t:Int):=zaH (by omega)
 (refine zag Γ280 rfl ?_;dsimp only[zQS])
 simp -dsimp -implicitDefEqProofs only[go_sem,seval,e0,e1,e2,k1,k2,k4,e3]
def bmV (ws:List Nat):List V:=ws.map vw
structure Bm (ws:List Nat):Prop where
 len:ws.length=64
 lt: ∀w∈ws,w<2^64
def zKt (ws:List Nat) (n:Nat):List Nat:=ws.set (n/ 64) (ws.getD (n/ 64) 0 ||| 1<<< (n % 64))
theorem zLG (ws:List Nat) (B:Bm ws) (n:Nat) (hn:n<4096) {h:Nat->Option O} {k x:Nat} (hk:h k=some (.rows 64 [bmV ws] false)):
 ∃r h' x',DenR Γ G 532 [.mp k 0 0,vi n] h x=some (r,h',x')/\h' k=some (.rows 64 [bmV (zKt ws n)] false)/\(∀j,j≠k->h' j=h j)/\x<=x':=by
 have hq:n/ 64<ws.length:=by rw[B.len];omega
 obtain⟨w,hw,FP⟩:=zai hq;have G1:=B.lt w FP;have e1:(n:Int).tdiv 64=((n/ 64:Nat):Int):=by rw[Int.tdiv_eq_ediv_of_nonneg (by omega)];omega
 have e1':IntKind.i64.wrap ((n/ 64:Nat):Int)=((n/ 64:Nat):Int):=zaH (by omega);have e2:(n:Int).tmod 64=((n % 64:Nat):Int):=by rw[Int.tmod_eq_emod_of_nonneg (by omega)];omega
 have b1:(((n/ 64:Nat):Int)<64)=True:=eq_true (by omega);have hl:=B.len;have F8:(bmV ws).length=64:=by simp[bmV,hl]
 have b2:(n/ 64*1+1<=(bmV ws).length)=True:=eq_true (by rw[F8];omega)
 have BK:List.take 1 (List.drop (n/ 64*1) (bmV ws))=[vw w]:=by
  rw[Nat.mul_one,zdo (l:=bmV ws) (x:=vw w) (by rw[bmV,zJ,hw];rfl)];rfl
 have e3:IntKind.u64.wrap (1*2^min (n % 64) 64)=((1<<< (n % 64):Nat):Int):=by
  have:(1*2^min (n % 64) 64:Int)=((1<<< (n % 64):Nat):Int):=by
   rw[Nat.min_eq_left (by omega),Nat.one_shiftLeft];push_cast;omega
  rw[this];exact zH2 (by rw[Nat.one_shiftLeft];exact Nat.pow_lt_pow_right (by omega) (by omega))
 have e4:=zOv G1 (show 1<<< (n % 64)<2^64 by rw[Nat.one_shiftLeft];exact Nat.pow_lt_pow_right (by omega) (by omega))
 have Mn:List.take (n/ 64*1) (bmV ws)++[vw (w ||| 1<<< (n % 64))]++List.drop (n/ 64*1+1) (bmV ws)=bmV (zKt ws n):=by
  rw[Nat.mul_one,bmV,zKt,zK,hw,Option.getD_some,bmV,List.map_set,List.set_eq_take_append_cons_drop,if_pos (by simp;omega)];simp
 have b4:(((n % 64:Nat):Int)<0)=False:=eq_false (by omega)
 (refine zay Γ532 rfl ?_;dsimp only[zQx])
 simp -dsimp -implicitDefEqProofs only[go_sem,seval,hk,e1,e1',e2,b1,b2,b4,BK,e3,e4,Mn];refine⟨?_,fun j hj=> ?_,by simp -dsimp -implicitDefEqProofs only[go_sem,seval];omega⟩
 ·simp only[zaC,zaA];rw[zaa,if_pos rfl]
 ·simp only[zaC,zaA];rw[zaa,if_neg hj]
theorem zK6 {ws:List Nat} (B:Bm ws) {n:Nat} (hn:n<4096):Bm (zKt ws n):=by
 refine⟨by rw[zKt,List.length_set,B.len],fun w hw=> ?_⟩;rw[zKt]at hw;rcases List.mem_or_eq_of_mem_set hw with h | rfl
 ·exact B.lt w h
 ·refine Nat.or_lt_two_pow ?_ (by rw[Nat.one_shiftLeft];exact Nat.pow_lt_pow_right (by omega) (by omega));obtain⟨w,hw,FP⟩:=zai (show n/ 64<ws.length by rw[B.len];omega);rw[zK,hw,Option.getD_some];exact B.lt w FP
def zIO (ws:List Nat) (n:Nat):Bool:=(ws.getD (n/ 64) 0).testBit (n % 64)
theorem zLp {ws:List Nat} (B:Bm ws) {n:Nat} (hn:n<4096) (j:Nat):zIO (zKt ws n) j=(zIO ws j||decide (j=n)):=by
 have hq:n/ 64<ws.length:=by rw[B.len];omega
 rw[zIO,zKt,zIO]
 by_cases q:j/ 64=n/ 64
 ·rw[q,zK,List.getElem?_set,if_pos rfl,if_pos hq,Option.getD_some,Nat.testBit_or,Nat.one_shiftLeft,Nat.testBit_two_pow]
  congr 1
  rw[decide_eq_decide];omega
 ·rw[zK,List.getElem?_set,if_neg (Ne.symm q),<- zK];have:j≠n:=by rintro rfl;exact q rfl
  simp[this]
def zHd (ws:List Nat):Nat->List Int
 | 0=>[]
 | i+1=>zHd ws i++(zJ0 (ws.getD i 0) 64).map fun t:Nat=>((64*i+t:Nat):Int)
theorem zIw (ws:List Nat): ∀i,zHd ws i=((List.range (64*i)).filter fun n=>zIO ws n).map fun n:Nat=>(n:Int)
 | 0=>rfl
 | i+1=>by
   rw[zHd,zIw ws i,zJ0,show 64*(i+1)=64*i+64 by omega,List.range_add,List.filter_append,List.map_append]
   congr 1
   rw[List.filter_map,List.map_map]
   have:(List.range 64).filter ((fun n=>zIO ws n)∘fun x=>64*i+x)=(List.range 64).filter fun j=>(ws.getD i 0).testBit j:=by
    refine List.filter_congr fun t ht=> ?_
    have:=List.mem_range.1 ht;simp only[Function.comp,zIO];rw[show(64*i+t)/ 64=i by omega,show(64*i+t) % 64=t by omega]
   rw[this];rfl
def zjP (h:Nat->Option O) (lo x:Nat) (v:V) (l:List Int) (room:Nat):Prop:= ∃k,v= .ms k 0 l.length/\lo<=k/\k<x/\h k=some (.rows 1 (zae l++List.replicate room [zi]) false)
theorem zjP.valOf {h:Nat->Option O} {lo x:Nat} {v:V} {l:List Int} {room:Nat} (o:zjP h lo x v l room):valOf v=some v:=by obtain⟨k,rfl,_,_,_⟩:=o;rfl
theorem zjP.rows {h:Nat->Option O} {lo x:Nat} {v:V} {l:List Int} {room:Nat} (o:zjP h lo x v l room):Rg.rowsS h v=some (zae l):=by
 obtain⟨k,rfl,_,_,hk⟩:=o;unfold Rg.rowsS;simp only[hk,rd,Nat.zero_add,List.drop_zero];rw[if_pos (by simp[zab]),List.take_append_of_le_length (by rw[zab];exact Nat.le_refl _),List.take_of_length_le (by rw[zab];exact Nat.le_refl _)]
theorem zjP.resVal {h:Nat->Option O} {lo x:Nat} {v:V} {l:List Int} {room:Nat} (o:zjP h lo x v l room):Rg.resVal v=some v:=by obtain⟨k,rfl,_,_,_⟩:=o;rfl
theorem zjP.reify {h:Nat->Option O} {lo x:Nat} {v:V} {l:List Int} {room:Nat} (o:zjP h lo x v l room):Rg.reify h v=some (.t (ints l)):=by
 obtain⟨k,rfl,_,_,hk⟩:=o;have h1:=zdJ h 999 (l.map fun n=>[ti n]) (zbP _)
 have h2:toT h 1000 (.ms k 0 l.length)=some (ints l):=by
  rw[toT,hk];simp only[rd,Nat.zero_add,List.drop_zero];rw[if_pos (by simp[zab]),List.take_append_of_le_length (by rw[zab];exact Nat.le_refl _),List.take_of_length_le (by rw[zab];exact Nat.le_refl _)];simp only[zC,zD];rw[show zae l=(l.map fun n=>[ti n]).map (·.map V.t)from rfl,h1];rfl
 simp only[Rg.reify,toT1,h2,Option.map_some]
theorem zmE {h:Nat->Option O} {lo x q room:Nat} {v:V} {l m:List Int} {K:V->List (Nat×O)->Prop} {w:WK K} (hv:zjP h lo x v l (m.length+room)) (hx:x<=q) (hl:l.length+m.length<=2^32)
 (hK: ∀v' hp,zjP (At h hp) lo (q+1) v' (l++m) room->(∀j,j<lo->At h hp j=h j)->K v' hp):ziX false (zck h q 1 8 v (zae l) (zae m)) K w:=by
 unfold zck;rw[if_pos ⟨⟨by rw[zab,zab];exact hl,by decide⟩,zaQ _,zaQ _⟩]
 cases m with
 | nil=>
   simp only[zae,List.map_nil,List.isEmpty_nil,if_true,zcb];refine hK v [] ?_ (fun j _=>by rw[zaA]);rw[List.append_nil];obtain⟨k,rfl,CK,hk,hh⟩:=hv
   exact⟨k,rfl,CK,by omega,by simpa[zaA]using hh⟩
 | cons y m=>
   obtain⟨k,rfl,CK,hk,hh⟩:=hv;have he:(zae (y::m)).isEmpty=false:=rfl;simp only[he,hh,zG,if_false,and_self,if_true,zcb]
   have Oo:zbU (zae l) (zae (y::m)) (zae l++List.replicate ((y::m).length+room) [zi])=zae (l++y::m)++List.replicate room [zi]:=by
    have e1:zae (l++y::m)=zae l++zae (y::m):=by simp[zae]
    rw[e1];unfold zbU;split
    ·rename_i A5;simp only[zM,zab,List.length_replicate]at A5;have:room=0:=by omega
     subst this;simp
    ·rw[List.drop_append,List.drop_of_length_le (by rw[zab,zab];omega),List.drop_replicate,zab,zab];rw[show(y::m).length+room-(l.length+(y::m).length-l.length)=room by omega,List.nil_append]
   refine hK _ [(k,.dead),(q,.rows 1 (zbU (zae l) (zae (y::m)) (zae l++List.replicate ((y::m).length+room) [zi])) false)] ⟨q,?_,by omega,by omega,?_⟩ (fun j hj=> ?_)
   ·rw[zab,zab,zM]
   ·rw[Oo];have:q≠k:=by omega
    simp[zaC,zaA,zaa]
   ·have h1:j≠q:=by omega
    have h2:j≠k:=by omega
    simp[zaC,zaA,zaa,h1,h2]
theorem zuW (m:Nat) (h0:0<m) (h1:m<=2^31) (H:Nat->Option O) (n:Nat): ∃r h' n',DenR Γ G 368 [.t .nils,vi m] H n=some (r,h',n')/\(zjP h' n n' r [] m/\ ∀j,j<n->h' j=H j):=by
 have e1: ¬((m:Int)<0):=by omega
 have e2:(0:Int)<m:=by omega
 have e3:(m:Int)<=4294967296:=by omega
 have hw:IntKind.i64.wrap ((m:Int)-0)=m:=by rw[Int.sub_zero];exact zaH (by omega)
 have e4:(1:Int)<=m:=by omega
 (refine zay Γ368 rfl ?_;dsimp only[zyQ])
 simp -dsimp -implicitDefEqProofs only[go_sem,seval,e1,e2,e3,e4,hw];refine⟨⟨_,rfl,by omega,by simp -dsimp -implicitDefEqProofs only[go_sem];omega,by simp[zaC,zaA,zaa,zae]⟩,fun j hj=> ?_⟩;have:j≠n+1+2+8+2+5:=by omega
 simp[zaC,zaA,zaa,this]
theorem zsB (n:Nat) (H:Nat->Option O): ∃r h' n',DenR Γ G 368 [.t .nils,vi 0] H n=some (r,h',n')/\(r= .t .nils/\h'=H):=by
 have hw:IntKind.i64.wrap (0-0)=0:=rfl
 (refine zay Γ368 rfl ?_;dsimp only[zyQ])
 simp -dsimp -implicitDefEqProofs only[go_sem,seval,hw];exact⟨rfl,rfl⟩
def zPa (H:Nat->Option O) (n:Nat) (v:V) (l:List Int):Prop:=Rg.valOf v=some v/\ ∀h':Nat->Option O,(∀j,j<n->h' j=H j)->lenS h' v=some l.length/\Rg.rowsS h' v=some (zae l)
theorem zPa.tree (H:Nat->Option O) (n:Nat) (l:List Int):zPa H n (.t (ints l)) l:=⟨rfl,fun h' _=>⟨by simp[lenS],rfl⟩⟩
theorem zaF.see {H:Nat->Option O} {n:Nat} {v:V} {l:List Int} (o:zaF H n v 1 (zae l)):zPa H n v l:=by
 refine⟨o.valOf,fun h' hh=> ?_⟩;have o1:zaF h' n v 1 (zae l):=o.keep (Nat.le_refl _) fun j hj _=>hh j hj
 exact⟨by have:=o1.lenS;rwa[zab]at this,o1.rowsS⟩
theorem zIG (a b:List Int) (ha:a.length<2^20) (hb:b.length<2^20) (H:Nat->Option O) (n k:Nat) (va vb:V) (hk:H k=some (.rows 1 [[va],[vb]] false)) (EK:k<n)
 (oa:zPa H n va a) (ob:zPa H n vb b): ∃r h' n',DenR Γ G 350 [.ms k 0 2] H n=some (r,h',n')/\zaF h' n' r 1 (zae (a++b)):=by
 have w1:IntKind.i64.wrap (0+(a.length:Int))=a.length:=by rw[Int.zero_add];exact zaH (by omega)
 have w2:IntKind.i64.wrap ((a.length:Int)+b.length)=((a.length+b.length:Nat):Int):=by rw[Int.natCast_add];exact zaH (by omega)
 have e1: ¬((a.length:Int)<0):=by omega
 have e2: ¬(((a.length+b.length:Nat):Int)<0):=by omega
 have v1:=oa.1;have v2:=ob.1;have l1:=(oa.2 H fun _ _=>rfl).1;have l2:=(ob.2 H fun _ _=>rfl).1
 (refine zay Γ350 rfl ?_;dsimp only[zAp])
 simp -dsimp -implicitDefEqProofs only[go_sem,seval,hk];refine zaD ?_;simp -dsimp -implicitDefEqProofs only[go_sem,seval,hk,v1,l1,w1,e1];refine zaD ?_;simp -dsimp -implicitDefEqProofs only[go_sem,seval,hk,v2,l2,w2,e2];refine zaD ?_;simp -dsimp -implicitDefEqProofs only[go_sem,seval]
 by_cases h0:a.length+b.length=0
 ·rw[h0];have DH:a=[]:=List.eq_nil_of_length_eq_zero (by omega);have Co:b=[]:=List.eq_nil_of_length_eq_zero (by omega);subst DH Co;refine zas (zsB _ _) ?_;rintro r h' n' ⟨rfl,rfl⟩;have r1:=(oa.2 _ fun _ _=>rfl).2;have r2:=(ob.2 _ fun _ _=>rfl).2;have e3:zae []=[]:=rfl;simp -dsimp -implicitDefEqProofs only[go_sem,seval,hk];refine zaD ?_;simp -dsimp -implicitDefEqProofs only[go_sem,seval,hk,v1,r1,e3,zck];refine zaD ?_;simp -dsimp -implicitDefEqProofs only[go_sem,seval,hk,v2,r2,e3,zck];refine zaD ?_;simp -dsimp -implicitDefEqProofs only[go_sem,seval];exact .inl ⟨rfl,rfl⟩
 ·refine zas (zuW _ (by omega) (by omega) _ _) ?_;rintro r h' n' ⟨hP,Aq⟩;have q1:=hP.valOf;have q2:=hP.rows;have A3:h' k=some (.rows 1 [[va],[vb]] false):=by rw[Aq k (by omega)];exact hk
  have r1:=(oa.2 h' fun j hj=>Aq j (by omega)).2;simp -dsimp -implicitDefEqProofs only[go_sem,seval,q1,A3];refine zaD ?_;simp -dsimp -implicitDefEqProofs only[go_sem,seval,A3,v1,q1,q2,r1];refine zmE hP (by omega) (by simp;omega) ?_;rintro v' hp Ge GM;rw[List.nil_append]at Ge;have q3:=Ge.valOf;have q4:=Ge.rows;have AF:At h' hp k=some (.rows 1 [[va],[vb]] false):=by rw[GM k (by omega)];exact A3
  have r2:=(ob.2 (At h' hp) fun j hj=>(GM j (by omega)).trans (Aq j (by omega))).2;simp -dsimp -implicitDefEqProofs only[go_sem,seval,q3,AF];refine zaD ?_;simp -dsimp -implicitDefEqProofs only[go_sem,seval,AF,v2,q3,q4,r2];refine zmE (room:=0) Ge (by omega) (by omega) ?_;rintro v' G6 Ow NG;have q5:=Ow.valOf;have q6:=Ow.resVal;simp only[Rg.resVal]at q6;simp -dsimp -implicitDefEqProofs only[go_sem,seval,q5];refine zaD ?_;simp -dsimp -implicitDefEqProofs only[go_sem,seval,q5,q6];obtain⟨kk,rfl,h1,h2,h3⟩:=Ow;exact .inr ⟨kk,by rw[zab];rfl,by simp -dsimp -implicitDefEqProofs only[go_sem];omega,by simpa using h3⟩
end Rg
end
section
namespace Rg
open Go
abbrev num (z:Int):List UInt8:=Go.Lib.itoa z
def zyt (op:Int):List UInt8:=
 if op=4 then [110,111,116]else if op=5 then [97,110,100]else if op=6 then [111,114]else if op=7 then [120,111,114]else if op=8 then [97,100,100]
 else if op=9 then [115,117,98]else if op=10 then [109,117,108]else if op=11 then [101,113]else if op=12 then [108,116]else if op=13 then [108,101]else [105,116,101]
def zyD (op:Int):List UInt8:=if op=2 then [99]else if op=3 then [111]else []
def zv4:List (List UInt8)->List UInt8
 | []=>[]
 | [x]=>x
 | x::r=>x++44::zv4 r
namespace Expr
mutual
def txt:Expr->List UInt8
 | .mk op w n ks=>if op=1\/op=2\/op=3 then zyD op++num n++[58]++num w else zyt op++[40]++zv4 (zCs ks)++[41]
def zCs:List Expr->List (List UInt8)
 | []=>[]
 | e::r=>txt e::zCs r
end
end Expr
theorem zfF {α:Type} {f:Nat->α->Int}: ∀{l:List α} {i:Nat},(zco f i l).1=0<-> ∀(j:Nat) (x:α),l[j]? =some x->f (i+j) x=0
 | [],i=>by simp[zco]
 | y::r,i=>by
   rw[zco];constructor
   ·intro h j x hj;split at h
    ·rename_i h0
     cases j with
     | zero=>simp at hj;subst hj;exact h0
     | succ j=>
       have:=(zfF (l:=r) (i:=i+1)).1 h j x (by simpa using hj);rwa[show i+1+j=i+(j+1)by omega]at this
    ·rename_i h0;exact absurd h h0
   ·intro h;have h0:f i y=0:=h 0 y rfl;rw[if_pos h0];refine(zfF (l:=r) (i:=i+1)).2 fun j x hj=> ?_
    have:=h (j+1) x (by simpa using hj);rwa[show i+(j+1)=i+1+j by omega]at this
theorem zlb {p:Prog}: ∀{l:List Thread} {i:Nat},(zep p i l).1=0<-> ∀(j:Nat) (x:Thread),l[j]? =some x->(zap p (i+j) x).1=0
 | [],i=>by simp[zep]
 | y::r,i=>by
   rw[zep];constructor
   ·intro h j x hj;split at h
    ·rename_i h0
     cases j with
     | zero=>simp at hj;subst hj;exact h0
     | succ j=>
       have:=(zlb (l:=r) (i:=i+1)).1 h j x (by simpa using hj);rwa[show i+1+j=i+(j+1)by omega]at this
    ·rename_i h0;exact absurd h h0
   ·intro h;have h0:(zap p i y).1=0:=h 0 y rfl;rw[if_pos h0];refine(zlb (l:=r) (i:=i+1)).2 fun j x hj=> ?_
    have:=h (j+1) x (by simpa using hj);rwa[show i+(j+1)=i+1+j by omega]at this
abbrev Prog.ok (p:Prog):Prop:=(zbM p).1=0
structure Rules (p:Prog):Prop where
 lim:(zaV p).1=0
 cells: ∀(i:Nat) (c:Cell),p.cells[i]? =some c->zci p i c=0
 modules: ∀(i:Nat) (m:Contract),p.modules[i]? =some m->zdH p i m=0
 locks: ∀(i:Nat) (l:Lock),p.locks[i]? =some l->zcM p i l=0
 threads: ∀(i:Nat) (x:Thread),p.threads[i]? =some x->(zap p i x).1=0
theorem zpi {p:Prog}:p.ok<->Rules p:=by
 unfold Prog.ok zbM;constructor
 ·intro h;split at h
  ·rename_i h0;exact absurd h h0
  ·rename_i h0;split at h
   ·rename_i h1;exact absurd h h1
   ·rename_i h1;split at h
    ·rename_i h2;exact absurd h h2
    ·rename_i h2;split at h
     ·rename_i h3;exact absurd h h3
     ·rename_i h3;simp only[Decidable.not_not]at h0 h1 h2 h3;exact⟨h0,by simpa[zce,zfF]using h1,by simpa[zbm,zfF]using h2,by simpa[zcT,zfF]using h3,by simpa[zlb]using h⟩
 ·rintro⟨h0,h1,h2,h3,h4⟩;have g1:zce p=0:=by unfold zce;rw[zfF];simpa using h1
  have g2:zbm p=0:=by unfold zbm;rw[zfF];simpa using h2
  have g3:zcT p=0:=by unfold zcT;rw[zfF];simpa using h3
  rw[if_neg (by simpa using h0),if_neg (by simpa using g1),if_neg (by simpa using g2),if_neg (by simpa using g3),zlb];simpa using h4
theorem zjE {p:Prog} {i:Nat} {c:Cell}:zci p i c=0<->zcj p c=false/\(p.cells.take i).any (fun d=>d.name.toList==c.name.toList)=false:=by
 unfold zci;cases zcj p c<;>cases(p.cells.take i).any (fun d=>d.name.toList==c.name.toList)<;>simp
theorem zL1 {p:Prog} {i:Nat} {m:Contract}:zdH p i m=0<->(zbA m.name=true/\zbA m.owner=true)/\(p.modules.take i).any (fun d=>d.name.toList==m.name.toList)=false/\
 ((m.rely.absent=true\/zaR p m.rely true (-1)=true)/\zaR p m.guar true (-1)=true)/\zc0 m.frame=true/\m.frame.all (zar p (-1))=true:=by
 unfold zdH
 cases zbA m.name<;>cases zbA m.owner<;>cases(p.modules.take i).any (fun d=>d.name.toList==m.name.toList)<;>cases m.rely.absent<;>cases zaR p m.rely true (-1)<;>cases zaR p m.guar true (-1)<;>
  cases zc0 m.frame<;>cases m.frame.all (zar p (-1))<;>simp
theorem zKL {p:Prog} {i:Nat} {l:Lock}:zcM p i l=0<->(zar p (-1) l.cell=true/\zby p l.cell (fun x=>decide (x.w=1))=true/\zby p l.cell Cell.ghost=false/\inR l.module p.modules.length=true)/\
 (p.locks.take i).any (fun d=>decide (d.cell=l.cell))=false/\zaR p l.inv false (-1)=true:=by
 unfold zcM
 cases zar p (-1) l.cell<;>cases zby p l.cell (fun x=>decide (x.w=1))<;>cases zby p l.cell Cell.ghost<;>cases inR l.module p.modules.length<;>cases(p.locks.take i).any (fun d=>decide (d.cell=l.cell))<;>
  cases zaR p l.inv false (-1)<;>simp
theorem zKw {p:Prog} {t n:Int} {s:Step}:zaS p t n s=0<->zdW p n s=false/\(s.guard.valid p.cells false=true/\s.guard.w=1)/\(∀(j:Nat) (a:Assign),s.set[j]? =some a->zbC p s.set j a=0)/\zbG p t s=true:=by
 unfold zaS;have TN:(zco (zbC p s.set) 0 s.set).1=0<-> ∀(j:Nat) (a:Assign),s.set[j]? =some a->zbC p s.set j a=0:=by rw[zfF];simp
 cases zdW p n s
 ·cases s.guard.valid p.cells false
  ·simp
  ·by_cases hw:s.guard.w=1
   ·simp only[hw,ne_eq,not_true_eq_false,decide_false,Bool.not_true,Bool.or_false,zG,if_false,true_and]
    by_cases h0:(zco (zbC p s.set) 0 s.set).1=0
    ·rw[if_neg (by simpa using h0)];have:=TN.1 h0;cases zbG p t s<;>simp_all
    ·rw[if_pos h0];constructor
     ·intro h;exact absurd h h0
     ·intro h;exact absurd (TN.2 h.1) h0
   ·simp[hw]
 ·simp
theorem zgN {p:Prog} {i:Nat} {x:Thread}:(zap p i x).1=0<->zbA x.name=true/\(p.threads.take i).any (fun d=>d.name.toList==x.name.toList)=false/\(1<=x.points/\(x.asserts.length:Int)=x.points/\(x.modules.length:Int)=x.points)/\
 x.modules.all (fun m=>inR m p.modules.length)=true/\x.asserts.all (fun e=>zaR p e false i)=true/\(∀(j:Nat) (s:Step),x.steps[j]? =some s->zaS p i x.points s=0)/\(∀(j:Nat) (l:Loop),x.loops[j]? =some l->zbp p i x.points l=0):=by
 unfold zap;have hs:(zco (fun _ s=>zaS p i x.points s) 0 x.steps).1=0<-> ∀(j:Nat) (s:Step),x.steps[j]? =some s->zaS p i x.points s=0:=by rw[zfF]
 have hl:(zco (fun _ l=>zbp p i x.points l) 0 x.loops).1=0<-> ∀(j:Nat) (l:Loop),x.loops[j]? =some l->zbp p i x.points l=0:=by rw[zfF]
 rw[<- hs,<- hl];cases zbA x.name
 ·simp
 ·cases(p.threads.take i).any (fun d=>d.name.toList==x.name.toList)
  ·by_cases h1:x.points<1\/ ¬(x.asserts.length:Int)=x.points\/ ¬(x.modules.length:Int)=x.points
   ·simp only[Bool.not_true,zG,if_false,if_pos h1];constructor
    ·intro h;cases h
    ·rintro⟨_,_,h,_⟩;omega
   ·have TX:1<=x.points/\(x.asserts.length:Int)=x.points/\(x.modules.length:Int)=x.points:=by omega
    simp only[Bool.not_true,zG,if_false,if_neg h1];cases x.modules.all (fun m=>inR m p.modules.length)
    ·simp
    ·cases x.asserts.all (fun e=>zaR p e false i)
     ·simp
     ·by_cases h0:(zco (fun _ s=>zaS p i x.points s) 0 x.steps).1=0
      ·simp[h0,TX]
      ·simp[h0,TX]
  ·simp
theorem zkI {p:Prog}:(zaV p).1=0<->(p.cells.length<=32/\p.modules.length<=6/\p.locks.length<=4/\p.threads.length<=4)/\ ∀x∈p.threads,x.points<=48/\x.steps.length<=64/\x.loops.length<=8:=by
 unfold zaV;split
 ·rename_i h;constructor
  ·intro h;cases h
  ·rintro⟨h',_⟩;omega
 ·rename_i h;rw[zfF];constructor
  ·intro h2;refine⟨by omega,fun x hx=> ?_⟩;obtain⟨j,hj,rfl⟩:=List.mem_iff_getElem.1 hx;have:=h2 j _ (zI hj);cases hb:zaP p.threads[j]
   ·simp only[zaP,Bool.or_eq_false_iff,decide_eq_false_iff_not]at hb;omega
   ·simp[hb]at this
  ·rintro⟨_,h2⟩ j x hx;have:=h2 x (zL hx)
   have hb:zaP x=false:=by
    simp only[zaP,Bool.or_eq_false_iff,decide_eq_false_iff_not];omega
   simp[hb]
end Rg
end
section
set_option maxRecDepth 100000
namespace Rg
open Go
def Expr.text (e:Expr):List UInt8:=if e.formed then e.txt else []
end Rg
end
section
set_option maxRecDepth 100000
namespace Rg
open Go
end Rg
end
section
set_option maxRecDepth 100000
namespace Rg
open Go
def zBB (ws:List (List UInt8)):List UInt8:=Go.Lib.join ws [32]++[10]
end Rg
end
section
set_option maxRecDepth 100000
namespace Rg
open Go
def zBz (l:Loop):List (List UInt8):=[[108,111,111,112],num l.head,l.variant.text]
def loopX (l:Loop):List UInt8:=zBB (zBz l++l.body.map num)
end Rg
end
section
set_option maxRecDepth 100000
namespace Rg
open Go
end Rg
end
section
set_option maxRecDepth 100000
namespace Rg
open Go
end Rg
end
section
namespace Rg
open Go
end Rg
end
section
set_option maxRecDepth 100000
namespace Rg
open Go
def exS (L:Int) (e:Expr):Bool:=decide ((e.size:Int)<=L)
def zGu (L:Int) (s:Step):Bool:=decide ((s.set.length:Int)<=40)&&exS L s.guard&&s.set.all fun a=>exS L a.to
def zGy (L:Int) (l:Loop):Bool:=decide ((l.body.length:Int)<=60)&&exS L l.variant
def zGA (L:Int) (m:Contract):Bool:=exS L m.rely&&exS L m.guar&&decide ((m.frame.length:Int)<=60)
def zGr (L:Int) (x:Thread):Bool:=(decide ((x.asserts.length:Int)<=60)&&decide ((x.modules.length:Int)<=60)&&decide ((x.steps.length:Int)<=80)&&decide ((x.loops.length:Int)<=12))&&
 x.asserts.all (exS L)&&x.steps.all (zGu L)&&x.loops.all (zGy L)
def zGn (L:Int) (p:Prog):Bool:=(decide ((p.cells.length:Int)<=40)&&decide ((p.modules.length:Int)<=10)&&decide ((p.locks.length:Int)<=10)&&decide ((p.threads.length:Int)<=8))&&
 p.modules.all (zGA L)&&p.locks.all (fun l=>exS L l.inv)&&p.threads.all (zGr L)
theorem zIi (x:Thread) (L:Int) (hL:0<=L/\L<10000):Den Γ G 239 [(zT x),vi L]=some (vb (zGr L x)):=by
 (refine zag Γ239 rfl ?_;dsimp only[zQT])
 by_cases c1:(60:Int)<x.asserts.length
 ·have hr:zGr L x=false:=by simp[zGr];intros;omega
  simp -dsimp -implicitDefEqProofs only[go_sem,seval,c1,decide_true,hr]
 by_cases c2:(60:Int)<x.modules.length
 ·have hr:zGr L x=false:=by simp[zGr];intros;omega
  simp -dsimp -implicitDefEqProofs only[go_sem,seval,c1,c2,decide_true,decide_false,hr]
 by_cases c3:(80:Int)<x.steps.length
 ·have hr:zGr L x=false:=by simp[zGr];intros;omega
  simp -dsimp -implicitDefEqProofs only[go_sem,seval,c1,c2,c3,decide_true,decide_false,hr]
 by_cases c4:(12:Int)<x.loops.length
 ·have hr:zGr L x=false:=by simp[zGr];intros;omega
  simp -dsimp -implicitDefEqProofs only[go_sem,seval,c1,c2,c3,c4,decide_true,decide_false,hr]
 have hr:zGr L x=(x.asserts.all (exS L)&&(x.steps.all (zGu L)&&x.loops.all (zGy L))):=by
  have e1:(x.asserts.length:Int)<=60:=by omega
  have e2:(x.modules.length:Int)<=60:=by omega
  have e3:(x.steps.length:Int)<=80:=by omega
  have e4:(x.loops.length:Int)<=12:=by omega
  simp[zGr,e1,e2,e3,e4,Bool.and_assoc]
 rw[hr];simp -dsimp -implicitDefEqProofs only[go_sem,seval,c1,c2,c3,c4,decide_false];refine zaT 70366596694064 x.asserts.length (fun i f=>(f 5).v=vi i/\x.asserts.all (exS L)=(x.asserts.drop i).all (exS L)) rfl rfl ⟨by simp -dsimp -implicitDefEqProofs only[go_sem,seval],rfl⟩ ?_;rintro i f u kk bq hi ⟨h5,Aa⟩;have hw:=zan i (by omega);simp -dsimp -implicitDefEqProofs only[go_sem,seval,h5];refine zac (fun h=> ?_) (fun h=> ?_)<;>(try rw[h])<;>(try simp only[zah]at h)<;>(try simp -dsimp -implicitDefEqProofs only[go_sem,seval,h5])
 ·obtain⟨a,ha,_⟩:=zai ‹i<x.asserts.length›;have h2:=zdX a L hL;simp -dsimp -implicitDefEqProofs only[go_sem,seval,h5,ha,h2];refine zac (fun h=> ?_) (fun h=> ?_)<;>(try rw[h])<;>(try simp only[zah]at h)<;>(try simp -dsimp -implicitDefEqProofs only[go_sem,seval,h5])
  ·rw[Aa,za6 (P:=exS L) ha (by simpa[exS]using h),Bool.false_and]
  ·refine⟨by omega,by simp -dsimp -implicitDefEqProofs only[go_sem,seval,hw],?_⟩;rw[Aa,za7 (P:=exS L) ha (by simpa[exS]using h)]
 ·have:i=x.asserts.length:=by omega
  subst this;rw[Aa,zbB,Bool.true_and];clear Aa h5 hw hi;refine zaT 79228162514264267224799772880 x.steps.length (fun i f=>(f 6).v=vi i/\x.steps.all (zGu L)=(x.steps.drop i).all (zGu L)) rfl rfl ⟨by simp -dsimp -implicitDefEqProofs only[go_sem,seval],rfl⟩ ?_;rintro i f u kk bq hi ⟨h6,Aa⟩;have hw:=zan i (by omega);simp -dsimp -implicitDefEqProofs only[go_sem,seval,h6];refine zac (fun h=> ?_) (fun h=> ?_)<;>(try rw[h])<;>(try simp only[zah]at h)<;>(try simp -dsimp -implicitDefEqProofs only[go_sem,seval,h6])
  ·obtain⟨s,hs,_⟩:=zai ‹i<x.steps.length›;have h2:=zdX s.guard L hL
   by_cases c5:(40:Int)<s.set.length
   ·have hr:zGu L s=false:=by simp[zGu];intros;omega
    simp -dsimp -implicitDefEqProofs only[go_sem,seval,h6,hs,h2,c5,decide_true];rw[Aa,za6 hs hr,Bool.false_and]
   ·simp -dsimp -implicitDefEqProofs only[go_sem,seval,h6,hs,h2,c5,decide_false];refine zac (fun h=> ?_) (fun h=> ?_)<;>(try rw[h])<;>(try simp only[zah]at h)<;>(try simp -dsimp -implicitDefEqProofs only[go_sem,seval,h6])
    ·have hr:zGu L s=false:=by simp[zGu,exS];intros;omega
     rw[Aa,za6 hs hr,Bool.false_and]
    ·have hr:zGu L s=s.set.all fun a=>exS L a.to:=by
      have e1:(s.set.length:Int)<=40:=by omega
      have e2:exS L s.guard=true:=by unfold exS;simpa using h
      simp[zGu,e1,e2]
     refine zaT 79228157791897854723898736784 s.set.length (fun j f=>(f 7).v=vi j/\zGu L s=(s.set.drop j).all fun a=>exS L a.to) rfl rfl ⟨by simp -dsimp -implicitDefEqProofs only[go_sem,seval],hr⟩ ?_;rintro j f1 u1 k1 b1 hj ⟨h7,E8⟩;have C9:=zan j (by omega);simp -dsimp -implicitDefEqProofs only[go_sem,seval,h6,h7,hs];refine zac (fun h=> ?_) (fun h=> ?_)<;>(try rw[h])<;>(try simp only[zah]at h)<;>(try simp -dsimp -implicitDefEqProofs only[go_sem,seval,h6,h7])
     ·obtain⟨a,ha,_⟩:=zai ‹j<s.set.length›;have h3:=zdX a.to L hL;simp -dsimp -implicitDefEqProofs only[go_sem,seval,h6,h7,hs,ha,h3];refine zac (fun h=> ?_) (fun h=> ?_)<;>(try rw[h])<;>(try simp only[zah]at h)<;>(try simp -dsimp -implicitDefEqProofs only[go_sem,seval,h6,h7])
      ·rw[za6 (P:=fun a=>exS L a.to) ha (by simpa[exS]using h)]at E8;rw[Aa,za6 hs E8,Bool.false_and]
      ·refine⟨by omega,by simp -dsimp -implicitDefEqProofs only[go_sem,seval,C9],?_⟩;rw[E8,za7 (P:=fun a=>exS L a.to) ha (by simpa[exS]using h)]
     ·have:j=s.set.length:=by omega
      subst this;rw[zbB]at E8;refine⟨by omega,by simp -dsimp -implicitDefEqProofs only[go_sem,seval,hw],?_⟩;rw[Aa,za7 hs E8]
  ·have:i=x.steps.length:=by omega
   subst this;rw[Aa,zbB,Bool.true_and];clear Aa h6 hw hi;refine zaT 5316911903911500977350890647577428240 x.loops.length (fun i f=>(f 8).v=vi i/\x.loops.all (zGy L)=(x.loops.drop i).all (zGy L)) rfl rfl ⟨by simp -dsimp -implicitDefEqProofs only[go_sem,seval],rfl⟩ ?_;rintro i f u kk bq hi ⟨h8,Aa⟩;have hw:=zan i (by omega);simp -dsimp -implicitDefEqProofs only[go_sem,seval,h8];refine zac (fun h=> ?_) (fun h=> ?_)<;>(try rw[h])<;>(try simp only[zah]at h)<;>(try simp -dsimp -implicitDefEqProofs only[go_sem,seval,h8])
   ·obtain⟨l,hl,_⟩:=zai ‹i<x.loops.length›;have h2:=zdX l.variant L hL
    by_cases c5:(60:Int)<l.body.length
    ·have hr:zGy L l=false:=by simp[zGy];intros;omega
     simp -dsimp -implicitDefEqProofs only[go_sem,seval,h8,hl,h2,c5,decide_true];rw[Aa,za6 hl hr]
    ·simp -dsimp -implicitDefEqProofs only[go_sem,seval,h8,hl,h2,c5,decide_false];refine zac (fun h=> ?_) (fun h=> ?_)<;>(try rw[h])<;>(try simp only[zah]at h)<;>(try simp -dsimp -implicitDefEqProofs only[go_sem,seval,h8])
     ·have hr:zGy L l=false:=by simp[zGy,exS];intros;omega
      rw[Aa,za6 hl hr]
     ·have hr:zGy L l=true:=by
       have e1:(l.body.length:Int)<=60:=by omega
       have e2:exS L l.variant=true:=by unfold exS;simpa using h
       simp[zGy,e1,e2]
      refine⟨by omega,by simp -dsimp -implicitDefEqProofs only[go_sem,seval,hw],?_⟩;rw[Aa,za7 hl hr]
   ·have:i=x.loops.length:=by omega
    subst this;rw[Aa,zbB]
theorem zLP (p:Prog) (L:Int) (hL:0<=L/\L<10000):Den Γ G 217 [(zP p),vi L]=some (vb (zGn L p)):=by
 (refine zag Γ217 rfl ?_;dsimp only[zQV])
 by_cases c1:(40:Int)<p.cells.length
 ·have hr:zGn L p=false:=by simp[zGn];intros;omega
  simp -dsimp -implicitDefEqProofs only[go_sem,seval,c1,decide_true,hr]
 by_cases c2:(10:Int)<p.modules.length
 ·have hr:zGn L p=false:=by simp[zGn];intros;omega
  simp -dsimp -implicitDefEqProofs only[go_sem,seval,c1,c2,decide_true,decide_false,hr]
 by_cases c3:(10:Int)<p.locks.length
 ·have hr:zGn L p=false:=by simp[zGn];intros;omega
  simp -dsimp -implicitDefEqProofs only[go_sem,seval,c1,c2,c3,decide_true,decide_false,hr]
 by_cases c4:(8:Int)<p.threads.length
 ·have hr:zGn L p=false:=by simp[zGn];intros;omega
  simp -dsimp -implicitDefEqProofs only[go_sem,seval,c1,c2,c3,c4,decide_true,decide_false,hr]
 have hr:zGn L p=(p.modules.all (zGA L)&&(p.locks.all (fun l=>exS L l.inv)&&p.threads.all (zGr L))):=by
  have e1:(p.cells.length:Int)<=40:=by omega
  have e2:(p.modules.length:Int)<=10:=by omega
  have e3:(p.locks.length:Int)<=10:=by omega
  have e4:(p.threads.length:Int)<=8:=by omega
  simp[zGn,e1,e2,e3,e4,Bool.and_assoc]
 rw[hr];simp -dsimp -implicitDefEqProofs only[go_sem,seval,c1,c2,c3,c4,decide_false];refine zaT 2305843007066210416 p.modules.length (fun i f=>(f 5).v=vi i/\p.modules.all (zGA L)=(p.modules.drop i).all (zGA L)) rfl rfl ⟨by simp -dsimp -implicitDefEqProofs only[go_sem,seval],rfl⟩ ?_;rintro i f u kk bq hi ⟨h5,Aa⟩;have hw:=zan i (by omega);simp -dsimp -implicitDefEqProofs only[go_sem,seval,h5];refine zac (fun h=> ?_) (fun h=> ?_)<;>(try rw[h])<;>(try simp only[zah]at h)<;>(try simp -dsimp -implicitDefEqProofs only[go_sem,seval,h5])
 ·obtain⟨m,hm,_⟩:=zai ‹i<p.modules.length›;have h2:=zdX m.rely L hL;have h3:=zdX m.guar L hL
  by_cases d1:(m.rely.size:Int)<=L
  ·by_cases d2:(m.guar.size:Int)<=L
   ·by_cases d3:(60:Int)<m.frame.length
    ·have hr:zGA L m=false:=by simp[zGA];intros;omega
     simp -dsimp -implicitDefEqProofs only[go_sem,seval,h5,hm,h2,h3,d1,d2,d3,decide_true,decide_false];rw[Aa,za6 hm hr,Bool.false_and]
    ·have hr:zGA L m=true:=by
      have e3:(m.frame.length:Int)<=60:=by omega
      simp[zGA,exS,d1,d2,e3]
     simp -dsimp -implicitDefEqProofs only[go_sem,seval,h5,hm,h2,h3,d1,d2,d3,decide_true,decide_false];show _/\_;refine⟨by omega,by simp -dsimp -implicitDefEqProofs only[go_sem,seval,hw],?_⟩;rw[Aa,za7 hm hr]
   ·have hr:zGA L m=false:=by simp[zGA,exS,d2]
    simp -dsimp -implicitDefEqProofs only[go_sem,seval,h5,hm,h2,h3,d1,d2,decide_true,decide_false];rw[Aa,za6 hm hr,Bool.false_and]
  ·have hr:zGA L m=false:=by simp[zGA,exS,d1]
   simp -dsimp -implicitDefEqProofs only[go_sem,seval,h5,hm,h2,h3,d1,decide_true,decide_false];rw[Aa,za6 hm hr,Bool.false_and]
 ·have:i=p.modules.length:=by omega
  subst this;rw[Aa,zbB,Bool.true_and];clear Aa h5 hw hi;refine zaT 151113421608819433144464 p.locks.length (fun i f=>(f 7).v=vi i/\p.locks.all (fun l=>exS L l.inv)=(p.locks.drop i).all (fun l=>exS L l.inv)) rfl rfl ⟨by simp -dsimp -implicitDefEqProofs only[go_sem,seval],rfl⟩ ?_;rintro i f u kk bq hi ⟨h7,Aa⟩;have hw:=zan i (by omega);simp -dsimp -implicitDefEqProofs only[go_sem,seval,h7];refine zac (fun h=> ?_) (fun h=> ?_)<;>(try rw[h])<;>(try simp only[zah]at h)<;>(try simp -dsimp -implicitDefEqProofs only[go_sem,seval,h7])
  ·obtain⟨l,hl,_⟩:=zai ‹i<p.locks.length›;have h2:=zdX l.inv L hL;simp -dsimp -implicitDefEqProofs only[go_sem,seval,h7,hl,h2];refine zac (fun h=> ?_) (fun h=> ?_)<;>(try rw[h])<;>(try simp only[zah]at h)<;>(try simp -dsimp -implicitDefEqProofs only[go_sem,seval,h7])
   ·rw[Aa,za6 (P:=fun l:Lock=>exS L l.inv) hl (by simpa[exS]using h),Bool.false_and]
   ·refine⟨by omega,by simp -dsimp -implicitDefEqProofs only[go_sem,seval,hw],?_⟩;rw[Aa,za7 (P:=fun l:Lock=>exS L l.inv) hl (by simpa[exS]using h)]
  ·have:i=p.locks.length:=by omega
   subst this;rw[Aa,zbB,Bool.true_and];clear Aa h7 hw hi;refine zaT 4951609041414069270949658896 p.threads.length (fun i f=>(f 8).v=vi i/\p.threads.all (zGr L)=(p.threads.drop i).all (zGr L)) rfl rfl ⟨by simp -dsimp -implicitDefEqProofs only[go_sem,seval],rfl⟩ ?_;rintro i f u kk bq hi ⟨h8,Aa⟩;have hw:=zan i (by omega);simp -dsimp -implicitDefEqProofs only[go_sem,seval,h8];refine zac (fun h=> ?_) (fun h=> ?_)<;>(try rw[h])<;>(try simp only[zah]at h)<;>(try simp -dsimp -implicitDefEqProofs only[go_sem,seval,h8])
   ·obtain⟨x,hx,_⟩:=zai ‹i<p.threads.length›;have h2:=zIi x L hL;simp -dsimp -implicitDefEqProofs only[go_sem,seval,h8,hx,h2];refine zac (fun h=> ?_) (fun h=> ?_)<;>(try rw[h])<;>(try simp only[zah]at h)<;>(try simp -dsimp -implicitDefEqProofs only[go_sem,seval,h8])
    ·rw[Aa,za6 hx h]
    ·refine⟨by omega,by simp -dsimp -implicitDefEqProofs only[go_sem,seval,hw],?_⟩;rw[Aa,za7 hx h]
   ·have:i=p.threads.length:=by omega
    subst this;rw[Aa,zbB]
structure Prog.lite7 (p:Prog):Prop where
 cname: ∀c∈p.cells,c.name.size<2^50
 mname: ∀m∈p.modules,m.name.size<2^50/\m.owner.size<2^50
 tname: ∀t∈p.threads,t.name.size<2^50
structure Prog.SmallP (p:Prog) (L:Int):Prop where
 cells:p.cells.length<=40
 modules:p.modules.length<=10
 locks:p.locks.length<=10
 threads:p.threads.length<=8
 mods: ∀m∈p.modules,m.frame.length<=60/\(m.rely.size:Int)<=L/\(m.guar.size:Int)<=L
 lcks: ∀l∈p.locks,(l.inv.size:Int)<=L
 thr: ∀t∈p.threads,t.asserts.length<=60/\t.modules.length<=60/\t.steps.length<=80/\t.loops.length<=12/\(∀e∈t.asserts,(e.size:Int)<=L)
 steps: ∀t∈p.threads,∀s∈t.steps,s.set.length<=40/\(s.guard.size:Int)<=L/\ ∀a∈s.set,(a.to.size:Int)<=L
 loops: ∀t∈p.threads,∀l∈t.loops,l.body.length<=60/\(l.variant.size:Int)<=L
theorem zJZ {L:Int} {p:Prog} (h:zGn L p=true):p.SmallP L:=by
 simp only[zGn,zGA,exS,zGr,zGu,zGy,zF,decide_eq_true_eq,zN]at h;obtain⟨⟨⟨⟨⟨⟨h1,h2⟩,h3⟩,h4⟩,h5⟩,h6⟩,h7⟩:=h;refine⟨by omega,by omega,by omega,by omega,fun m hm=>⟨by have:=(h5 m hm).2;omega,(h5 m hm).1.1,(h5 m hm).1.2⟩,h6,fun t ht=> ?_,fun t ht s hs=> ?_,fun t ht l hl=> ?_⟩
 ·obtain⟨⟨⟨⟨⟨⟨a,b⟩,c⟩,d⟩,e⟩,_⟩,_⟩:=h7 t ht;exact⟨by omega,by omega,by omega,by omega,e⟩
 ·obtain⟨⟨⟨_,_⟩,e⟩,_⟩:=h7 t ht;obtain⟨⟨a,b⟩,c⟩:=e s hs;exact⟨by omega,b,c⟩
 ·obtain⟨⟨⟨_,_⟩,_⟩,e⟩:=h7 t ht;obtain⟨a,b⟩:=e l hl;exact⟨by omega,b⟩
theorem Prog.SmallP.sane {L:Int} {p:Prog} (hl:p.lite7) (h:p.SmallP L):p.sane:=by
 have h1:=h.cells;have h2:=h.modules;have h3:=h.locks;have h4:=h.threads;refine⟨by omega,by omega,by omega,by omega,hl.cname,?_,?_,?_,?_⟩
 ·intro m hm;have:=h.mods m hm;exact⟨(hl.mname m hm).1,(hl.mname m hm).2,by omega⟩
 ·intro t ht;have:=h.thr t ht;exact⟨hl.tname t ht,by omega,by omega,by omega,by omega⟩
 ·intro t ht s hs;have:=(h.steps t ht s hs).1;omega
 ·intro t ht l hl;have:=(h.loops t ht l hl).1;omega
end Rg
end
section
namespace Rg
open Go
end Rg
end
section
namespace Rg
open Go
theorem zhF (p:Prog) (l:List Int) (c:Int):zcD p (l++[c])=zcD p l+wOf p c:=by simp[zcD]
theorem zoQ (p:Prog) (c:Int): ∀(l:List Int) (n:Int) (s:List Int),stM p (l++[c]) n s=(stM p l n s).set c.toNat (n/ 2^zcD p l % 2^wOf p c)
 | [],n,s=>by simp[stM,zcD]
 | x::l,n,s=>by
   rw[List.cons_append,stM,zoQ p c l,stM];have:zcD p (x::l)=wOf p x+zcD p l:=by simp[zcD]
   rw[this,Int.pow_add,<- Int.ediv_ediv_of_nonneg (Int.le_of_lt (zcn _))]
end Rg
end
section
namespace Rg
open Go
end Rg
end
section
namespace Rg
open Go
end Rg
end
section
set_option maxRecDepth 10000
namespace Rg
open Go
end Rg
end
section
namespace Rg
open Go
end Rg
end
section
set_option maxRecDepth 10000
namespace Rg
open Go
end Rg
end
section
namespace Rg
open Go
theorem zgX: ∀(n:Nat) (l:List Int),l.Nodup->(∀x∈l,0<=x/\x<n)->l.length<=n
 | 0,[],_,_=>Nat.le_refl _
 | 0,x::l,_,hl=>by have:=hl x List.mem_cons_self;omega
 | n+1,l,Bt,hl=>by
   have h:=zgX n (l.erase (n:Int)) (Bt.erase _) fun x hx=>by
    have h1:=Bt.mem_erase_iff.1 hx;have h2:=hl x h1.2;have h3:=h1.1;omega
   rw[List.length_erase]at h;split at h<;>omega
end Rg
end
section
namespace Rg
open Go
end Rg
end
section
namespace Rg
open Go
section
end
end Rg
end
section
namespace Rg
open Go
structure Vis where
 c:Config
 fr:Int
 x:Choice
 deriving Inhabited
def v0 (p:Prog):Vis:=⟨zcm p,-1,⟨0,0,0⟩⟩
end Rg
end
section
namespace Rg
open Go
theorem zud {s:List Int} {c:Nat} (h:c<s.length):(zae s)[c]? =some [vi s[c]]:=by simp[zae,h]
theorem zuc (s:List Int) (c:Nat) (v:Int):(zae s).set c [.t (.int .i64 v)]=zae (s.set c v):=by simp[zae,List.map_set]
theorem zp6 {h:Nat->Option O} {k len:Nat} {s:List Int} {fz:Bool} (hk:h k=some (.rows 1 (zae s) fz)) (hl:len=s.length):toT1 h (.ms k 0 len)=some (.t (ints s)):=by
 have h1:=zdJ h 999 (s.map fun n=>[ti n]) (zbP _)
 have h2:toT h 1000 (.ms k 0 len)=some (ints s):=by
  rw[toT,hk];simp only[rd,Nat.zero_add,List.drop_zero];rw[if_pos (by rw[zab];omega),List.take_of_length_le (by rw[zab];omega)];simp only[zC,zD];rw[show zae s=(s.map fun n=>[ti n]).map (·.map V.t)from rfl,h1];rfl
 simp only[toT1,h2,Option.map_some]
def zGp (l:List Int):Int:=l.foldl (· + ·) 0
theorem zGM (l:List Int) (x:Int):zGp (l++[x])=zGp l+x:=by simp[zGp]
def wsM (p:Prog) (l:List Int):List Int:=l.map fun c=>(wOf p c:Int)
theorem zIA: ∀(l:List Int) (a:Int),l.foldl (· + ·) a=a+l.foldl (· + ·) 0
 | [],a=>by simp
 | x::l,a=>by
   rw[List.foldl_cons,List.foldl_cons,zIA l (a+x),zIA l (0+x)];omega
theorem zHb (p:Prog): ∀l:List Int,zGp (wsM p l)=zcD p l
 | []=>by simp[wsM,zGp,zcD]
 | c::l=>by
   have ih:=zHb p l
   have e:zGp (wsM p (c::l))=wOf p c+zGp (wsM p l):=by
    rw[wsM,List.map_cons,zGp,List.foldl_cons,zIA];rw[zGp,wsM];omega
   rw[e,ih];simp[zcD]
end Rg
end
