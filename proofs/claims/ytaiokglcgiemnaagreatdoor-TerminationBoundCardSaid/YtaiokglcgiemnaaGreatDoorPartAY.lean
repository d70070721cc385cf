/- Part of the proof of the laws of the package relyguardlaw36: an abstract machine for the program's functions, what they compute, and that the machine is the program's. No condition. (H06r H06q H06p H08a H08b H08c H08d RgNx H08e H09a) -/
import Derived.Test.YtaiokglcgiemnaaGreatDoorPartAX
import Derived.Test.YtaiokglcgiemnaaGreatDoorPartAT
set_option linter.unusedSimpArgs false
set_option linter.unusedVariables false
section
-- APPS
namespace Rg
open Go
theorem ne_add4 {k x:Nat} (h:k<x) (a b c d:Nat): ¬k=x+a+b+c+d:=by omega
theorem members_den (l:List Bool) (hl:l.length=32): ∃r h' n',DenR Γ G 78 [.agg (l.map fun b=>vb b)] (fun _=>none) 0=some (r,h',n')/\Own h' n' r 1 (rowsI (marked l 32)):=by
 (refine denR_ofY Γ78 rfl ?_;dsimp only[f78])
 have hlm:(l.map fun b=>vb b).length=32:=by simp[hl]
 have htk:List.take 32 (l.map fun b=>vb b)=l.map fun b=>vb b:=List.take_of_length_le (by omega)
 simp -dsimp -implicitDefEqProofs only[go_sem,seval,appS,hl,htk]
 refine loopYH 131000 32 (fun i f h x=>(f 7).v=vi i/\Own h x (f 3).v 1 (rowsI (marked l i))) rfl ⟨by simp -dsimp -implicitDefEqProofs only[go_sem,seval,appS],.inl ⟨by simp -dsimp -implicitDefEqProofs only[go_sem,seval,appS],rfl⟩⟩ ?_
 rintro i f u H x bs hi ⟨h4,hown⟩
 have hw:=wrapS i (by omega)
 have hi0:(0:Int)<=(i:Int):=by omega
 simp -dsimp -implicitDefEqProofs only[go_sem,seval,appS,h4]
 refine csplit (fun h=> ?_) (fun h=> ?_)<;>(try simp only[bools]at h)<;>(try simp -dsimp -implicitDefEqProofs only[go_sem,seval,appS, *])
 ·have hlt:i<32:=by omega
  have hx:l[i]? =some (l[i]'(by omega)):=List.getElem?_eq_getElem (by omega)
  generalize hb:l[i]'(by omega)=b at hx
  have gx:l.getD i false=b:=by simp[List.getD,hx]
  have hdt:List.take 1 (List.drop (i*1) (l.map fun b=>vb b))=[vb b]:=by
   rw[Nat.mul_one,<- List.map_drop,<- List.map_take]
   have:(l.drop i).take 1=[b]:=by
    rw[List.drop_eq_getElem_cons (by omega),hb];rfl
   rw[this];rfl
  have hle1:i*1<=31:=by omega
  simp -dsimp -implicitDefEqProofs only[go_sem,seval,appS,h4,hdt,hl,hle1]
  refine csplit (fun h=> ?_) (fun h=> ?_)<;>(try simp only[bools]at h)<;>(try simp -dsimp -implicitDefEqProofs only[go_sem,seval,appS, *])
  ·have hms:marked l (i+1)=marked l i++[(i:Int)]:=by rw[marked_succ,gx,h];rfl
   have hml:(marked l i).length<=i:=by
    unfold marked
    rw[List.length_map]
    exact Nat.le_trans (List.length_filter_le _ _) (by simp)
   rcases hown with⟨hv,he⟩ | ⟨k,hv,hk,hh⟩
   ·have he':marked l i=[]:=by simpa[rowsI]using he
    simp -dsimp -implicitDefEqProofs only[go_sem,seval,appS,h4,hv]
    refine⟨by omega,by simp -dsimp -implicitDefEqProofs only[go_sem,seval,appS,hw],?_⟩
    simp -dsimp -implicitDefEqProofs only[go_sem,seval,appS,hms,he',rowsI]
    exact .inr ⟨_,rfl,by omega,by simp -dsimp -implicitDefEqProofs only[go_sem,seval,appS]⟩
   ·have n1:=ne_add hk
    have n2:=ne_add2 hk
    have n3:=ne_add3 hk
    have n4:=ne_add4 hk
    have hra:=rowsI_all (marked l i)
    have hrl:=rowsI_len (marked l i)
    have hle:(rowsI (marked l i)).length<=4294967295:=by omega
    simp -dsimp -implicitDefEqProofs only[go_sem,seval,appS,h4,hv,hh,n1,n2,n3,n4,hra,Nat.le_refl,List.take_length,hle]
    refine⟨by omega,by simp -dsimp -implicitDefEqProofs only[go_sem,seval,appS,hw],?_⟩
    simp -dsimp -implicitDefEqProofs only[go_sem,seval,appS,hms,rowsI_app]
    exact .inr ⟨_,(by rw[List.length_append];rfl),by omega,by simp -dsimp -implicitDefEqProofs only[go_sem,seval,appS]⟩
  ·have hms:marked l (i+1)=marked l i:=by rw[marked_succ,gx,h];simp
   refine⟨by omega,by simp -dsimp -implicitDefEqProofs only[go_sem,seval,appS,hw],?_⟩
   simp -dsimp -implicitDefEqProofs only[go_sem,seval,appS,hms]
   rcases hown with⟨hv,he⟩ | ⟨k,hv,hk,hh⟩
   ·exact .inl ⟨hv,he⟩
   ·exact .inr ⟨k,hv,by omega,hh⟩
 ·have:i=32:=by omega
  subst this
  rcases hown with⟨hv,he⟩ | ⟨k,hv,hk,hh⟩
  ·simp -dsimp -implicitDefEqProofs only[go_sem,seval,appS,hv]
   exact .inl ⟨rfl,he⟩
  ·simp -dsimp -implicitDefEqProofs only[go_sem,seval,appS,hv]
   exact .inr ⟨k,rfl,Nat.lt_of_lt_of_le hk (by first | omega | exact Nat.le_trans (addC_le _ _) (addC_le _ _) | exact addC_le _ _),hh⟩
end Rg
end
section
namespace Rg
open Go
def vbs (l:List Bool):List V:=l.map fun b=>vb b
theorem wr_vbs {l:List Bool} {i:Nat} (h:i<l.length):wr (vbs l) i [vb true]=some (vbs (l.set i true)):=by
 unfold wr vbs
 rw[if_pos (by simp;omega)]
 congr 1
 rw[List.map_set,List.set_eq_take_append_cons_drop,if_pos (by simpa using h)]
 simp
def markS (op:Int) (s:List Bool) (x:Expr):List Bool:=if x.op=op then s.set x.n.toNat true else s
theorem markS_len (op:Int) (s:List Bool) (x:Expr):(markS op s x).length=s.length:=by unfold markS;split<;>simp
def lcS (x:Expr):Bool:=decide (0<=x.n/\(x.kids=[]->x.op=1\/((x.op=2\/x.op=3)/\x.n<32)))
def IS (k1 k4 k5:Nat) (e:Expr) (s:List Bool×List Bool) (h:Nat->Option O):Prop:=
 s.1.length=32/\s.2.length=32/\h k4=some (.rows 32 [vbs s.1] false)/\h k5=some (.rows 32 [vbs s.2] false)/\
 h k1=some (.rows 4 [[.t (ti e.op),.t (ti e.w),.t (ti e.n),.t (.sl (e.kids.map Expr.enc))]] false)
theorem support1_den (k1 k4 k5:Nat) (e:Expr) (h45:k4≠k5) (h14:k1≠k4) (h15:k1≠k5) (s:List Bool×List Bool) (H:Nat->Option O) (n:Nat) (v:V) (x:Expr)
 (hI:IS k1 k4 k5 e s H) (hk:x.kids=[]) (hl:lcS x=true) (hs:Sh H v x):
 ∃r h' n',DenR Γ G 77 [v,.mp k4 0 0,.mp k5 0 0] H n=some (r,h',n')/\IS k1 k4 k5 e (markS 3 s.1 x,markS 2 s.2 x) h'/\ ∀k,k≠k4->k≠k5->h' k=H k:=by
 obtain⟨l1,l2,i4,i5,i1⟩:=hI
 simp only[lcS,decide_eq_true_eq]at hl
 obtain⟨hn0,hop⟩:=hl
 have hop:=hop hk
 (refine denR_ofY Γ77 rfl ?_;dsimp only[f77])
 have hsh: ∃fz,v= .t (.ip [ti x.op,ti x.w,ti x.n,.sl (x.kids.map Expr.enc)])\/ ∃k,v= .mp k 0 0/\H k=some (.rows 4 [[.t (ti x.op),.t (ti x.w),.t (ti x.n),.t (.sl (x.kids.map Expr.enc))]] fz):=by
  rcases hs with h | ⟨k,fz,h1,h2⟩
  ·exact⟨false,.inl h⟩
  ·exact⟨fz,.inr ⟨k,h1,h2⟩⟩
 obtain⟨fz,hsh⟩:=hsh
 rcases hop with ho | ⟨ho,hlt⟩
 ·have m1:markS 3 s.1 x=s.1:=by simp[markS,ho]
  have m2:markS 2 s.2 x=s.2:=by simp[markS,ho]
  rcases hsh with rfl | ⟨k,rfl,hkk⟩
  ·simp -dsimp -implicitDefEqProofs only[go_sem,seval,ho]
   rw[m1,m2];exact⟨⟨l1,l2,i4,i5,i1⟩,fun _ _ _=>rfl⟩
  ·simp -dsimp -implicitDefEqProofs only[go_sem,seval,ho,hkk]
   rw[m1,m2];exact⟨⟨l1,l2,i4,i5,i1⟩,fun _ _ _=>rfl⟩
 ·have hn:0<=x.n/\x.n<32:=⟨hn0,hlt⟩
  have hlt':x.n.toNat<32:=by omega
  have v1:(vbs s.1).length=32:=by simp[vbs,l1]
  have v2:(vbs s.2).length=32:=by simp[vbs,l2]
  have c1:x.n.toNat*1<=31:=by omega
  have w1:=wr_vbs (l:=s.1) (i:=x.n.toNat) (by omega)
  have w2:=wr_vbs (l:=s.2) (i:=x.n.toNat) (by omega)
  unfold wr at w1 w2
  rw[if_pos (by rw[v1];simp;omega)]at w1
  rw[if_pos (by rw[v2];simp;omega)]at w2
  simp only[Option.some.injEq,List.length_cons,List.length_nil,Nat.zero_add,List.append_assoc,List.cons_append,List.nil_append]at w1 w2
  rcases ho with ho | ho
  ·have m1:markS 3 s.1 x=s.1:=by simp[markS,ho]
   have m2:markS 2 s.2 x=s.2.set x.n.toNat true:=by simp[markS,ho]
   rw[m1,m2]
   rcases hsh with rfl | ⟨k,rfl,hkk⟩
   ·simp -dsimp -implicitDefEqProofs only[go_sem,seval,ho,hn,i5,v2,c1]
    refine⟨⟨l1,by simp[l2],by simp -dsimp -implicitDefEqProofs only[go_sem,seval,h45,i4],?_,by simp -dsimp -implicitDefEqProofs only[go_sem,seval,h15,i1]⟩,fun q _ hq=>by simp -dsimp -implicitDefEqProofs only[go_sem,seval,hq]⟩
    simp -dsimp -implicitDefEqProofs only[go_sem,seval,Nat.mul_one,List.append_assoc,w2]
   ·simp -dsimp -implicitDefEqProofs only[go_sem,seval,ho,hn,i5,v2,c1,hkk]
    refine⟨⟨l1,by simp[l2],by simp -dsimp -implicitDefEqProofs only[go_sem,seval,h45,i4],?_,by simp -dsimp -implicitDefEqProofs only[go_sem,seval,h15,i1]⟩,fun q _ hq=>by simp -dsimp -implicitDefEqProofs only[go_sem,seval,hq]⟩
    simp -dsimp -implicitDefEqProofs only[go_sem,seval,Nat.mul_one,List.append_assoc,w2]
  ·have m1:markS 3 s.1 x=s.1.set x.n.toNat true:=by simp[markS,ho]
   have m2:markS 2 s.2 x=s.2:=by simp[markS,ho]
   rw[m1,m2]
   rcases hsh with rfl | ⟨k,rfl,hkk⟩
   ·simp -dsimp -implicitDefEqProofs only[go_sem,seval,ho,hn,i4,v1,c1]
    refine⟨⟨by simp[l1],l2,?_,by simp -dsimp -implicitDefEqProofs only[go_sem,seval,Ne.symm h45,i5],by simp -dsimp -implicitDefEqProofs only[go_sem,seval,h14,i1]⟩,fun q hq _=>by simp -dsimp -implicitDefEqProofs only[go_sem,seval,hq]⟩
    simp -dsimp -implicitDefEqProofs only[go_sem,seval,Nat.mul_one,List.append_assoc,w1]
   ·simp -dsimp -implicitDefEqProofs only[go_sem,seval,ho,hn,i4,v1,c1,hkk]
    refine⟨⟨by simp[l1],l2,?_,by simp -dsimp -implicitDefEqProofs only[go_sem,seval,Ne.symm h45,i5],by simp -dsimp -implicitDefEqProofs only[go_sem,seval,h14,i1]⟩,fun q hq _=>by simp -dsimp -implicitDefEqProofs only[go_sem,seval,hq]⟩
    simp -dsimp -implicitDefEqProofs only[go_sem,seval,Nat.mul_one,List.append_assoc,w1]
end Rg
end
section
-- FULL
namespace Rg
open Go
theorem foldl_pair {α β γ:Type} (f:α->γ->α) (g:β->γ->β): ∀(l:List γ) (a:α) (b:β),l.foldl (fun s x=>(f s.1 x,g s.2 x)) (a,b)=(l.foldl f a,l.foldl g b)
 | [],a,b=>rfl
 | x::l,a,b=>by simp only[List.foldl_cons];exact foldl_pair f g l _ _
def Expr.occ (op:Int) (e:Expr):List Bool:=e.lv.foldl (markS op) (List.replicate 32 false)
def Expr.sup (op:Int) (e:Expr):List Int:=if e.formed then marked (e.occ op) 32 else []
theorem occ_len (op:Int) (e:Expr):(e.occ op).length=32:=by
 unfold Expr.occ
 generalize e.lv=l
 have : ∀(l:List Expr) (s:List Bool),(l.foldl (markS op) s).length=s.length:=by
  intro l
  induction l with
  | nil=>intro s;rfl
  | cons x l ih=>intro s;rw[List.foldl_cons,ih,markS_len]
 rw[this];simp
theorem deep_lcS (d:Nat): ∀e:Expr,e.deep d=true->e.allE (fun x=>lcS x&&decide (x.kids.length<=3))=true:=by
 induction d with
 | zero=>intro e h;simp[Expr.deep]at h
 | succ d ih=>
   intro e h
   rw[Expr.allE_eq]
   have hn:=deep_node h
   simp only[Bool.and_eq_true,List.all_eq_true,decide_eq_true_eq,lcS]
   refine⟨⟨⟨nodeOk_n hn,fun hk=> ?_⟩,nodeOk_len hn⟩,fun k hk=> ?_⟩
   ·have ha:=node_arity hn
    have hw:=node_w hn
    rw[hk]at ha
    obtain⟨op,w,n,ks⟩:=e
    simp only[go_sem]at *
    rcases op_cases op with hh | hh | hh | hh | hh | hh | hh | hh | hh | hh | hh | hh | hh | hh | hop
    ·exact .inl hh
    ·refine .inr ⟨.inl hh,?_⟩
     rw[nodeOk_leaf (by omega) hw]at hn
     simp[hh]at hn;omega
    ·refine .inr ⟨.inr hh,?_⟩
     rw[nodeOk_leaf (by omega) hw]at hn
     simp[hh]at hn;omega
    all_goals(try(rw[hh]at ha;simp[arity]at ha;done))
    rw[arity_bad hop]at ha;simp at ha
   ·have:=ih k (deep_kid h hk)
    simpa only[lcS]using this
def rowsB (l:List Bool):List (List V):=l.map fun b=>[vb b]
theorem rowsB_set (l:List Bool) (i:Nat):(rowsB l).set i [vb true]=rowsB (l.set i true):=by simp[rowsB,List.map_set]
def lcM (x:Expr):Bool:=lcS x&&decide (x.kids=[]\/(x.op≠2/\x.op≠3))&&decide (x.kids.length<=3)
def IM (k4 k5:Nat) (s:List Bool×List Bool) (h:Nat->Option O):Prop:=
 s.1.length=32/\s.2.length=32/\h k4=some (.rows 1 (rowsB s.1) false)/\h k5=some (.rows 1 (rowsB s.2) false)
def markP (s:List Bool×List Bool) (x:Expr):List Bool×List Bool:=(markS 3 s.1 x,markS 2 s.2 x)
theorem marks_den (k4 k5:Nat) (h45:k4≠k5): ∀(e:Expr) (s:List Bool×List Bool) (H:Nat->Option O) (n:Nat),e.allE lcM=true->IM k4 k5 s H->
 ∃r h' n',DenR Γ G 158 [(.agg [.t (ti (e).op),.t (ti (e).w),.t (ti (e).n),.t (.sl ((e).kids.map (Expr.enc)))]),.ms k4 0 32,.ms k5 0 32] H n=some (r,h',n')/\IM k4 k5 (e.lv.foldl markP s) h':=by
 intro e
 induction e using Expr.ind with
 | _ e ih=>
 intro s H n hall hI
 have hself:=Expr.allE_self hall
 simp only[lcM,lcS,Bool.and_eq_true,decide_eq_true_eq]at hself
 obtain⟨⟨⟨hn0,hleaf⟩,hin⟩,hl3⟩:=hself
 obtain⟨l1,l2,i4,i5⟩:=hI
 (refine denR_ofY Γ158 rfl ?_;dsimp only[f158])
 by_cases hk:e.kids=[]
 ·have hlv:e.lv=[e]:=by rw[Expr.lv_eq,if_pos hk]
  rw[hlv]
  rcases hleaf hk with ho | ⟨ho,hlt⟩
  ·simp -dsimp -implicitDefEqProofs only[go_sem,seval,ho,hk]
   refine wL_step ?_
   simp -dsimp -implicitDefEqProofs only[go_sem,seval]
   have m1:markS 3 s.1 e=s.1:=by simp[markS,ho]
   have m2:markS 2 s.2 e=s.2:=by simp[markS,ho]
   rw[show [e].foldl markP s=markP s e from rfl,markP,m1,m2]
   exact⟨l1,l2,i4,i5⟩
  ·have hn:0<=e.n/\e.n<32:=⟨hn0,hlt⟩
   have g1:(rowsB s.1)[e.n.toNat]? =some [vb (s.1[e.n.toNat]'(by omega))]:=by
    simp only[rowsB,List.getElem?_map,List.getElem?_eq_getElem (show e.n.toNat<s.1.length by omega)];rfl
   have g2:(rowsB s.2)[e.n.toNat]? =some [vb (s.2[e.n.toNat]'(by omega))]:=by
    simp only[rowsB,List.getElem?_map,List.getElem?_eq_getElem (show e.n.toNat<s.2.length by omega)];rfl
   rcases ho with ho | ho
   ·simp -dsimp -implicitDefEqProofs only[go_sem,seval,ho,hk,hn,i5,g2]
    refine wL_step ?_
    simp -dsimp -implicitDefEqProofs only[go_sem,seval]
    have m1:markS 3 s.1 e=s.1:=by simp[markS,ho]
    have m2:markS 2 s.2 e=s.2.set e.n.toNat true:=by simp[markS,ho]
    rw[show [e].foldl markP s=markP s e from rfl,markP,m1,m2]
    refine⟨l1,by simp[l2],by simp -dsimp -implicitDefEqProofs only[go_sem,seval,h45,i4],?_⟩
    simp -dsimp -implicitDefEqProofs only[go_sem,seval,rowsB_set]
   ·simp -dsimp -implicitDefEqProofs only[go_sem,seval,ho,hk,hn,i4,g1]
    refine wL_step ?_
    simp -dsimp -implicitDefEqProofs only[go_sem,seval]
    have m1:markS 3 s.1 e=s.1.set e.n.toNat true:=by simp[markS,ho]
    have m2:markS 2 s.2 e=s.2:=by simp[markS,ho]
    rw[show [e].foldl markP s=markP s e from rfl,markP,m1,m2]
    refine⟨by simp[l1],l2,?_,by simp -dsimp -implicitDefEqProofs only[go_sem,seval,Ne.symm h45,i5]⟩
    simp -dsimp -implicitDefEqProofs only[go_sem,seval,rowsB_set]
 ·have hlv:e.lv=e.kids.flatMap Expr.lv:=by rw[Expr.lv_eq,if_neg hk]
  obtain⟨o2,o3⟩:=hin.resolve_left hk
  rw[hlv]
  simp -dsimp -implicitDefEqProofs only[go_sem,seval,o2,o3]
  refine loopYH 68717379648 e.kids.length (fun i f hh x=>(f 6).v=vi i/\IM k4 k5 (((e.kids.take i).flatMap Expr.lv).foldl markP s) hh) rfl ⟨by simp -dsimp -implicitDefEqProofs only[go_sem,seval],by simpa using⟨l1,l2,i4,i5⟩⟩ ?_
  rintro i f u hh x bs hi ⟨h19,hI'⟩
  have hwi:=wrapS i (by omega)
  simp -dsimp -implicitDefEqProofs only[go_sem,seval,h19]
  refine csplit (fun h=> ?_) (fun h=> ?_)<;>(try simp only[bools]at h)<;>(try simp -dsimp -implicitDefEqProofs only[go_sem,seval, *])
  ·obtain⟨y,hy,hm⟩:=get_of ‹i<e.kids.length›
   simp -dsimp -implicitDefEqProofs only[go_sem,seval,h19,hy]
   refine rawK_of (ih y hm _ _ _ (Expr.allE_kid hall hm) hI') ?_
   intro r h' n' hI2
   simp -dsimp -implicitDefEqProofs only[go_sem,seval,h19]
   refine⟨by omega,by simp -dsimp -implicitDefEqProofs only[go_sem,seval,hwi],?_⟩
   rw[take_succ_of hy,List.flatMap_append,List.foldl_append]
   simpa using hI2
  ·have:i=e.kids.length:=by omega
   subst this
   rw[List.take_length]at hI'
   exact hI'
theorem foldl_markP (l:List Expr) (s:List Bool×List Bool):l.foldl markP s=(l.foldl (markS 3) s.1,l.foldl (markS 2) s.2):=by
 have:=foldl_pair (markS 3) (markS 2) l s.1 s.2
 exact this
theorem deep_lcM (d:Nat): ∀e:Expr,e.deep d=true->e.allE lcM=true:=by
 induction d with
 | zero=>intro e h;simp[Expr.deep]at h
 | succ d ih=>
   intro e h
   have h1:=Expr.allE_self (deep_lcS (d+1) e h)
   have hn:=deep_node h
   rw[Expr.allE_eq]
   simp only[Bool.and_eq_true,List.all_eq_true]
   refine⟨?_,fun k hk=>ih k (deep_kid h hk)⟩
   simp only[lcM,Bool.and_eq_true,decide_eq_true_eq]
   simp only[Bool.and_eq_true,decide_eq_true_eq]at h1
   refine⟨⟨h1.1,?_⟩,h1.2⟩
   by_cases hk:e.kids=[]
   ·exact .inl hk
   ·refine .inr ?_
    have ha:=node_arity hn
    have hl: ¬e.kids.length=0:=by simpa using hk
    constructor
    ·intro hh;rw[hh]at ha;simp[arity]at ha;omega
    ·intro hh;rw[hh]at ha;simp[arity]at ha;omega
theorem rowsB_bools (h:Nat->Option O) (d:Nat) (l:List Bool):(rowsB l).mapM (fun row=>row.mapM (toT h d))=some (l.map fun b=>[tb b]):=by
 have:=rows_toT h d (l.map fun b=>[tb b]) (by
  intro e he t ht
  obtain⟨n,_,rfl⟩:=List.mem_map.1 he
  simp at ht;subst ht;rfl)
 simpa[rowsB,Function.comp_def]using this
theorem reach_flat (h:Nat->Option O) (d:Nat) {rs:List (List V)} (hf: ∀r∈rs,∀v∈r,V.tree v=true):rs.flatMap (·.flatMap (reach h d))=[]:=by
 simp only[List.flatMap_eq_nil_iff]
 intro r hr v hv
 have:=hf r hr v hv
 cases v<;>simp_all [V.tree]<;>cases d<;>rfl
theorem denS_ms {r:V} {h:Nat->Option O} {vs:List V} {K:V->(Nat->Option O)->Prop} {w:WK K} {k sz:Nat} {rs:List (List V)} {fz:Bool}
 (hk:h k=some (.rows sz rs fz)) (hr:vs.flatMap (reach1 h)=[k]) (hK: ∀h',(∀j,j≠k->h' j=h j)->(∃fz',h' k=some (.rows sz rs fz'))->K r h'):denS (some r) false h vs K w:=by
 unfold denS
 simp only
 split
 ·exact hK h (fun _ _=>rfl) ⟨fz,hk⟩
 ·refine⟨by simp,hK _ (fun j hj=> ?_) ⟨true,?_⟩⟩
  ·simp[hr,freezes,hk,hpC_cons,hpC_nil,updC_at,hj]
  ·simp[hr,freezes,hk,hpC_cons,hpC_nil,updC_at]
theorem reach_ms {h:Nat->Option O} {k sz:Nat} {rs:List (List V)} {fz:Bool} {i n:Nat} (hk:h k=some (.rows sz rs fz)) (hf: ∀r∈rs,∀v∈r,V.tree v=true): [V.ms k i n].flatMap (reach1 h)=[k]:=by
 simp only[List.flatMap_cons,List.flatMap_nil,List.append_nil,reach1,reach,hk,reach_flat h 999 hf]
theorem rowsB_tree (l:List Bool): ∀r∈rowsB l,∀v∈r,V.tree v=true:=by
 intro r hr v hv
 obtain⟨b,_,rfl⟩:=List.mem_map.1 hr
 simp at hv;subst hv;rfl
theorem supportR_den (e:Expr):Den Γ G 138 [(.agg [.t (ti (e).op),.t (ti (e).w),.t (ti (e).n),.t (.sl ((e).kids.map (Expr.enc)))])]=some (.tup [.t (ints (e.sup 3)),.t (ints (e.sup 2))]):=by
 (refine den_ofY Γ138 rfl ?_;dsimp only[f138])
 have h1:=formed_den e
 by_cases hf:e.formed=true
 ·simp -dsimp -implicitDefEqProofs only[go_sem,seval,h1,hf]
  have hd:=formed_deep hf
  refine rawK_of (marks_den _ _ (by decide) e (List.replicate 32 false,List.replicate 32 false) _ _ (deep_lcM 40 e hd) ⟨rfl,rfl,by simp -dsimp -implicitDefEqProofs only[go_sem,seval];rfl,by simp -dsimp -implicitDefEqProofs only[go_sem,seval];rfl⟩) ?_
  intro r h' n' hI
  rw[foldl_markP]at hI
  obtain⟨l1,l2,i4,i5⟩:=hI
  have o3:=occ_len 3 e
  have o2:=occ_len 2 e
  have m3:=marked_den (e.occ 3) (by omega)
  have m2:=marked_den (e.occ 2) (by omega)
  rw[o3]at m3
  rw[o2]at m2
  change h' _=some (.rows 1 (rowsB (e.occ 3)) false)at i4
  change h' _=some (.rows 1 (rowsB (e.occ 2)) false)at i5
  have v3:(rowsB (e.occ 3)).length=32:=by simp[rowsB,o3]
  have v2:(rowsB (e.occ 2)).length=32:=by simp[rowsB,o2]
  have t3:List.take 32 (rowsB (e.occ 3))=rowsB (e.occ 3):=List.take_of_length_le (by omega)
  have t2:List.take 32 (rowsB (e.occ 2))=rowsB (e.occ 2):=List.take_of_length_le (by omega)
  have b3:=fun d=>rowsB_bools h' d (e.occ 3)
  have b2:=fun d=>rowsB_bools h' d (e.occ 2)
  simp -dsimp -implicitDefEqProofs only[go_sem,seval,i4,v3,t3,b3,m3]
  refine denS_ms i4 (reach_ms i4 (rowsB_tree _)) ?_
  rintro h2 hne -
  have i5:=(hne 8 (by decide)).trans i5
  have b2:=fun d=>rowsB_bools h2 d (e.occ 2)
  simp -dsimp -implicitDefEqProofs only[go_sem,seval,i5,v2,t2,b2,m2]
  refine denS_ms i5 (reach_ms i5 (rowsB_tree _)) ?_
  rintro h3 - -
  simp -dsimp -implicitDefEqProofs only[go_sem,seval]
  simp[Expr.sup,hf]
 ·have hf:e.formed=false:=by simpa using hf
  simp -dsimp -implicitDefEqProofs only[go_sem,seval,h1,hf]
  simp[Expr.sup,hf]
namespace Expr
mutual
def beq:Expr->Expr->Bool
 | .mk o w n k,.mk o' w' n' k'=>decide (o=o'/\w=w'/\n=n')&&beqs k k'
def beqs:List Expr->List Expr->Bool
 | [],[]=>true
 | e::r,e'::r'=>beq e e'&&beqs r r'
 | _,_=>false
end
end Expr
theorem sameOne_den (e:Expr):Den Γ G 156 [(.agg [.t (ti (e).op),.t (ti (e).w),.t (ti (e).n),.t (.sl ((e).kids.map (Expr.enc)))]),.agg [vi 1,vi 1,vi 1,.t (.sl [])]]=some (vb (decide (e.op=1/\e.w=1/\e.n=1/\e.kids=[]))):=by
 (refine den_ofY Γ156 rfl ?_;dsimp only[f156])
 simp -dsimp -implicitDefEqProofs only[go_sem,seval]
 repeat'(refine csplit (fun h=> ?_) (fun h=> ?_)<;>(try simp only[bools]at h)<;>(try simp -dsimp -implicitDefEqProofs only[go_sem,seval, *]))
 ·simp[*]
 ·simp[*]
 ·simp[*]
 ·have : ¬e.kids=[]:=by intro h0;rw[h0]at h;simp at h
  simp[*]
 ·have:e.kids=[]:=by simpa using‹(e.kids.length:Int)=0›
  refine wL_step ?_
  simp -dsimp -implicitDefEqProofs only[go_sem,seval,this]
  simp[*]
def OwnB (h:Nat->Option O) (x:Nat) (v:V) (sz:Nat) (rows:List (List V)):Prop:=
 (v= .t .nils/\rows=[])\/ ∃k,v= .ms k 0 rows.length/\k<x/\h k=some (.rows sz rows false)
theorem OwnB.rowsS {h:Nat->Option O} {x:Nat} {v:V} {sz:Nat} {rows:List (List V)} (o:OwnB h x v sz rows):rowsS h v=some rows:=by
 rcases o with⟨rfl,rfl⟩ | ⟨k,rfl,_,hk⟩
 ·rfl
 ·simp[Rg.rowsS,hk,rd]
theorem OwnB.valOf {h:Nat->Option O} {x:Nat} {v:V} {sz:Nat} {rows:List (List V)} (o:OwnB h x v sz rows):valOf v=some v:=by
 rcases o with⟨rfl,rfl⟩ | ⟨k,rfl,_,hk⟩<;>rfl
theorem putA_app {h:Nat->Option O} {x q sz bytes:Nat} {u:V} {a b:List (List V)} {K:V->List (Nat×O)->Prop} {w:WK K}
 (ho:OwnB h x u sz a) (hx:x<=q) (hlen:a.length+b.length<=2^32) (hby:bytes<=2^12) (hb:(b.all fun r=>decide (r.length=sz))=true) (ha:(a.all fun r=>decide (r.length=sz))=true)
 (hK: ∀v hp,OwnB (hpC h hp) (q+1) v sz (a++b)->(∀j,j<q->(∀i n,u≠ .ms j i n)->hpC h hp j=h j)->(∀j,q<j->hpC h hp j=h j)->K v hp):
 putA false (appS h q sz bytes u a b) K w:=by
 unfold appS
 rw[if_pos ⟨⟨hlen,hby⟩,hb,ha⟩]
 cases b with
 | nil=>
   simp only[List.isEmpty_nil,if_true,putA_some]
   refine hK _ _ ?_ (fun j _ _=>by rw[hpC_nil]) (fun j _=>by rw[hpC_nil])
   rw[hpC_nil,List.append_nil]
   rcases ho with h1 | ⟨k,h1,h2,h3⟩
   ·exact .inl h1
   ·exact .inr ⟨k,h1,by omega,h3⟩
 | cons r b=>
   simp only[List.isEmpty_cons,Bool.false_eq_true,if_false]
   rcases ho with⟨rfl,rfl⟩ | ⟨k,rfl,hk,hh⟩
   ·simp only[putA_some]
    refine hK _ _ (.inr ⟨q,rfl,by omega,?_⟩) (fun j hj _=> ?_) (fun j hj=> ?_)
    ·simp[hpC_cons,hpC_nil,updC_at]
    ·have:j≠q:=by omega
     simp[hpC_cons,hpC_nil,updC_at,this]
    ·have:j≠q:=by omega
     simp[hpC_cons,hpC_nil,updC_at,this]
   ·simp only[hh,and_self,if_true,putA_some,appRows_self]
    refine hK _ _ (.inr ⟨q,by rw[List.length_append],by omega,?_⟩) (fun j hj hne=> ?_) (fun j hj=> ?_)
    ·simp[hpC_cons,hpC_nil,updC_at]
    ·have h1:j≠q:=by omega
     have h2:j≠k:=by rintro rfl;exact hne 0 _ rfl
     simp[hpC_cons,hpC_nil,updC_at,h1,h2]
    ·have h1:j≠q:=by omega
     have h2:j≠k:=by omega
     simp[hpC_cons,hpC_nil,updC_at,h1,h2]
theorem putA_appM {h:Nat->Option O} {x q sz bytes k0 n0:Nat} {a b:List (List V)} {K:V->List (Nat×O)->Prop} {w:WK K}
 (hh:h k0=some (.rows sz a false)) (hn:n0=a.length) (hx:k0<x) (hxq:x<=q) (hlen:a.length+b.length<=2^32) (hby:bytes<=2^12) (hb:(b.all fun r=>decide (r.length=sz))=true) (ha:(a.all fun r=>decide (r.length=sz))=true)
 (hK: ∀k hp,k<q+1->hpC h hp k=some (.rows sz (a++b) false)->(∀j,j<q->j≠k0->hpC h hp j=h j)->(∀j,q<j->hpC h hp j=h j)->K (.ms k 0 (a++b).length) hp):
 putA false (appS h q sz bytes (.ms k0 0 n0) a b) K w:=by
 subst hn
 unfold appS
 rw[if_pos ⟨⟨hlen,hby⟩,hb,ha⟩]
 cases b with
 | nil=>
   simp only[List.isEmpty_nil,if_true,putA_some]
   have:=hK k0 [] (by omega) (by rw[hpC_nil,List.append_nil];exact hh) (fun j _ _=>by rw[hpC_nil]) (fun j _=>by rw[hpC_nil])
   rwa[List.append_nil]at this
 | cons r b=>
   simp only[List.isEmpty_cons,Bool.false_eq_true,if_false,hh,and_self,if_true,putA_some,appRows_self]
   have:=hK q [(k0,.dead),(q,.rows sz (a++r::b) false)] (by omega) (by simp[hpC_cons,hpC_nil,updC_at]) (fun j hj hne=>by
    have h1:j≠q:=by omega
    simp[hpC_cons,hpC_nil,updC_at,h1,hne]) (fun j hj=>by
    have h1:j≠q:=by omega
    have h2:j≠k0:=by omega
    simp[hpC_cons,hpC_nil,updC_at,h1,h2])
   rwa[List.length_append]at this
def inCells (p:Prog) (e:Expr):Prop:= ∀op,op=2\/op=3-> ∀c∈e.sup op,0<=c/\c<p.cells.length
def mayR (p:Prog) (shared:Bool) (t c:Int):Bool:=match p.cells[c.toNat]? with
 | some x=> !((decide (x.thread= -1)&& !shared)||(decide (0<=x.thread)&&decide (x.thread≠t)))
 | none=>false
theorem sup_len (op:Int) (e:Expr):(e.sup op).length<=32:=by
 unfold Expr.sup
 split
 ·unfold marked;rw[List.length_map];exact Nat.le_trans (List.length_filter_le _ _) (by simp)
 ·simp
theorem rowsI_eq (l:List Int):(l.map fun n=>[ti n]).map (fun x=>x.map V.t)=rowsI l:=rfl
theorem overR_den (p:Prog) (e:Expr) (sh:Bool) (t:Int) (hin:inCells p e):
 Den Γ G 115 [(.agg [.t (.sl ((p).cells.map (Cell.enc))),.t (.sl ((p).modules.map (Contract.enc))),.t (.sl ((p).locks.map (Lock.enc))),.t (.sl ((p).threads.map (Thread.enc)))]),(.agg [.t (ti (e).op),.t (ti (e).w),.t (ti (e).n),.t (.sl ((e).kids.map (Expr.enc)))]),vb sh,vi t]=some (vb ((e.sup 3++e.sup 2).all (mayR p sh t))):=by
 (refine den_ofY Γ115 rfl ?_;dsimp only[f115])
 have h1:=supportR_den e
 have s3:=sup_len 3 e
 have s2:=sup_len 2 e
 have hall: ∀c∈e.sup 3++e.sup 2,0<=c/\c<p.cells.length:=by
  intro c hc
  rcases List.mem_append.1 hc with hc | hc
  ·exact hin 3 (.inr rfl) c hc
  ·exact hin 2 (.inl rfl) c hc
 have hap:rowsI (e.sup 3)++rowsI (e.sup 2)=rowsI (e.sup 3++e.sup 2):=by simp[rowsI]
 have hlen:(e.sup 3++e.sup 2).length<=64:=by rw[List.length_append];omega
 simp -dsimp -implicitDefEqProofs only[go_sem,seval,h1,rowsI_eq]
 refine putA_appM (x:=11) (by simp -dsimp -implicitDefEqProofs only[go_sem,seval]) rfl (by decide) (by decide) (by rw[rowsI_len];simp;omega) (by decide) (rowsI_all _) (by decide) ?_
 intro k hp hk hh _ _
 rw[List.nil_append]at hh⊢
 simp -dsimp -implicitDefEqProofs only[go_sem,seval,hh,rowsI_eq,Nat.le_refl,List.take_length]
 refine putA_appM hh rfl hk (by decide) (by rw[rowsI_len,rowsI_len];omega) (by decide) (rowsI_all _) (rowsI_all _) ?_
 intro k2 hp2 hk2 hh2 _ _
 rw[hap]at hh2⊢
 generalize e.sup 3++e.sup 2=l at *
 obtain⟨M,hM⟩: ∃M,M=mayR p sh t:=⟨_,rfl⟩
 rw[<- hM]
 replace hM: ∀c,mayR p sh t c=M c:=fun c=>by rw[hM]
 cases sh
 all_goals(
  simp -dsimp -implicitDefEqProofs only[go_sem,seval]
  refine loopYH 18014398492717312 l.length (fun i f hh x=>(f 12).v=vi i/\hh k2=some (.rows 1 (rowsI l) false)/\(l.take i).all M=true) rfl ⟨by simp -dsimp -implicitDefEqProofs only[go_sem,seval],by simp -dsimp -implicitDefEqProofs only[go_sem,seval,hh2],by simp⟩ ?_
  clear hh2
  rintro i f u hh x bs hi ⟨h12,hh2,htk⟩
  have hwi:=wrapS i (by omega)
  simp -dsimp -implicitDefEqProofs only[go_sem,seval,h12,hh2,rowsI_len]
  refine csplit (fun h=> ?_) (fun h=> ?_)<;>(try simp only[bools]at h)<;>(try simp -dsimp -implicitDefEqProofs only[go_sem,seval, *])
  ·obtain⟨c,hc,hm⟩:=get_of (show i<l.length by omega)
   obtain⟨c0,c1⟩:=hall c hm
   obtain⟨y,hy⟩: ∃y,p.cells[c.toNat]? =some y:=⟨_,List.getElem?_eq_getElem (by omega)⟩
   have hrow:(rowsI l)[i]? =some [vi c]:=by simp[rowsI,hc]
   have hi0:(0:Int)<=(i:Int):=by omega
   have hi1:i<l.length:=by omega
   have hmay:=(hM c).symm
   simp only[mayR,hy]at hmay
   have hno:M c=false->l.all M=false:=fun h0=>all_false_of hm h0
   simp -dsimp -implicitDefEqProofs only[go_sem,seval,h12,hh2,hrow,hi1,c0,hy,rowsI_len]
   repeat'(refine csplit (fun h=> ?_) (fun h=> ?_)<;>(try simp only[bools]at h)<;>(try simp -dsimp -implicitDefEqProofs only[go_sem,seval, *]))
   all_goals first
    | (rw[hno (by rw[hmay];simp[*])];done)
    | (refine⟨by omega,by simp -dsimp -implicitDefEqProofs only[go_sem,seval,hwi],by simp -dsimp -implicitDefEqProofs only[go_sem,seval,hh2],?_⟩
       rw[take_succ_of hc,List.all_append,htk]
       simp only[List.all_cons,List.all_nil,hmay]
       simp[*];(try omega);done)
  ·have:i=l.length:=by omega
   subst this
   rw[List.take_length]at htk
   rw[htk])
theorem OwnB.upd {h:Nat->Option O} {x:Nat} {v:V} {sz:Nat} {rows:List (List V)} (o:OwnB h x v sz rows) {q:Nat} (hq:x<=q) (b:Option O):OwnB (updC h q b) (q+1) v sz rows:=by
 rcases o with o | ⟨k,h1,h2,h3⟩
 ·exact .inl o
 ·exact .inr ⟨k,h1,by omega,by rw[updC_at,if_neg (by omega)];exact h3⟩
theorem OwnB.le {h:Nat->Option O} {x y:Nat} {v:V} {sz:Nat} {rows:List (List V)} (o:OwnB h x v sz rows) (hq:x<=y):OwnB h y v sz rows:=by
 rcases o with o | ⟨k,h1,h2,h3⟩
 ·exact .inl o
 ·exact .inr ⟨k,h1,by omega,h3⟩
theorem OwnB.r1 {h:Nat->Option O} {x:Nat} {v:V} {sz:Nat} {rows:List (List V)} (o:OwnB h x v sz rows) (a:Nat) (b:Option O):Rg.rowsS (updC h (x+a) b) v=some rows:=(o.upd (by omega) b).rowsS
theorem OwnB.r2 {h:Nat->Option O} {x:Nat} {v:V} {sz:Nat} {rows:List (List V)} (o:OwnB h x v sz rows) (a c:Nat) (b:Option O):Rg.rowsS (updC h (x+a+c) b) v=some rows:=(o.upd (by omega) b).rowsS
theorem OwnB.r3 {h:Nat->Option O} {x:Nat} {v:V} {sz:Nat} {rows:List (List V)} (o:OwnB h x v sz rows) (a c d:Nat) (b:Option O):Rg.rowsS (updC h (x+a+c+d) b) v=some rows:=(o.upd (by omega) b).rowsS
theorem OwnB.one {h:Nat->Option O} {x:Nat} {v:V} {sz:Nat} {rows:List (List V)} (o:OwnB h x v sz rows):v.one=true:=by
 rcases o with⟨rfl,_⟩ | ⟨k,rfl,_,_⟩<;>rfl
theorem OwnB.resVal {h:Nat->Option O} {x:Nat} {v:V} {sz:Nat} {rows:List (List V)} (o:OwnB h x v sz rows):Rg.resVal v=some v:=by
 rcases o with⟨rfl,_⟩ | ⟨k,rfl,_,_⟩<;>rfl
def offK (v:V) (k:Nat):Prop:= ∀i n,v≠ .ms k i n
theorem offK_ms {q k:Nat} (h:k≠q) (i n:Nat):offK (.ms q i n) k:=by
 intro i' n' he;cases he;exact h rfl
theorem putA_app1 {h:Nat->Option O} {x q sz bytes:Nat} {u:V} {a:List (List V)} {r:List V} {K:V->List (Nat×O)->Prop} {w:WK K}
 (ho:OwnB h x u sz a) (hx:x<=q) (hlen:a.length<2^32) (hby:bytes<=2^12) (hb:r.length=sz) (ha:(a.all fun r=>decide (r.length=sz))=true)
 (hK: ∀v hp,OwnB (hpC h hp) (q+1) v sz (a++[r])->(∀j,j<x->offK v j)->(∀j,j<x->offK u j->hpC h hp j=h j)->K v hp):
 putA false (appS h q sz bytes u a [r]) K w:=by
 unfold appS
 rw[if_pos ⟨⟨by simp;omega,hby⟩,by simp[hb],ha⟩]
 simp only[List.isEmpty_cons,Bool.false_eq_true,if_false]
 rcases ho with⟨rfl,rfl⟩ | ⟨k,rfl,hk,hh⟩
 ·simp only[putA_some]
  refine hK _ _ (.inr ⟨q,rfl,by omega,?_⟩) (fun j hj=>offK_ms (by omega) _ _) (fun j hj _=> ?_)
  ·simp[hpC_cons,hpC_nil,updC_at]
  ·have:j≠q:=by omega
   simp[hpC_cons,hpC_nil,updC_at,this]
 ·simp only[hh,and_self,if_true,putA_some,appRows_self]
  refine hK _ [(k,.dead),(q,.rows sz (a++[r]) false)] (.inr ⟨q,by rw[List.length_append],by omega,by simp[hpC_cons,hpC_nil,updC_at]⟩) (fun j hj=>offK_ms (by omega) _ _) (fun j hj hne=> ?_)
  have h1:j≠q:=by omega
  have h2:j≠k:=by rintro rfl;exact hne 0 _ rfl
  simp[hpC_cons,hpC_nil,updC_at,h1,h2]
theorem OwnB.keep {h h':Nat->Option O} {x y:Nat} {v:V} {sz:Nat} {rows:List (List V)} (o:OwnB h x v sz rows) (hxy:x<=y) (hh: ∀k,k<x-> ¬offK v k->h' k=h k):OwnB h' y v sz rows:=by
 rcases o with o | ⟨k,rfl,h2,h3⟩
 ·exact .inl o
 ·exact .inr ⟨k,rfl,by omega,by rw[hh k h2 (fun h0=>h0 _ _ rfl)];exact h3⟩
theorem freK_of {h:Nat->Option O} {key g sz:Nat} {vs rs:List V} {es:List (List T)} {K:V->List (Nat×O)->Prop} {w:WK K} (ht:vs.all V.tree=true) (hrs:vs.mapM (toT1 h)=some rs)
 (hd: ∃r h' n',DenR Γ G g rs (fun _=>none) 0=some (r,h',n')/\OwnB h' n' r sz (es.map (·.map V.t)))
 (hK: ∀v hp,OwnB (hpC h hp) (key+1) v sz (es.map (·.map V.t))->(∀j,j≠key->hpC h hp j=h j)->(∀j,j≠key->offK v j)->K v hp):freK (Γ:=Γ) (G:=G) false h key g vs K w:=by
 obtain⟨r,h',n',hden,hown⟩:=hd
 have hreach:vs.flatMap (reach1 h)=[]:=by
  simp only[List.flatMap_eq_nil_iff]
  intro v hv
  exact reach_tree (List.all_eq_true.1 ht v hv)
 refine⟨rfl,hreach,rs,hrs,r,h',n',hden,?_⟩
 rcases hown with⟨rfl,he⟩ | ⟨k,rfl,hk,hh⟩
 ·refine⟨{ val:=.t .nils },rfl,hK _ _ (.inl ⟨rfl,he⟩) (fun j _=>by rw[hpC_nil]) (fun j _ i n h=>by cases h)⟩
 ·have hall:(es.map (·.map V.t)).all (fun row=>row.all V.isTr)=true:=by
   simp[V.isTr]
  refine⟨{ val:=.ms key 0 (es.map (·.map V.t)).length,hp:=[(key,.rows sz (es.map (·.map V.t)) false)] },?_,hK _ _ (.inr ⟨key,rfl,by omega,by simp[hpC_cons,hpC_nil,updC_at]⟩) (fun j hj=>by simp[hpC_cons,hpC_nil,updC_at,hj]) (fun j hj=>offK_ms (by omega) _ _)⟩
  simp only[ownR,hh]
  rw[if_pos ⟨trivial,trivial,hall⟩]
def NxtLe:Task->Out->Prop
 | .code _ s,.code _ s'=>s.nxt<=s'.nxt
 | .loop _ s,.code _ s'=>s.nxt<=s'.nxt
 | .ops _ _ _ s,.ops s'=>s.nxt<=s'.nxt
 | .rcall _ _ _ n,.vals _ _ n'=>n<=n'
 | _,_=>True
theorem big_nxt {Γ:Nat->Option F} {G:Nat->List T} {t:Task} {o:Out} (h:Big Γ G t o):NxtLe t o:=by
 induction h with
 | rext hg hr hb h=>exact(ext_frame h).1
 | opsYield hw hf ho hfv hkk hvs hlen hca hk1 hcb hk2 h iha ihb ih=>
   simp only[NxtLe,St.apply,roundSt]at *
   omega
 | _=>simp_all [NxtLe,St.begin,St.apply,St.init]<;>omega
theorem denR_nxt {Γ:Nat->Option F} {G:Nat->List T} {g:Nat} {args:List V} {h h':Nat->Option O} {n n':Nat} {r:V} (hd:DenR Γ G g args h n=some (r,h',n')):n<=n':=big_nxt (denR_iff.1 hd)
theorem nxt_of {Γ:Nat->Option F} {G:Nat->List T} {g:Nat} {args:List V} {h:Nat->Option O} {n:Nat} {P:V->(Nat->Option O)->Nat->Prop} (hd: ∃r h' n',DenR Γ G g args h n=some (r,h',n')/\P r h' n'):
 ∃r h' n',DenR Γ G g args h n=some (r,h',n')/\(P r h' n'/\n<=n'):=
 let⟨r,h',n',h1,h2⟩:=hd
 ⟨r,h',n',h1,h2,denR_nxt h1⟩
theorem supportP_den (e:Expr) (H0:Nat->Option O) (n0:Nat):
 ∃r h' n',DenR Γ G 60 [(.agg [.t (ti (e).op),.t (ti (e).w),.t (ti (e).n),.t (.sl ((e).kids.map (Expr.enc)))])] H0 n0=some (r,h',n')/\ ∃v3 v2,r= .tup [v3,v2]/\OwnB h' n' v3 1 (rowsI (e.sup 3))/\OwnB h' n' v2 1 (rowsI (e.sup 2))/\n0<=n'/\ ∀k,k<n0->h' k=H0 k/\offK v3 k/\offK v2 k:=by
 (refine denR_ofY Γ60 rfl ?_;dsimp only[f60])
 have h1:=wellFormed_den e
 by_cases hf:e.formed=true
 ·simp -dsimp -implicitDefEqProofs only[go_sem,seval,h1,hf]
  have hd:=formed_deep hf
  refine rawK_of (nxt_of (leaves_den 77 _ (fun s h=>IS (n0+0) (n0+3+3+0) (n0+3+3+1) e s h/\ ∀k,k<n0->h k=H0 k) (fun s x=>(markS 3 s.1 x,markS 2 s.2 x)) lcS ?_ e _ (List.replicate 32 false,List.replicate 32 false) _ _ (deep_lcS 40 e hd) ⟨⟨rfl,rfl,?_,?_,?_⟩,?_⟩ (fun s h hI=> .inr ⟨n0+0,false,rfl,hI.1.2.2.2.2⟩))) ?_
  ·rintro s h n v x ⟨hI,hkp⟩ hk hl hs
   obtain⟨r,h',n',hd,hI',hkp'⟩:=support1_den (n0+0) (n0+3+3+0) (n0+3+3+1) e (by omega) (by omega) (by omega) s h n v x hI hk hl hs
   exact⟨r,h',n',hd,hI',fun k hk=>(hkp' k (by omega) (by omega)).trans (hkp k hk)⟩
  ·rw[updC_at,if_neg (by omega),updC_at,if_pos rfl];rfl
  ·rw[updC_at,if_pos rfl];rfl
  ·rw[updC_at,if_neg (by omega),updC_at,if_neg (by omega),updC_at,if_pos rfl]
  ·intro k hk
   rw[updC_at,if_neg (by omega),updC_at,if_neg (by omega),updC_at,if_neg (by omega)]
  rintro r h' n' ⟨⟨hI,hkp⟩,hnn⟩
  rw[foldl_pair]at hI
  obtain⟨l1,l2,i4,i5,i1⟩:=hI
  change h' (n0+3+3+0)=some (.rows 32 [vbs (e.occ 3)] false)at i4
  change h' (n0+3+3+1)=some (.rows 32 [vbs (e.occ 2)] false)at i5
  have o3:=occ_len 3 e
  have o2:=occ_len 2 e
  have v3:(vbs (e.occ 3)).length=32:=by simp[vbs,o3]
  have v2:(vbs (e.occ 2)).length=32:=by simp[vbs,o2]
  have t3:List.take 32 (vbs (e.occ 3))=vbs (e.occ 3):=List.take_of_length_le (by omega)
  have t2:List.take 32 (vbs (e.occ 2))=vbs (e.occ 2):=List.take_of_length_le (by omega)
  have m3:=members_den (e.occ 3) o3
  have m2:=members_den (e.occ 2) o2
  change ∃r h' n',DenR Γ G 78 [V.agg (vbs (e.occ 3))] (fun _=>none) 0=some (r,h',n')/\_ at m3
  change ∃r h' n',DenR Γ G 78 [V.agg (vbs (e.occ 2))] (fun _=>none) 0=some (r,h',n')/\_ at m2
  have tr: ∀l:List Bool,[V.agg (vbs l)].all V.tree=true:=fun l=>by
   simp only[List.all_cons,List.all_nil,Bool.and_true,V.tree,vbs,List.all_map,List.all_eq_true];intros;rfl
  have mt: ∀(g:Nat->Option O) (l:List Bool),[V.agg (vbs l)].mapM (toT1 g)=some [V.agg (vbs l)]:=fun g l=>by
   have:List.mapM (toT g 1000) (vbs l)=some (l.map fun b=>tb b):=by
    refine mapM_some_of _ _ _ (fun i a ha=> ?_) (by simp[vbs])
    rw[vbs,List.getElem?_map]at ha
    rw[List.getElem?_map]
    cases hb:l[i]? with
    | none=>rw[hb]at ha;simp at ha
    | some x=>rw[hb]at ha;simp at ha;subst ha;exact⟨_,rfl,rfl⟩
   have h2:List.map V.t (l.map fun b=>tb b)=vbs l:=by simp[vbs]
   simp only[List.mapM_cons,List.mapM_nil,toT1,this,Option.map_some,h2];rfl
  simp -dsimp -implicitDefEqProofs only[go_sem,seval,i4,v3,t3]
  refine freK_of (tr _) (mt _ _) m3 ?_
  intro w3 hp3 hO3 hk3 hf3
  have x3:=hO3.valOf
  have i5':=(hk3 (n0+3+3+1) (by omega)).trans i5
  simp -dsimp -implicitDefEqProofs only[go_sem,seval,i5',v2,t2,x3]
  refine freK_of (tr _) (mt _ _) m2 ?_
  intro w2 hp2 hO2 hk2 hf2
  have x2:=hO2.valOf
  have y3:=hO3.resVal
  have y2:=hO2.resVal
  simp only[Rg.resVal]at y3 y2
  simp -dsimp -implicitDefEqProofs only[go_sem,seval,x3,x2,y3,y2]
  have hs: ∀op,marked (e.occ op) 32=e.sup op:=fun op=>by simp[Expr.sup,hf]
  have hO3':=hO3.keep (y:=n'+6) (h':=hpC (hpC h' hp3) hp2) (by omega) (fun k hk _=>hk2 k (by omega))
  have ha: ∀l:List ROp,l.length=6->addC n' l=n'+6:=fun l hl=>by rw[addC_eq];simp[hl]
  refine⟨w3,w2,rfl,?_,?_,?_,fun k hk=>⟨?_,hf3 k (by omega),hf2 k (by omega)⟩⟩
  ·rw[<- hs 3,ha _ rfl];exact hO3'
  ·rw[<- hs 2,ha _ rfl];exact hO2.le (by omega)
  ·rw[ha _ rfl];omega
  ·rw[hk2 k (by omega),hk3 k (by omega)];exact hkp k hk
 ·have hf:e.formed=false:=by simpa using hf
  simp -dsimp -implicitDefEqProofs only[go_sem,seval,h1,hf]
  have hs: ∀op,e.sup op=[]:=fun op=>by simp[Expr.sup,hf]
  rw[hs,hs]
  exact⟨_,_,rfl,.inl ⟨rfl,rfl⟩,.inl ⟨rfl,rfl⟩,Nat.le_trans (addC_le _ _) (Nat.le_trans (addC_le _ _) (addC_le _ _)),fun k hk=>⟨by rw[updC_at,if_neg (by omega)],(fun i n h=>by cases h),(fun i n h=>by cases h)⟩⟩
def feGo {α:Type} (f:Nat->α->Int):Nat->List α->Int×Int
 | _,[]=>(0,-1)
 | i,x::r=>if f i x=0 then feGo f (i+1) r else(f i x,i)
theorem drop_of {α:Type} {l:List α} {i:Nat} {x:α} (h:l[i]? =some x):l.drop i=x::l.drop (i+1):=by
 obtain⟨hi,rfl⟩:=List.getElem?_eq_some_iff.1 h
 exact List.drop_eq_getElem_cons hi
theorem fe_step {α:Type} {f:Nat->α->Int} {l:List α} {i:Nat} {x:α} (h:l[i]? =some x) (h0:f i x=0):feGo f i (l.drop i)=feGo f (i+1) (l.drop (i+1)):=by
 rw[drop_of h,feGo,if_pos h0]
theorem fe_stop {α:Type} {f:Nat->α->Int} {l:List α} {i:Nat} {x:α} (h:l[i]? =some x) (h0: ¬f i x=0):feGo f i (l.drop i)=(f i x,(i:Int)):=by
 rw[drop_of h,feGo,if_neg h0]
theorem fe_end {α:Type} (f:Nat->α->Int) (l:List α):feGo f l.length (l.drop l.length)=(0,-1):=by
 rw[List.drop_length];rfl
theorem all_step {α:Type} {P:α->Bool} {l:List α} {i:Nat} {x:α} (h:l[i]? =some x) (h0:P x=true):(l.drop i).all P=(l.drop (i+1)).all P:=by
 rw[drop_of h,List.all_cons,h0,Bool.true_and]
theorem all_stop {α:Type} {P:α->Bool} {l:List α} {i:Nat} {x:α} (h:l[i]? =some x) (h0:P x=false):(l.drop i).all P=false:=by
 rw[drop_of h,List.all_cons,h0,Bool.false_and]
theorem all_end {α:Type} (P:α->Bool) (l:List α):(l.drop l.length).all P=true:=by
 rw[List.drop_length];rfl
def mayP (p:Prog) (sh:Bool) (t c:Int):Bool:=if sh then sees p t c else ofThread p t c
def overOk (p:Prog) (e:Expr) (sh:Bool) (t:Int):Bool:=(e.sup 3).all (mayP p sh t)&&(e.sup 2).all (mayP p sh t)
def truthOk (p:Prog) (e:Expr) (pair:Bool) (t:Int):Bool:=e.valid p.cells pair&&decide (e.w=1)&&overOk p e true t
def threadBad (x:Thread):Bool:=decide (x.points>48)||decide ((x.steps.length:Int)>64)||decide ((x.loops.length:Int)>8)
def limitsM (p:Prog):Int×Int:=
 if(p.cells.length:Int)>32\/(p.modules.length:Int)>6\/(p.locks.length:Int)>4\/(p.threads.length:Int)>4 then(2,-1)
 else feGo (fun _ x=>if threadBad x then 2 else 0) 0 p.threads
def cellBad (p:Prog) (c:Cell):Bool:=
 !isLabel c.name||decide (c.w<1)||decide (c.w>8)||decide (c.init<0)||decide (c.init>=2^c.w.toNat)||decide (c.thread< -1)||decide (c.thread>=p.threads.length) || !inR c.module p.modules.length
def cellErr (p:Prog) (i:Nat) (c:Cell):Int:=
 if cellBad p c then 1 else if(p.cells.take i).any (fun d=>d.name.toList==c.name.toList)then 41 else 0
def cellsM (p:Prog):Int:=(feGo (cellErr p) 0 p.cells).1
def modErr (p:Prog) (i:Nat) (m:Contract):Int:=
 if !isLabel m.name || !isLabel m.owner then 1
 else if(p.modules.take i).any (fun d=>d.name.toList==m.name.toList)then 41
 else if(!m.rely.absent&& !truthOk p m.rely true (-1)) || !truthOk p m.guar true (-1)then 60
 else if !rising m.frame || !m.frame.all (ofThread p (-1))then 1 else 0
def modulesM (p:Prog):Int:=(feGo (modErr p) 0 p.modules).1
def cellIs (p:Prog) (c:Int) (f:Cell->Bool):Bool:=match p.cells[c.toNat]? with
 | some x=>f x
 | none=>false
def lockErr (p:Prog) (i:Nat) (l:Lock):Int:=
 if !ofThread p (-1) l.cell || !cellIs p l.cell (fun x=>decide (x.w=1))||cellIs p l.cell Cell.ghost || !inR l.module p.modules.length then 1
 else if(p.locks.take i).any (fun d=>decide (d.cell=l.cell))then 1
 else if !truthOk p l.inv false (-1)then 60 else 0
def locksM (p:Prog):Int:=(feGo (lockErr p) 0 p.locks).1
def setErr (p:Prog) (set:List Assign) (i:Nat) (a:Assign):Int:=
 if !inR a.cell p.cells.length||(set.take i).any (fun b=>decide (b.cell=a.cell))then 70
 else if !a.to.valid p.cells false || !cellIs p a.cell (fun x=>decide (a.to.w=x.w))then 60 else 0
def valuesOk (p:Prog) (s:Step) (sh:Bool) (t:Int):Bool:=overOk p s.guard sh t&&s.set.all fun a=>overOk p a.to sh t
def joinOk (p:Prog) (t:Int) (s:Step):Bool:=s.guard.one&&decide (s.set=[])&&decide (s.target≠t)&&inR s.target p.threads.length
def asleepAt (p:Prog) (t:Int):Bool:=match p.threads[t.toNat]? with
 | some x=>x.asleep
 | none=>false
def loadOk (p:Prog) (t:Int) (s:Step):Bool:=match s.set with
 | []=>false
 | a::r=>overOk p s.guard false t&&ofThread p t a.cell&& !cellIs p a.cell Cell.ghost&&decide (a.to.op=2)&&ofThread p (-1) a.to.n&& !cellIs p a.to.n Cell.ghost&&
    r.all fun b=>ofThread p t b.cell&&cellIs p b.cell Cell.ghost&&overOk p b.to false t
def storeOk (p:Prog) (t:Int) (s:Step):Bool:=match s.set with
 | []=>false
 | a::r=>valuesOk p s false t&&ofThread p (-1) a.cell&& !cellIs p a.cell Cell.ghost&&r.all fun b=>cellIs p b.cell Cell.ghost&&sees p t b.cell
def kindOk (p:Prog) (t:Int) (s:Step):Bool:=
 if s.kind=1 then valuesOk p s false t&&s.set.all fun a=>ofThread p t a.cell
 else if s.kind=2 then loadOk p t s
 else if s.kind=3 then storeOk p t s
 else if s.kind=4 then valuesOk p s true t&&s.set.all fun a=>sees p t a.cell
 else if s.kind=5 then s.guard.one&&decide (s.set=[])
 else if s.kind=6 then joinOk p t s&&asleepAt p s.target
 else joinOk p t s
def stepBad (p:Prog) (n:Int) (s:Step):Bool:=
 decide (s.kind<1)||decide (s.kind>7) || !inR s.fr (n-1) || !inR s.to n || !inR s.module p.modules.length||(s.release&&decide (s.kind≠3))||(decide (s.target≠0)&& !(decide (s.kind=6)||decide (s.kind=7)))
def stepErr (p:Prog) (t n:Int) (s:Step):Int:=
 if stepBad p n s then 70
 else if !s.guard.valid p.cells false||decide (s.guard.w≠1)then 60
 else if ¬(feGo (setErr p s.set) 0 s.set).1=0 then(feGo (setErr p s.set) 0 s.set).1
 else if kindOk p t s then 0 else 70
def loopErr (p:Prog) (t n:Int) (l:Loop):Int:=
 if !inR l.head n || !rising l.body || !l.body.all (fun k=>inR k n&&decide (k≠l.head))then 1
 else if !l.variant.valid p.cells false || !overOk p l.variant true t then 60 else 0
def threadErr (p:Prog) (i:Nat) (x:Thread):Int×Int:=
 if !isLabel x.name then(1,-1)
 else if(p.threads.take i).any (fun d=>d.name.toList==x.name.toList)then(41,-1)
 else if x.points<1\/ ¬(x.asserts.length:Int)=x.points\/ ¬(x.modules.length:Int)=x.points then(1,-1)
 else if !x.modules.all (fun m=>inR m p.modules.length)then(1,-1)
 else if !x.asserts.all (fun e=>truthOk p e false i)then(60,-1)
 else if ¬(feGo (fun _ s=>stepErr p i x.points s) 0 x.steps).1=0 then feGo (fun _ s=>stepErr p i x.points s) 0 x.steps
 else((feGo (fun _ l=>loopErr p i x.points l) 0 x.loops).1,-1)
def thrGo (p:Prog):Nat->List Thread->Int×Int×Int
 | _,[]=>(0,-1,-1)
 | i,x::r=>if(threadErr p i x).1=0 then thrGo p (i+1) r else((threadErr p i x).1,(i:Int),(threadErr p i x).2)
def validM (p:Prog):Int×Int×Int:=
 if ¬(limitsM p).1=0 then((limitsM p).1,(limitsM p).2,-1)
 else if ¬cellsM p=0 then(cellsM p,-1,-1)
 else if ¬modulesM p=0 then(modulesM p,-1,-1)
 else if ¬locksM p=0 then(locksM p,-1,-1)
 else thrGo p 0 p.threads
theorem thr_step {p:Prog} {l:List Thread} {i:Nat} {x:Thread} (h:l[i]? =some x) (h0:(threadErr p i x).1=0):thrGo p i (l.drop i)=thrGo p (i+1) (l.drop (i+1)):=by
 rw[drop_of h,thrGo,if_pos h0]
theorem thr_stop {p:Prog} {l:List Thread} {i:Nat} {x:Thread} (h:l[i]? =some x) (h0: ¬(threadErr p i x).1=0):thrGo p i (l.drop i)=((threadErr p i x).1,(i:Int),(threadErr p i x).2):=by
 rw[drop_of h,thrGo,if_neg h0]
theorem thr_end (p:Prog) (l:List Thread):thrGo p l.length (l.drop l.length)=(0,-1,-1):=by
 rw[List.drop_length];rfl
structure Prog.sane (p:Prog):Prop where
 cells:p.cells.length<2^48
 modules:p.modules.length<2^48
 locks:p.locks.length<2^48
 threads:p.threads.length<2^48
 cname: ∀c∈p.cells,c.name.size<2^50
 mname: ∀m∈p.modules,m.name.size<2^50/\m.owner.size<2^50/\m.frame.length<2^48
 thr: ∀t∈p.threads,t.name.size<2^50/\t.asserts.length<2^48/\t.modules.length<2^48/\t.steps.length<2^48/\t.loops.length<2^48
 sets: ∀t∈p.threads,∀s∈t.steps,s.set.length<2^48
 loops: ∀t∈p.threads,∀l∈t.loops,l.body.length<2^48
end Rg
end
