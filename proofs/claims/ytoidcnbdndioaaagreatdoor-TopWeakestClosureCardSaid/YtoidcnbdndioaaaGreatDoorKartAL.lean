/- Part of the proof of laws of relyguardtop. No condition. -/
import Derived.Test.YtoidcnbdndioaaaGreatDoorKartAK
import Derived.Test.YtoidcnbdndioaaaGreatDoorKartAI
set_option linter.unusedSimpArgs false
set_option linter.unusedVariables false
section
namespace Rg
open Go
def vbs (l:List Bool):List V:=l.map fun b=>vb b
theorem zvB {l:List Bool} {i:Nat} (h:i<l.length):wr (vbs l) i [vb true]=some (vbs (l.set i true)):=by
 unfold wr vbs;rw[if_pos (by simp;omega)]
 congr 1
 rw[List.map_set,List.set_eq_take_append_cons_drop,if_pos (by simpa using h)];simp
def zb2 (op:Int) (s:List Bool) (x:Expr):List Bool:=if x.op=op then s.set x.n.toNat true else s
theorem zsg (op:Int) (s:List Bool) (x:Expr):(zb2 op s x).length=s.length:=by unfold zb2;split<;>simp
def lcS (x:Expr):Bool:=decide (0<=x.n/\(x.kids=[]->x.op=1\/((x.op=2\/x.op=3)/\x.n<32)))
def IS (k1 k4 k5:Nat) (e:Expr) (s:List Bool×List Bool) (h:Nat->Option O):Prop:=
 s.1.length=32/\s.2.length=32/\h k4=some (.rows 32 [vbs s.1] false)/\h k5=some (.rows 32 [vbs s.2] false)/\
 h k1=some (.rows 4 [[.t (ti e.op),.t (ti e.w),.t (ti e.n),.t (.sl (e.kids.map Expr.enc))]] false)
theorem zmi (k1 k4 k5:Nat) (e:Expr) (Gh:k4≠k5) (C0:k1≠k4) (Cy:k1≠k5) (s:List Bool×List Bool) (H:Nat->Option O) (n:Nat) (v:V) (x:Expr)
 (hI:IS k1 k4 k5 e s H) (hk:x.kids=[]) (hl:lcS x=true) (hs:Sh H v x):
 ∃r h' n',DenR Γ G 77 [v,.mp k4 0 0,.mp k5 0 0] H n=some (r,h',n')/\IS k1 k4 k5 e (zb2 3 s.1 x,zb2 2 s.2 x) h'/\ ∀k,k≠k4->k≠k5->h' k=H k:=by
 obtain⟨l1,l2,i4,i5,i1⟩:=hI;simp only[lcS,decide_eq_true_eq]at hl;obtain⟨Cg,Ao⟩:=hl;have Ao:=Ao hk
 (refine zay Γ77 rfl ?_;dsimp only[f77])
 have Bo: ∃fz,v= .t (.ip [ti x.op,ti x.w,ti x.n,.sl (x.kids.map Expr.enc)])\/ ∃k,v= .mp k 0 0/\H k=some (.rows 4 [[.t (ti x.op),.t (ti x.w),.t (ti x.n),.t (.sl (x.kids.map Expr.enc))]] fz):=by
  rcases hs with h | ⟨k,fz,h1,h2⟩
  ·exact⟨false,.inl h⟩
  ·exact⟨fz,.inr ⟨k,h1,h2⟩⟩
 obtain⟨fz,Bo⟩:=Bo;rcases Ao with ho | ⟨ho,Ad⟩
 ·have m1:zb2 3 s.1 x=s.1:=by simp[zb2,ho]
  have m2:zb2 2 s.2 x=s.2:=by simp[zb2,ho]
  rcases Bo with rfl | ⟨k,rfl,AB⟩
  ·simp -dsimp only[go_sem,seval,ho];rw[m1,m2];exact⟨⟨l1,l2,i4,i5,i1⟩,fun _ _ _=>rfl⟩
  ·simp -dsimp only[go_sem,seval,ho,AB];rw[m1,m2];exact⟨⟨l1,l2,i4,i5,i1⟩,fun _ _ _=>rfl⟩
 ·have hn:0<=x.n/\x.n<32:=⟨Cg,Ad⟩
  have Lo:x.n.toNat<32:=by omega
  have v1:(vbs s.1).length=32:=by simp[vbs,l1]
  have v2:(vbs s.2).length=32:=by simp[vbs,l2]
  have c1:x.n.toNat*1<=31:=by omega
  have w1:=zvB (l:=s.1) (i:=x.n.toNat) (by omega);have w2:=zvB (l:=s.2) (i:=x.n.toNat) (by omega);unfold wr at w1 w2;rw[if_pos (by rw[v1];simp;omega)]at w1;rw[if_pos (by rw[v2];simp;omega)]at w2;simp only[zA,List.length_cons,List.length_nil,Nat.zero_add,zQ,List.cons_append,List.nil_append]at w1 w2;rcases ho with ho | ho
  ·have m1:zb2 3 s.1 x=s.1:=by simp[zb2,ho]
   have m2:zb2 2 s.2 x=s.2.set x.n.toNat true:=by simp[zb2,ho]
   rw[m1,m2];rcases Bo with rfl | ⟨k,rfl,AB⟩
   ·simp -dsimp only[go_sem,seval,ho,hn,i5,v2,c1];refine⟨⟨l1,by simp[l2],by simp -dsimp only[go_sem,seval,Gh,i4],?_,by simp -dsimp only[go_sem,seval,Cy,i1]⟩,fun q _ hq=>by simp -dsimp only[go_sem,seval,hq]⟩;simp -dsimp only[go_sem,seval,Nat.mul_one,zQ,w2]
   ·simp -dsimp only[go_sem,seval,ho,hn,i5,v2,c1,AB];refine⟨⟨l1,by simp[l2],by simp -dsimp only[go_sem,seval,Gh,i4],?_,by simp -dsimp only[go_sem,seval,Cy,i1]⟩,fun q _ hq=>by simp -dsimp only[go_sem,seval,hq]⟩;simp -dsimp only[go_sem,seval,Nat.mul_one,zQ,w2]
  ·have m1:zb2 3 s.1 x=s.1.set x.n.toNat true:=by simp[zb2,ho]
   have m2:zb2 2 s.2 x=s.2:=by simp[zb2,ho]
   rw[m1,m2];rcases Bo with rfl | ⟨k,rfl,AB⟩
   ·simp -dsimp only[go_sem,seval,ho,hn,i4,v1,c1];refine⟨⟨by simp[l1],l2,?_,by simp -dsimp only[go_sem,seval,Ne.symm Gh,i5],by simp -dsimp only[go_sem,seval,C0,i1]⟩,fun q hq _=>by simp -dsimp only[go_sem,seval,hq]⟩;simp -dsimp only[go_sem,seval,Nat.mul_one,zQ,w1]
   ·simp -dsimp only[go_sem,seval,ho,hn,i4,v1,c1,AB];refine⟨⟨by simp[l1],l2,?_,by simp -dsimp only[go_sem,seval,Ne.symm Gh,i5],by simp -dsimp only[go_sem,seval,C0,i1]⟩,fun q hq _=>by simp -dsimp only[go_sem,seval,hq]⟩;simp -dsimp only[go_sem,seval,Nat.mul_one,zQ,w1]
end Rg
end
section
-- FULL
namespace Rg
open Go
theorem zhz {α β γ:Type} (f:α->γ->α) (g:β->γ->β): ∀(l:List γ) (a:α) (b:β),l.foldl (fun s x=>(f s.1 x,g s.2 x)) (a,b)=(l.foldl f a,l.foldl g b)
 | [],a,b=>rfl
 | x::l,a,b=>by simp only[List.foldl_cons];exact zhz f g l _ _
def Expr.occ (op:Int) (e:Expr):List Bool:=e.lv.foldl (zb2 op) (List.replicate 32 false)
def Expr.sup (op:Int) (e:Expr):List Int:=if e.formed then zbJ (e.occ op) 32 else []
theorem zlt (op:Int) (e:Expr):(e.occ op).length=32:=by
 unfold Expr.occ
 generalize e.lv=l
 have : ∀(l:List Expr) (s:List Bool),(l.foldl (zb2 op) s).length=s.length:=by
  intro l
  induction l with
  | nil=>intro s;rfl
  | cons x l ih=>intro s;rw[List.foldl_cons,ih,zsg]
 rw[this];simp
theorem zpJ (d:Nat): ∀e:Expr,e.deep d=true->e.allE (fun x=>lcS x&&decide (x.kids.length<=3))=true:=by
 induction d with
 | zero=>intro e h;simp[Expr.deep]at h
 | succ d ih=>
   intro e h;rw[Expr.allE_eq];have hn:=zcq h;simp only[zF,zN,decide_eq_true_eq,lcS];refine⟨⟨⟨zfZ hn,fun hk=> ?_⟩,zdj hn⟩,fun k hk=> ?_⟩
   ·have ha:=zct hn;have hw:=zmO hn;rw[hk]at ha;obtain⟨op,w,n,ks⟩:=e;simp only[go_sem]at *;rcases zeg op with hh | hh | hh | hh | hh | hh | hh | hh | hh | hh | hh | hh | hh | hh | Ao
    ·exact .inl hh
    ·refine .inr ⟨.inl hh,?_⟩;rw[ze3 (by omega) hw]at hn;simp[hh]at hn;omega
    ·refine .inr ⟨.inr hh,?_⟩;rw[ze3 (by omega) hw]at hn;simp[hh]at hn;omega
    all_goals(try(rw[hh]at ha;simp[zcO]at ha;done))
    rw[zd7 Ao]at ha;simp at ha
   ·have:=ih k (zc7 h hk);simpa only[lcS]using this
end Rg
end
section
namespace Rg
open Go
def zea (l:List Bool):List (List V):=l.map fun b=>[vb b]
theorem zms (l:List Bool) (i:Nat):(zea l).set i [vb true]=zea (l.set i true):=by simp[zea,List.map_set]
def lcM (x:Expr):Bool:=lcS x&&decide (x.kids=[]\/(x.op≠2/\x.op≠3))&&decide (x.kids.length<=3)
def IM (k4 k5:Nat) (s:List Bool×List Bool) (h:Nat->Option O):Prop:=
 s.1.length=32/\s.2.length=32/\h k4=some (.rows 1 (zea s.1) false)/\h k5=some (.rows 1 (zea s.2) false)
def zih (s:List Bool×List Bool) (x:Expr):List Bool×List Bool:=(zb2 3 s.1 x,zb2 2 s.2 x)
theorem zsf (k4 k5:Nat) (Gh:k4≠k5): ∀(e:Expr) (s:List Bool×List Bool) (H:Nat->Option O) (n:Nat),e.allE lcM=true->IM k4 k5 s H->
 ∃r h' n',DenR Γ G 158 [(.agg [.t (ti (e).op),.t (ti (e).w),.t (ti (e).n),.t (.sl ((e).kids.map (Expr.enc)))]),.ms k4 0 32,.ms k5 0 32] H n=some (r,h',n')/\IM k4 k5 (e.lv.foldl zih s) h':=by
 intro e
 induction e using Expr.ind with
 | _ e ih=>
 intro s H n Aa hI;have DX:=Expr.allE_self Aa;simp only[lcM,lcS,zF,decide_eq_true_eq]at DX;obtain⟨⟨⟨Cg,Eg⟩,Aj⟩,D9⟩:=DX;obtain⟨l1,l2,i4,i5⟩:=hI
 (refine zay Γ158 rfl ?_;dsimp only[f158])
 by_cases hk:e.kids=[]
 ·have F8:e.lv=[e]:=by rw[Expr.lv_eq,if_pos hk]
  rw[F8];rcases Eg hk with ho | ⟨ho,Ad⟩
  ·simp -dsimp only[go_sem,seval,ho,hk];refine zaD ?_;simp -dsimp only[go_sem,seval];have m1:zb2 3 s.1 e=s.1:=by simp[zb2,ho]
   have m2:zb2 2 s.2 e=s.2:=by simp[zb2,ho]
   rw[show [e].foldl zih s=zih s e from rfl,zih,m1,m2];exact⟨l1,l2,i4,i5⟩
  ·have hn:0<=e.n/\e.n<32:=⟨Cg,Ad⟩
   have g1:(zea s.1)[e.n.toNat]? =some [vb (s.1[e.n.toNat]'(by omega))]:=by
    simp only[zea,zJ,zI (show e.n.toNat<s.1.length by omega)];rfl
   have g2:(zea s.2)[e.n.toNat]? =some [vb (s.2[e.n.toNat]'(by omega))]:=by
    simp only[zea,zJ,zI (show e.n.toNat<s.2.length by omega)];rfl
   rcases ho with ho | ho
   ·simp -dsimp only[go_sem,seval,ho,hk,hn,i5,g2];refine zaD ?_;simp -dsimp only[go_sem,seval];have m1:zb2 3 s.1 e=s.1:=by simp[zb2,ho]
    have m2:zb2 2 s.2 e=s.2.set e.n.toNat true:=by simp[zb2,ho]
    rw[show [e].foldl zih s=zih s e from rfl,zih,m1,m2];refine⟨l1,by simp[l2],by simp -dsimp only[go_sem,seval,Gh,i4],?_⟩;simp -dsimp only[go_sem,seval,zms]
   ·simp -dsimp only[go_sem,seval,ho,hk,hn,i4,g1];refine zaD ?_;simp -dsimp only[go_sem,seval];have m1:zb2 3 s.1 e=s.1.set e.n.toNat true:=by simp[zb2,ho]
    have m2:zb2 2 s.2 e=s.2:=by simp[zb2,ho]
    rw[show [e].foldl zih s=zih s e from rfl,zih,m1,m2];refine⟨by simp[l1],l2,?_,by simp -dsimp only[go_sem,seval,Ne.symm Gh,i5]⟩;simp -dsimp only[go_sem,seval,zms]
 ·have F8:e.lv=e.kids.flatMap Expr.lv:=by rw[Expr.lv_eq,if_neg hk]
  obtain⟨o2,o3⟩:=Aj.resolve_left hk;rw[F8];simp -dsimp only[go_sem,seval,o2,o3];refine zaq 68717379648 e.kids.length (fun i f hh x=>(f 6).v=vi i/\IM k4 k5 (((e.kids.take i).flatMap Expr.lv).foldl zih s) hh) rfl ⟨by simp -dsimp only[go_sem,seval],by simpa using⟨l1,l2,i4,i5⟩⟩ ?_;rintro i f u hh x bs hi ⟨EZ,Hi⟩;have BF:=zan i (by omega);simp -dsimp only[go_sem,seval,EZ];refine zac (fun h=> ?_) (fun h=> ?_)<;>(try simp only[zah]at h)<;>(try simp -dsimp only[go_sem,seval, *])
  ·obtain⟨y,hy,hm⟩:=zai ‹i<e.kids.length›;simp -dsimp only[go_sem,seval,EZ,hy];refine zas (ih y hm _ _ _ (Expr.allE_kid Aa hm) Hi) ?_;intro r h' n' IG;simp -dsimp only[go_sem,seval,EZ];refine⟨by omega,by simp -dsimp only[go_sem,seval,BF],?_⟩;rw[zaf hy,List.flatMap_append,List.foldl_append];simpa using IG
  ·have:i=e.kids.length:=by omega
   subst this;rw[List.take_length]at Hi;exact Hi
theorem zoh (l:List Expr) (s:List Bool×List Bool):l.foldl zih s=(l.foldl (zb2 3) s.1,l.foldl (zb2 2) s.2):=by
 have:=zhz (zb2 3) (zb2 2) l s.1 s.2;exact this
theorem zva (d:Nat): ∀e:Expr,e.deep d=true->e.allE lcM=true:=by
 induction d with
 | zero=>intro e h;simp[Expr.deep]at h
 | succ d ih=>
   intro e h;have h1:=Expr.allE_self (zpJ (d+1) e h);have hn:=zcq h;rw[Expr.allE_eq];simp only[zF,zN];refine⟨?_,fun k hk=>ih k (zc7 h hk)⟩;simp only[lcM,zF,decide_eq_true_eq];simp only[zF,decide_eq_true_eq]at h1;refine⟨⟨h1.1,?_⟩,h1.2⟩
   by_cases hk:e.kids=[]
   ·exact .inl hk
   ·refine .inr ?_;have ha:=zct hn;have hl: ¬e.kids.length=0:=by simpa using hk
    constructor
    ·intro hh;rw[hh]at ha;simp[zcO]at ha;omega
    ·intro hh;rw[hh]at ha;simp[zcO]at ha;omega
theorem zgv (h:Nat->Option O) (d:Nat) (l:List Bool):(zea l).mapM (fun row=>row.mapM (toT h d))=some (l.map fun b=>[tb b]):=by
 have:=zdJ h d (l.map fun b=>[tb b]) (by
  intro e he t ht;obtain⟨n,_,rfl⟩:=List.mem_map.1 he
  simp at ht;subst ht;rfl)
 simpa[zea,Function.comp_def]using this
theorem zku (h:Nat->Option O) (d:Nat) {rs:List (List V)} (hf: ∀r∈rs,∀v∈r,V.tree v=true):rs.flatMap (·.flatMap (reach h d))=[]:=by
 simp only[List.flatMap_eq_nil_iff];intro r hr v hv;have:=hf r hr v hv;cases v<;>simp_all [V.tree]<;>cases d<;>rfl
theorem zs5 {r:V} {h:Nat->Option O} {vs:List V} {K:V->(Nat->Option O)->Prop} {w:WK K} {k sz:Nat} {rs:List (List V)} {fz:Bool}
 (hk:h k=some (.rows sz rs fz)) (hr:vs.flatMap (zba h)=[k]) (hK: ∀h',(∀j,j≠k->h' j=h j)->(∃fz',h' k=some (.rows sz rs fz'))->K r h'):zlN (some r) false h vs K w:=by
 unfold zlN;simp only;split
 ·exact hK h (fun _ _=>rfl) ⟨fz,hk⟩
 ·refine⟨by simp,hK _ (fun j hj=> ?_) ⟨true,?_⟩⟩
  ·simp[hr,freezes,hk,zaC,zaA,zaa,hj]
  ·simp[hr,freezes,hk,zaC,zaA,zaa]
theorem zo6 {h:Nat->Option O} {k sz:Nat} {rs:List (List V)} {fz:Bool} {i n:Nat} (hk:h k=some (.rows sz rs fz)) (hf: ∀r∈rs,∀v∈r,V.tree v=true): [V.ms k i n].flatMap (zba h)=[k]:=by
 simp only[List.flatMap_cons,List.flatMap_nil,List.append_nil,zba,reach,hk,zku h 999 hf]
theorem zkp (l:List Bool): ∀r∈zea l,∀v∈r,V.tree v=true:=by
 intro r hr v hv;obtain⟨b,_,rfl⟩:=List.mem_map.1 hr;simp at hv;subst hv;rfl
theorem zmh (e:Expr):Den Γ G 138 [(.agg [.t (ti (e).op),.t (ti (e).w),.t (ti (e).n),.t (.sl ((e).kids.map (Expr.enc)))])]=some (.tup [.t (ints (e.sup 3)),.t (ints (e.sup 2))]):=by
 (refine zag Γ138 rfl ?_;dsimp only[f138])
 have h1:=zhy e
 by_cases hf:e.formed=true
 ·simp -dsimp only[go_sem,seval,h1,hf];have hd:=zcp hf;refine zas (zsf _ _ (by decide) e (List.replicate 32 false,List.replicate 32 false) _ _ (zva 40 e hd) ⟨rfl,rfl,by simp -dsimp only[go_sem,seval];rfl,by simp -dsimp only[go_sem,seval];rfl⟩) ?_;intro r h' n' hI;rw[zoh]at hI;obtain⟨l1,l2,i4,i5⟩:=hI;have o3:=zlt 3 e;have o2:=zlt 2 e;have m3:=zkF (e.occ 3) (by omega);have m2:=zkF (e.occ 2) (by omega);rw[o3]at m3;rw[o2]at m2;change h' _=some (.rows 1 (zea (e.occ 3)) false)at i4;change h' _=some (.rows 1 (zea (e.occ 2)) false)at i5;have v3:(zea (e.occ 3)).length=32:=by simp[zea,o3]
  have v2:(zea (e.occ 2)).length=32:=by simp[zea,o2]
  have t3:List.take 32 (zea (e.occ 3))=zea (e.occ 3):=List.take_of_length_le (by omega);have t2:List.take 32 (zea (e.occ 2))=zea (e.occ 2):=List.take_of_length_le (by omega);have b3:=fun d=>zgv h' d (e.occ 3)
  have b2:=fun d=>zgv h' d (e.occ 2)
  simp -dsimp only[go_sem,seval,i4,v3,t3,b3,m3];refine zs5 i4 (zo6 i4 (zkp _)) ?_;rintro h2 Az -;have i5:=(Az 8 (by decide)).trans i5;have b2:=fun d=>zgv h2 d (e.occ 2)
  simp -dsimp only[go_sem,seval,i5,v2,t2,b2,m2];refine zs5 i5 (zo6 i5 (zkp _)) ?_;rintro h3 - -;simp -dsimp only[go_sem,seval];simp[Expr.sup,hf]
 ·have hf:e.formed=false:=by simpa using hf
  simp -dsimp only[go_sem,seval,h1,hf];simp[Expr.sup,hf]
namespace Expr
mutual
def beq:Expr->Expr->Bool
 | .mk o w n k,.mk o' w' n' k'=>decide (o=o'/\w=w'/\n=n')&&zCP k k'
def zCP:List Expr->List Expr->Bool
 | [],[]=>true
 | e::r,e'::r'=>beq e e'&&zCP r r'
 | _,_=>false
end
end Expr
theorem znM (e:Expr):Den Γ G 156 [(.agg [.t (ti (e).op),.t (ti (e).w),.t (ti (e).n),.t (.sl ((e).kids.map (Expr.enc)))]),.agg [vi 1,vi 1,vi 1,.t (.sl [])]]=some (vb (decide (e.op=1/\e.w=1/\e.n=1/\e.kids=[]))):=by
 (refine zag Γ156 rfl ?_;dsimp only[f156])
 simp -dsimp only[go_sem,seval]
 repeat'(refine zac (fun h=> ?_) (fun h=> ?_)<;>(try simp only[zah]at h)<;>(try simp -dsimp only[go_sem,seval, *]))
 ·simp[*]
 ·simp[*]
 ·simp[*]
 ·have : ¬e.kids=[]:=by intro h0;rw[h0]at h;simp at h
  simp[*]
 ·have:e.kids=[]:=by simpa using‹(e.kids.length:Int)=0›
  refine zaD ?_;simp -dsimp only[go_sem,seval,this];simp[*]
def zaF (h:Nat->Option O) (x:Nat) (v:V) (sz:Nat) (rows:List (List V)):Prop:=
 (v= .t .nils/\rows=[])\/ ∃k,v= .ms k 0 rows.length/\k<x/\h k=some (.rows sz rows false)
theorem zaF.rowsS {h:Nat->Option O} {x:Nat} {v:V} {sz:Nat} {rows:List (List V)} (o:zaF h x v sz rows):rowsS h v=some rows:=by
 rcases o with⟨rfl,rfl⟩ | ⟨k,rfl,_,hk⟩
 ·rfl
 ·simp[Rg.rowsS,hk,rd]
theorem zaF.lenS {h:Nat->Option O} {x:Nat} {v:V} {sz:Nat} {rows:List (List V)} (o:zaF h x v sz rows):lenS h v=some rows.length:=by
 rcases o with⟨rfl,rfl⟩ | ⟨k,rfl,_,hk⟩
 ·rfl
 ·simp[Rg.lenS,hk]
theorem zaF.valOf {h:Nat->Option O} {x:Nat} {v:V} {sz:Nat} {rows:List (List V)} (o:zaF h x v sz rows):valOf v=some v:=by
 rcases o with⟨rfl,rfl⟩ | ⟨k,rfl,_,hk⟩<;>rfl
theorem zmF {h:Nat->Option O} {x q sz bytes k0 n0:Nat} {a b:List (List V)} {K:V->List (Nat×O)->Prop} {w:WK K}
 (hh:h k0=some (.rows sz a false)) (hn:n0=a.length) (hx:k0<x) (Ry:x<=q) (Ac:a.length+b.length<=2^32) (SX:bytes<=2^12) (hb:(b.all fun r=>decide (r.length=sz))=true) (ha:(a.all fun r=>decide (r.length=sz))=true)
 (hK: ∀k hp,k<q+1->At h hp k=some (.rows sz (a++b) false)->(∀j,j<q->j≠k0->At h hp j=h j)->(∀j,q<j->At h hp j=h j)->K (.ms k 0 (a++b).length) hp):
 ziX false (zck h q sz bytes (.ms k0 0 n0) a b) K w:=by
 subst hn;unfold zck;rw[if_pos ⟨⟨Ac,SX⟩,hb,ha⟩]
 cases b with
 | nil=>
   simp only[List.isEmpty_nil,if_true,zcb];have:=hK k0 [] (by omega) (by rw[zaA,List.append_nil];exact hh) (fun j _ _=>by rw[zaA]) (fun j _=>by rw[zaA])
   rwa[List.append_nil]at this
 | cons r b=>
   simp only[List.isEmpty_cons,zG,if_false,hh,and_self,if_true,zcb,zfP]
   have:=hK q [(k0,.dead),(q,.rows sz (a++r::b) false)] (by omega) (by simp[zaC,zaA,zaa]) (fun j hj Az=>by
    have h1:j≠q:=by omega
    simp[zaC,zaA,zaa,h1,Az]) (fun j hj=>by
    have h1:j≠q:=by omega
    have h2:j≠k0:=by omega
    simp[zaC,zaA,zaa,h1,h2])
   rwa[zM]at this
def zod (p:Prog) (e:Expr):Prop:= ∀op,op=2\/op=3-> ∀c∈e.sup op,0<=c/\c<p.cells.length
def zxu (p:Prog) (shared:Bool) (t c:Int):Bool:=match p.cells[c.toNat]? with
 | some x=> !((decide (x.thread= -1)&& !shared)||(decide (0<=x.thread)&&decide (x.thread≠t)))
 | none=>false
theorem zfp (op:Int) (e:Expr):(e.sup op).length<=32:=by
 unfold Expr.sup;split
 ·unfold zbJ;rw[List.length_map];exact Nat.le_trans (List.length_filter_le _ _) (by simp)
 ·simp
theorem zlh (l:List Int):(l.map fun n=>[ti n]).map (fun x=>x.map V.t)=zae l:=rfl
theorem zr2 (p:Prog) (e:Expr) (sh:Bool) (t:Int) (Aj:zod p e):
 Den Γ G 115 [(zP p),(.agg [.t (ti (e).op),.t (ti (e).w),.t (ti (e).n),.t (.sl ((e).kids.map (Expr.enc)))]),vb sh,vi t]=some (vb ((e.sup 3++e.sup 2).all (zxu p sh t))):=by
 (refine zag Γ115 rfl ?_;dsimp only[f115])
 have h1:=zmh e;have s3:=zfp 3 e;have s2:=zfp 2 e
 have Aa: ∀c∈e.sup 3++e.sup 2,0<=c/\c<p.cells.length:=by
  intro c hc;rcases List.mem_append.1 hc with hc | hc
  ·exact Aj 3 (.inr rfl) c hc
  ·exact Aj 2 (.inl rfl) c hc
 have FI:zae (e.sup 3)++zae (e.sup 2)=zae (e.sup 3++e.sup 2):=by simp[zae]
 have Ac:(e.sup 3++e.sup 2).length<=64:=by rw[zM];omega
 simp -dsimp only[go_sem,seval,h1,zlh];refine zmF (x:=11) (by simp -dsimp only[go_sem,seval]) rfl (by decide) (by decide) (by rw[zab];simp;omega) (by decide) (zaQ _) (by decide) ?_;intro k hp hk hh _ _;rw[List.nil_append]at hh⊢;simp -dsimp only[go_sem,seval,hh,zlh,Nat.le_refl,List.take_length];refine zmF hh rfl hk (by decide) (by rw[zab,zab];omega) (by decide) (zaQ _) (zaQ _) ?_;intro k2 D0 AF Cl _ _;rw[FI]at Cl⊢
 generalize e.sup 3++e.sup 2=l at *
 obtain⟨M,hM⟩: ∃M,M=zxu p sh t:=⟨_,rfl⟩
 rw[<- hM];replace hM: ∀c,zxu p sh t c=M c:=fun c=>by rw[hM]
 cases sh
 all_goals(
  simp -dsimp only[go_sem,seval];refine zaq 18014398492717312 l.length (fun i f hh x=>(f 12).v=vi i/\hh k2=some (.rows 1 (zae l) false)/\(l.take i).all M=true) rfl ⟨by simp -dsimp only[go_sem,seval],by simp -dsimp only[go_sem,seval,Cl],by simp⟩ ?_;clear Cl;rintro i f u hh x bs hi ⟨Hq,Cl,Dv⟩;have BF:=zan i (by omega);simp -dsimp only[go_sem,seval,Hq,Cl,zab];refine zac (fun h=> ?_) (fun h=> ?_)<;>(try simp only[zah]at h)<;>(try simp -dsimp only[go_sem,seval, *])
  ·obtain⟨c,hc,hm⟩:=zai (show i<l.length by omega);obtain⟨c0,c1⟩:=Aa c hm;obtain⟨y,hy⟩: ∃y,p.cells[c.toNat]? =some y:=⟨_,zI (by omega)⟩
   have Ap:(zae l)[i]? =some [vi c]:=by simp[zae,hc]
   have Dq:(0:Int)<=(i:Int):=by omega
   have B8:i<l.length:=by omega
   have Jx:=(hM c).symm;simp only[zxu,hy]at Jx;have Be:M c=false->l.all M=false:=fun h0=>zcr hm h0
   simp -dsimp only[go_sem,seval,Hq,Cl,Ap,B8,c0,hy,zab]
   repeat'(refine zac (fun h=> ?_) (fun h=> ?_)<;>(try simp only[zah]at h)<;>(try simp -dsimp only[go_sem,seval, *]))
   all_goals first
    | (rw[Be (by rw[Jx];simp[*])];done)
    | (refine⟨by omega,by simp -dsimp only[go_sem,seval,BF],by simp -dsimp only[go_sem,seval,Cl],?_⟩
       rw[zaf hc,List.all_append,Dv];simp only[List.all_cons,List.all_nil,Jx]
       simp[*];(try omega);done)
  ·have:i=l.length:=by omega
   subst this;rw[List.take_length]at Dv
   rw[Dv])
theorem zaF.upd {h:Nat->Option O} {x:Nat} {v:V} {sz:Nat} {rows:List (List V)} (o:zaF h x v sz rows) {q:Nat} (hq:x<=q) (b:Option O):zaF (updC h q b) (q+1) v sz rows:=by
 rcases o with o | ⟨k,h1,h2,h3⟩
 ·exact .inl o
 ·exact .inr ⟨k,h1,by omega,by rw[zaa,if_neg (by omega)];exact h3⟩
theorem zaF.le {h:Nat->Option O} {x y:Nat} {v:V} {sz:Nat} {rows:List (List V)} (o:zaF h x v sz rows) (hq:x<=y):zaF h y v sz rows:=by
 rcases o with o | ⟨k,h1,h2,h3⟩
 ·exact .inl o
 ·exact .inr ⟨k,h1,by omega,h3⟩
theorem zaF.r1 {h:Nat->Option O} {x:Nat} {v:V} {sz:Nat} {rows:List (List V)} (o:zaF h x v sz rows) (a:Nat) (b:Option O):Rg.rowsS (updC h (x+a) b) v=some rows:=(o.upd (by omega) b).rowsS
theorem zaF.r2 {h:Nat->Option O} {x:Nat} {v:V} {sz:Nat} {rows:List (List V)} (o:zaF h x v sz rows) (a c:Nat) (b:Option O):Rg.rowsS (updC h (x+a+c) b) v=some rows:=(o.upd (by omega) b).rowsS
theorem zaF.r3 {h:Nat->Option O} {x:Nat} {v:V} {sz:Nat} {rows:List (List V)} (o:zaF h x v sz rows) (a c d:Nat) (b:Option O):Rg.rowsS (updC h (x+a+c+d) b) v=some rows:=(o.upd (by omega) b).rowsS
theorem zaF.r4 {h:Nat->Option O} {x:Nat} {v:V} {sz:Nat} {rows:List (List V)} (o:zaF h x v sz rows) (a c d e:Nat) (b:Option O):Rg.rowsS (updC h (x+a+c+d+e) b) v=some rows:=(o.upd (by omega) b).rowsS
theorem zaF.r5 {h:Nat->Option O} {x:Nat} {v:V} {sz:Nat} {rows:List (List V)} (o:zaF h x v sz rows) (a c d e f:Nat) (b:Option O):Rg.rowsS (updC h (x+a+c+d+e+f) b) v=some rows:=(o.upd (by omega) b).rowsS
theorem zaF.reify {h:Nat->Option O} {x:Nat} {v:V} {sz:Nat} {es:List (List T)} (o:zaF h x v sz (es.map (·.map V.t))) (hn: ∀e∈es,∀t∈e,T.norm t=t):Rg.reify h v=some (.t (.sl es)):=by
 have:=zcc o hn;rcases o with⟨rfl,he⟩ | ⟨k,rfl,_,_⟩
 ·have:es=[]:=by simpa using he
  subst this;rfl
 ·simp only[Rg.reify,toT1,this,Option.map_some]
theorem zaF.one {h:Nat->Option O} {x:Nat} {v:V} {sz:Nat} {rows:List (List V)} (o:zaF h x v sz rows):v.one=true:=by
 rcases o with⟨rfl,_⟩ | ⟨k,rfl,_,_⟩<;>rfl
theorem zaF.resVal {h:Nat->Option O} {x:Nat} {v:V} {sz:Nat} {rows:List (List V)} (o:zaF h x v sz rows):Rg.resVal v=some v:=by
 rcases o with⟨rfl,_⟩ | ⟨k,rfl,_,_⟩<;>rfl
def zbg (v:V) (k:Nat):Prop:= ∀i n,v≠ .ms k i n
theorem za3 {q k:Nat} (h:k≠q) (i n:Nat):zbg (.ms q i n) k:=by
 intro i' n' he;cases he;exact h rfl
theorem zaF.off {h:Nat->Option O} {x:Nat} {v:V} {sz:Nat} {rows:List (List V)} (o:zaF h x v sz rows) {k:Nat} (hk:x<=k):zbg v k:=by
 rcases o with⟨rfl,_⟩ | ⟨k',rfl,h2,_⟩
 ·intro i n he;cases he
 ·exact za3 (by omega) _ _
theorem zav {h:Nat->Option O} {x q sz bytes:Nat} {u:V} {a:List (List V)} {r:List V} {K:V->List (Nat×O)->Prop} {w:WK K}
 (ho:zaF h x u sz a) (hx:x<=q) (Ac:a.length<2^32) (SX:bytes<=2^12) (hb:r.length=sz) (ha:(a.all fun r=>decide (r.length=sz))=true)
 (hK: ∀v hp,zaF (At h hp) (q+1) v sz (a++[r])->(∀j,j<x->zbg v j)->(∀j,j<x->zbg u j->At h hp j=h j)->K v hp):
 ziX false (zck h q sz bytes u a [r]) K w:=by
 unfold zck;rw[if_pos ⟨⟨by simp;omega,SX⟩,by simp[hb],ha⟩];simp only[List.isEmpty_cons,zG,if_false];rcases ho with⟨rfl,rfl⟩ | ⟨k,rfl,hk,hh⟩
 ·simp only[zcb];refine hK _ _ (.inr ⟨q,rfl,by omega,?_⟩) (fun j hj=>za3 (by omega) _ _) (fun j hj _=> ?_)
  ·simp[zaC,zaA,zaa]
  ·have:j≠q:=by omega
   simp[zaC,zaA,zaa,this]
 ·simp only[hh,and_self,if_true,zcb,zfP];refine hK _ [(k,.dead),(q,.rows sz (a++[r]) false)] (.inr ⟨q,by rw[zM],by omega,by simp[zaC,zaA,zaa]⟩) (fun j hj=>za3 (by omega) _ _) (fun j hj Az=> ?_);have h1:j≠q:=by omega
  have h2:j≠k:=by rintro rfl;exact Az 0 _ rfl
  simp[zaC,zaA,zaa,h1,h2]
theorem zaF.keep {h h':Nat->Option O} {x y:Nat} {v:V} {sz:Nat} {rows:List (List V)} (o:zaF h x v sz rows) (BW:x<=y) (hh: ∀k,k<x-> ¬zbg v k->h' k=h k):zaF h' y v sz rows:=by
 rcases o with o | ⟨k,rfl,h2,h3⟩
 ·exact .inl o
 ·exact .inr ⟨k,rfl,by omega,by rw[hh k h2 (fun h0=>h0 _ _ rfl)];exact h3⟩
theorem zhx {h:Nat->Option O} {key g sz:Nat} {vs rs:List V} {es:List (List T)} {K:V->List (Nat×O)->Prop} {w:WK K} (ht:vs.all V.tree=true) (AD:vs.mapM (toT1 h)=some rs)
 (hd: ∃r h' n',DenR Γ G g rs (fun _=>none) 0=some (r,h',n')/\zaF h' n' r sz (es.map (·.map V.t)))
 (hK: ∀v hp,zaF (At h hp) (key+1) v sz (es.map (·.map V.t))->(∀j,j≠key->At h hp j=h j)->(∀j,j≠key->zbg v j)->K v hp):zyL (Γ:=Γ) (G:=G) false h key g vs K w:=by
 obtain⟨r,h',n',CF,Ab⟩:=hd
 have Je:vs.flatMap (zba h)=[]:=by
  simp only[List.flatMap_eq_nil_iff];intro v hv;exact zkt (zN.1 ht v hv)
 refine⟨rfl,Je,rs,AD,r,h',n',CF,?_⟩;rcases Ab with⟨rfl,he⟩ | ⟨k,rfl,hk,hh⟩
 ·refine⟨{ val:=.t .nils },rfl,hK _ _ (.inl ⟨rfl,he⟩) (fun j _=>by rw[zaA]) (fun j _ i n h=>by cases h)⟩
 ·have Aa:(es.map (·.map V.t)).all (fun row=>row.all V.isTr)=true:=by
   simp[V.isTr]
  refine⟨{ val:=.ms key 0 (es.map (·.map V.t)).length,hp:=[(key,.rows sz (es.map (·.map V.t)) false)] },?_,hK _ _ (.inr ⟨key,rfl,by omega,by simp[zaC,zaA,zaa]⟩) (fun j hj=>by simp[zaC,zaA,zaa,hj]) (fun j hj=>za3 (by omega) _ _)⟩;simp only[zqm,hh];rw[if_pos ⟨trivial,trivial,Aa⟩]
def zxq:Task->Out->Prop
 | .code _ s,.code _ s'=>s.nxt<=s'.nxt
 | .loop _ s,.code _ s'=>s.nxt<=s'.nxt
 | .ops _ _ _ s,.ops s'=>s.nxt<=s'.nxt
 | .rcall _ _ _ n,.vals _ _ n'=>n<=n'
 | _,_=>True
theorem zxh {Γ:Nat->Option F} {G:Nat->List T} {t:Task} {o:Out} (h:Big Γ G t o):zxq t o:=by
 induction h with
 | rext hg hr hb h=>exact(zm6 h).1
 | opsYield hw hf ho As AB Au Ac Bi A3 RK AF h iha ihb ih=>
   simp only[zxq,St.apply,zht]at *
   omega
 | _=>simp_all [zxq,St.begin,St.apply,St.init]<;>omega
theorem zu9 {Γ:Nat->Option F} {G:Nat->List T} {g:Nat} {args:List V} {h h':Nat->Option O} {n n':Nat} {r:V} (hd:DenR Γ G g args h n=some (r,h',n')):n<=n':=zxh (zcI.1 hd)
theorem zyv {Γ:Nat->Option F} {G:Nat->List T} {g:Nat} {args:List V} {h:Nat->Option O} {n:Nat} {P:V->(Nat->Option O)->Nat->Prop} (hd: ∃r h' n',DenR Γ G g args h n=some (r,h',n')/\P r h' n'):
 ∃r h' n',DenR Γ G g args h n=some (r,h',n')/\(P r h' n'/\n<=n'):=
 let⟨r,h',n',h1,h2⟩:=hd
 ⟨r,h',n',h1,h2,zu9 h1⟩
theorem zfo (e:Expr) (H0:Nat->Option O) (n0:Nat):
 ∃r h' n',DenR Γ G 60 [(.agg [.t (ti (e).op),.t (ti (e).w),.t (ti (e).n),.t (.sl ((e).kids.map (Expr.enc)))])] H0 n0=some (r,h',n')/\ ∃v3 v2,r= .tup [v3,v2]/\zaF h' n' v3 1 (zae (e.sup 3))/\zaF h' n' v2 1 (zae (e.sup 2))/\n0<=n'/\ ∀k,k<n0->h' k=H0 k/\zbg v3 k/\zbg v2 k:=by
 (refine zay Γ60 rfl ?_;dsimp only[f60])
 have h1:=zeo e
 by_cases hf:e.formed=true
 ·simp -dsimp only[go_sem,seval,h1,hf];have hd:=zcp hf;refine zas (zyv (zkJ 77 _ (fun s h=>IS (n0+0) (n0+3+3+0) (n0+3+3+1) e s h/\ ∀k,k<n0->h k=H0 k) (fun s x=>(zb2 3 s.1 x,zb2 2 s.2 x)) lcS ?_ e _ (List.replicate 32 false,List.replicate 32 false) _ _ (zpJ 40 e hd) ⟨⟨rfl,rfl,?_,?_,?_⟩,?_⟩ (fun s h hI=> .inr ⟨n0+0,false,rfl,hI.1.2.2.2.2⟩))) ?_
  ·rintro s h n v x ⟨hI,A8⟩ hk hl hs;obtain⟨r,h',n',hd,Hi,NF⟩:=zmi (n0+0) (n0+3+3+0) (n0+3+3+1) e (by omega) (by omega) (by omega) s h n v x hI hk hl hs;exact⟨r,h',n',hd,Hi,fun k hk=>(NF k (by omega) (by omega)).trans (A8 k hk)⟩
  ·rw[zaa,if_neg (by omega),zaa,if_pos rfl];rfl
  ·rw[zaa,if_pos rfl];rfl
  ·rw[zaa,if_neg (by omega),zaa,if_neg (by omega),zaa,if_pos rfl]
  ·intro k hk;rw[zaa,if_neg (by omega),zaa,if_neg (by omega),zaa,if_neg (by omega)]
  rintro r h' n' ⟨⟨hI,A8⟩,U4⟩;rw[zhz]at hI;obtain⟨l1,l2,i4,i5,i1⟩:=hI;change h' (n0+3+3+0)=some (.rows 32 [vbs (e.occ 3)] false)at i4;change h' (n0+3+3+1)=some (.rows 32 [vbs (e.occ 2)] false)at i5;have o3:=zlt 3 e;have o2:=zlt 2 e;have v3:(vbs (e.occ 3)).length=32:=by simp[vbs,o3]
  have v2:(vbs (e.occ 2)).length=32:=by simp[vbs,o2]
  have t3:List.take 32 (vbs (e.occ 3))=vbs (e.occ 3):=List.take_of_length_le (by omega);have t2:List.take 32 (vbs (e.occ 2))=vbs (e.occ 2):=List.take_of_length_le (by omega);have m3:=zi2 (e.occ 3) o3;have m2:=zi2 (e.occ 2) o2;change ∃r h' n',DenR Γ G 78 [V.agg (vbs (e.occ 3))] (fun _=>none) 0=some (r,h',n')/\_ at m3;change ∃r h' n',DenR Γ G 78 [V.agg (vbs (e.occ 2))] (fun _=>none) 0=some (r,h',n')/\_ at m2
  have tr: ∀l:List Bool,[V.agg (vbs l)].all V.tree=true:=fun l=>by
   simp only[List.all_cons,List.all_nil,Bool.and_true,V.tree,vbs,List.all_map,zN];intros;rfl
  have mt: ∀(g:Nat->Option O) (l:List Bool),[V.agg (vbs l)].mapM (toT1 g)=some [V.agg (vbs l)]:=fun g l=>by
   have:List.mapM (toT g 1000) (vbs l)=some (l.map fun b=>tb b):=by
    refine zei _ _ _ (fun i a ha=> ?_) (by simp[vbs]);rw[vbs,zJ]at ha;rw[zJ]
    cases hb:l[i]? with
    | none=>rw[hb]at ha;simp at ha
    | some x=>rw[hb]at ha;simp at ha;subst ha;exact⟨_,rfl,rfl⟩
   have h2:List.map V.t (l.map fun b=>tb b)=vbs l:=by simp[vbs]
   simp only[List.mapM_cons,List.mapM_nil,toT1,this,Option.map_some,h2];rfl
  simp -dsimp only[go_sem,seval,i4,v3,t3];refine zhx (tr _) (mt _ _) m3 ?_;intro w3 Qi Hl SH QD;have x3:=Hl.valOf;have i5':=(SH (n0+3+3+1) (by omega)).trans i5;simp -dsimp only[go_sem,seval,i5',v2,t2,x3];refine zhx (tr _) (mt _ _) m2 ?_;intro w2 D0 Cz AF Cv;have x2:=Cz.valOf;have y3:=Hl.resVal;have y2:=Cz.resVal;simp only[Rg.resVal]at y3 y2;simp -dsimp only[go_sem,seval,x3,x2,y3,y2];have hs: ∀op,zbJ (e.occ op) 32=e.sup op:=fun op=>by simp[Expr.sup,hf]
  have Oz:=Hl.keep (y:=n'+6) (h':=At (At h' Qi) D0) (by omega) (fun k hk _=>AF k (by omega));have ha: ∀l:List ROp,l.length=6->addC n' l=n'+6:=fun l hl=>by rw[zfQ];simp[hl]
  refine⟨w3,w2,rfl,?_,?_,?_,fun k hk=>⟨?_,QD k (by omega),Cv k (by omega)⟩⟩
  ·rw[<- hs 3,ha _ rfl];exact Oz
  ·rw[<- hs 2,ha _ rfl];exact Cz.le (by omega)
  ·rw[ha _ rfl];omega
  ·rw[AF k (by omega),SH k (by omega)];exact A8 k hk
 ·have hf:e.formed=false:=by simpa using hf
  simp -dsimp only[go_sem,seval,h1,hf];have hs: ∀op,e.sup op=[]:=fun op=>by simp[Expr.sup,hf]
  rw[hs,hs];exact⟨_,_,rfl,.inl ⟨rfl,rfl⟩,.inl ⟨rfl,rfl⟩,Nat.le_trans (zhI _ _) (Nat.le_trans (zhI _ _) (zhI _ _)),fun k hk=>⟨by rw[zaa,if_neg (by omega)],(fun i n h=>by cases h),(fun i n h=>by cases h)⟩⟩
def zco {α:Type} (f:Nat->α->Int):Nat->List α->Int×Int
 | _,[]=>(0,-1)
 | i,x::r=>if f i x=0 then zco f (i+1) r else(f i x,i)
theorem zdo {α:Type} {l:List α} {i:Nat} {x:α} (h:l[i]? =some x):l.drop i=x::l.drop (i+1):=by
 obtain⟨hi,rfl⟩:=zH.1 h;exact List.drop_eq_getElem_cons hi
theorem zc6 {α:Type} {f:Nat->α->Int} {l:List α} {i:Nat} {x:α} (h:l[i]? =some x) (h0:f i x=0):zco f i (l.drop i)=zco f (i+1) (l.drop (i+1)):=by
 rw[zdo h,zco,if_pos h0]
theorem zcC {α:Type} {f:Nat->α->Int} {l:List α} {i:Nat} {x:α} (h:l[i]? =some x) (h0: ¬f i x=0):zco f i (l.drop i)=(f i x,(i:Int)):=by
 rw[zdo h,zco,if_neg h0]
theorem zel {α:Type} (f:Nat->α->Int) (l:List α):zco f l.length (l.drop l.length)=(0,-1):=by
 rw[List.drop_length];rfl
theorem za7 {α:Type} {P:α->Bool} {l:List α} {i:Nat} {x:α} (h:l[i]? =some x) (h0:P x=true):(l.drop i).all P=(l.drop (i+1)).all P:=by
 rw[zdo h,List.all_cons,h0,Bool.true_and]
theorem za6 {α:Type} {P:α->Bool} {l:List α} {i:Nat} {x:α} (h:l[i]? =some x) (h0:P x=false):(l.drop i).all P=false:=by
 rw[zdo h,List.all_cons,h0,Bool.false_and]
theorem zbB {α:Type} (P:α->Bool) (l:List α):(l.drop l.length).all P=true:=by
 rw[List.drop_length];rfl
def ztz (p:Prog) (sh:Bool) (t c:Int):Bool:=if sh then zjW p t c else zar p t c
def zbE (p:Prog) (e:Expr) (sh:Bool) (t:Int):Bool:=(e.sup 3).all (ztz p sh t)&&(e.sup 2).all (ztz p sh t)
def zaR (p:Prog) (e:Expr) (pair:Bool) (t:Int):Bool:=e.valid p.cells pair&&decide (e.w=1)&&zbE p e true t
def zaP (x:Thread):Bool:=decide (x.points>48)||decide ((x.steps.length:Int)>64)||decide ((x.loops.length:Int)>8)
def zaV (p:Prog):Int×Int:=
 if(p.cells.length:Int)>32\/(p.modules.length:Int)>6\/(p.locks.length:Int)>4\/(p.threads.length:Int)>4 then(2,-1)
 else zco (fun _ x=>if zaP x then 2 else 0) 0 p.threads
def zcj (p:Prog) (c:Cell):Bool:=
 !zbA c.name||decide (c.w<1)||decide (c.w>8)||decide (c.init<0)||decide (c.init>=2^c.w.toNat)||decide (c.thread< -1)||decide (c.thread>=p.threads.length) || !inR c.module p.modules.length
def zci (p:Prog) (i:Nat) (c:Cell):Int:=
 if zcj p c then 1 else if(p.cells.take i).any (fun d=>d.name.toList==c.name.toList)then 41 else 0
def zce (p:Prog):Int:=(zco (zci p) 0 p.cells).1
def zdH (p:Prog) (i:Nat) (m:Contract):Int:=
 if !zbA m.name || !zbA m.owner then 1
 else if(p.modules.take i).any (fun d=>d.name.toList==m.name.toList)then 41
 else if(!m.rely.absent&& !zaR p m.rely true (-1)) || !zaR p m.guar true (-1)then 60
 else if !zc0 m.frame || !m.frame.all (zar p (-1))then 1 else 0
def zbm (p:Prog):Int:=(zco (zdH p) 0 p.modules).1
def zby (p:Prog) (c:Int) (f:Cell->Bool):Bool:=match p.cells[c.toNat]? with
 | some x=>f x
 | none=>false
def zcM (p:Prog) (i:Nat) (l:Lock):Int:=
 if !zar p (-1) l.cell || !zby p l.cell (fun x=>decide (x.w=1))||zby p l.cell Cell.ghost || !inR l.module p.modules.length then 1
 else if(p.locks.take i).any (fun d=>decide (d.cell=l.cell))then 1
 else if !zaR p l.inv false (-1)then 60 else 0
def zcT (p:Prog):Int:=(zco (zcM p) 0 p.locks).1
def zbC (p:Prog) (set:List Assign) (i:Nat) (a:Assign):Int:=
 if !inR a.cell p.cells.length||(set.take i).any (fun b=>decide (b.cell=a.cell))then 70
 else if !a.to.valid p.cells false || !zby p a.cell (fun x=>decide (a.to.w=x.w))then 60 else 0
def zbz (p:Prog) (s:Step) (sh:Bool) (t:Int):Bool:=zbE p s.guard sh t&&s.set.all fun a=>zbE p a.to sh t
def zdd (p:Prog) (t:Int) (s:Step):Bool:=s.guard.one&&decide (s.set=[])&&decide (s.target≠t)&&inR s.target p.threads.length
def zf7 (p:Prog) (t:Int):Bool:=match p.threads[t.toNat]? with
 | some x=>x.asleep
 | none=>false
def zg1 (p:Prog) (t:Int) (s:Step):Bool:=match s.set with
 | []=>false
 | a::r=>zbE p s.guard false t&&zar p t a.cell&& !zby p a.cell Cell.ghost&&decide (a.to.op=2)&&zar p (-1) a.to.n&& !zby p a.to.n Cell.ghost&&
    r.all fun b=>zar p t b.cell&&zby p b.cell Cell.ghost&&zbE p b.to false t
def zeY (p:Prog) (t:Int) (s:Step):Bool:=match s.set with
 | []=>false
 | a::r=>zbz p s false t&&zar p (-1) a.cell&& !zby p a.cell Cell.ghost&&r.all fun b=>zby p b.cell Cell.ghost&&zjW p t b.cell
def zbG (p:Prog) (t:Int) (s:Step):Bool:=
 if s.kind=1 then zbz p s false t&&s.set.all fun a=>zar p t a.cell
 else if s.kind=2 then zg1 p t s
 else if s.kind=3 then zeY p t s
 else if s.kind=4 then zbz p s true t&&s.set.all fun a=>zjW p t a.cell
 else if s.kind=5 then s.guard.one&&decide (s.set=[])
 else if s.kind=6 then zdd p t s&&zf7 p s.target
 else zdd p t s
def zdW (p:Prog) (n:Int) (s:Step):Bool:=
 decide (s.kind<1)||decide (s.kind>7) || !inR s.fr (n-1) || !inR s.to n || !inR s.module p.modules.length||(s.release&&decide (s.kind≠3))||(decide (s.target≠0)&& !(decide (s.kind=6)||decide (s.kind=7)))
def zaS (p:Prog) (t n:Int) (s:Step):Int:=
 if zdW p n s then 70
 else if !s.guard.valid p.cells false||decide (s.guard.w≠1)then 60
 else if ¬(zco (zbC p s.set) 0 s.set).1=0 then(zco (zbC p s.set) 0 s.set).1
 else if zbG p t s then 0 else 70
def zbp (p:Prog) (t n:Int) (l:Loop):Int:=
 if !inR l.head n || !zc0 l.body || !l.body.all (fun k=>inR k n&&decide (k≠l.head))then 1
 else if !l.variant.valid p.cells false || !zbE p l.variant true t then 60 else 0
def zap (p:Prog) (i:Nat) (x:Thread):Int×Int:=
 if !zbA x.name then(1,-1)
 else if(p.threads.take i).any (fun d=>d.name.toList==x.name.toList)then(41,-1)
 else if x.points<1\/ ¬(x.asserts.length:Int)=x.points\/ ¬(x.modules.length:Int)=x.points then(1,-1)
 else if !x.modules.all (fun m=>inR m p.modules.length)then(1,-1)
 else if !x.asserts.all (fun e=>zaR p e false i)then(60,-1)
 else if ¬(zco (fun _ s=>zaS p i x.points s) 0 x.steps).1=0 then zco (fun _ s=>zaS p i x.points s) 0 x.steps
 else((zco (fun _ l=>zbp p i x.points l) 0 x.loops).1,-1)
def zep (p:Prog):Nat->List Thread->Int×Int×Int
 | _,[]=>(0,-1,-1)
 | i,x::r=>if(zap p i x).1=0 then zep p (i+1) r else((zap p i x).1,(i:Int),(zap p i x).2)
def zbM (p:Prog):Int×Int×Int:=
 if ¬(zaV p).1=0 then((zaV p).1,(zaV p).2,-1)
 else if ¬zce p=0 then(zce p,-1,-1)
 else if ¬zbm p=0 then(zbm p,-1,-1)
 else if ¬zcT p=0 then(zcT p,-1,-1)
 else zep p 0 p.threads
theorem zoK {p:Prog} {l:List Thread} {i:Nat} {x:Thread} (h:l[i]? =some x) (h0:(zap p i x).1=0):zep p i (l.drop i)=zep p (i+1) (l.drop (i+1)):=by
 rw[zdo h,zep,if_pos h0]
theorem zoJ {p:Prog} {l:List Thread} {i:Nat} {x:Thread} (h:l[i]? =some x) (h0: ¬(zap p i x).1=0):zep p i (l.drop i)=((zap p i x).1,(i:Int),(zap p i x).2):=by
 rw[zdo h,zep,if_neg h0]
theorem zrl (p:Prog) (l:List Thread):zep p l.length (l.drop l.length)=(0,-1,-1):=by
 rw[List.drop_length];rfl
structure Prog.sane (p:Prog):Prop where
 cells:p.cells.length<2^48
 modules:p.modules.length<2^48
 locks:p.locks.length<2^48
 threads:p.threads.length<2^48
 cname: ∀c∈p.cells,c.name.size<2^50
 mname: ∀m∈p.modules,m.name.size<2^50/\m.owner.size<2^50/\m.frame.length<2^48
 thr: ∀t∈p.threads,t.name.size<2^50/\t.asserts.length<2^48/\t.modules.length<2^48/\t.steps.length<2^48/\t.loops.length<2^48
 sets: ∀t∈p.threads,∀s∈t.steps,s.set.length<2^48
 loops: ∀t∈p.threads,∀l∈t.loops,l.body.length<2^48
end Rg
end
section
-- FULL
namespace Rg
open Go
theorem zse {p:Prog} (hc: ∀c∈p.cells,-1<=c.thread) (sh:Bool) (t c:Int) (ht: -1<=t) (hs:sh=true\/0<=t) (h0:0<=c):zxu p sh t c=ztz p sh t c:=by
 unfold zxu ztz zjW zar;rcases hx:p.cells[c.toNat]? with _ | x
 ·cases sh<;>simp
 ·have:=hc x (zL hx);simp only[h0,decide_true,Bool.true_and]
  have a1:(decide (0<=x.thread))= !decide (x.thread= -1):=by
   by_cases h:x.thread= -1
   ·simp[h]
   ·simp[h];omega
  rw[a1];cases sh
  ·have ht:0<=t:=by simpa using hs
   by_cases h:x.thread= -1
   ·simp[h];omega
   ·simp[h]
  ·by_cases h:x.thread= -1
   ·simp[h]
   ·simp[h]
theorem zhf {α:Type} {P Q:α->Bool} {l:List α} (h: ∀x∈l,P x=Q x):l.all P=l.all Q:=by
 induction l with
 | nil=>rfl
 | cons x r ih=>rw[List.all_cons,List.all_cons,h x (by simp),ih fun y hy=>h y (by simp[hy])]
theorem zrn {op:Int} {e:Expr} {c:Int} (h:c∈e.sup op):0<=c/\e.formed=true/\ ∃x∈e.lv,x.op=op/\x.n.toNat=c.toNat:=by
 unfold Expr.sup at h;split at h
 ·rename_i hf;obtain⟨j,hj,rfl⟩:=List.mem_map.1 h;refine⟨by omega,hf,?_⟩;obtain⟨_,hj⟩:=List.mem_filter.1 hj
  have key: ∀(l:List Expr) (s:List Bool),(l.foldl (zb2 op) s).getD j false=true->s.getD j false=true\/ ∃x∈l,x.op=op/\x.n.toNat=j:=by
   intro l
   induction l with
   | nil=>intro s h;exact .inl h
   | cons x l ih=>
     intro s h;rw[List.foldl_cons]at h;rcases ih _ h with h | ⟨y,hy,h1,h2⟩
     ·unfold zb2 at h;split at h
      ·rename_i ho
       by_cases hn:x.n.toNat=j
       ·exact .inr ⟨x,by simp,ho,hn⟩
       ·left;simpa[List.getD,List.getElem?_set,hn]using h
      ·exact .inl h
     ·exact .inr ⟨y,by simp[hy],h1,h2⟩
  rcases key _ _ hj with h | ⟨x,hx,h1,h2⟩
  ·have:(List.replicate 32 false).getD j false=false:=by
    rw[List.getD,List.getElem?_replicate];split<;>rfl
   rw[this]at h;simp at h
  ·exact⟨x,hx,h1,by simpa using h2⟩
 ·simp at h
theorem zfR {p:Prog} {e:Expr} {pair:Bool} (h:e.valid p.cells pair=true):zod p e:=by
 intro op Ao c hc;obtain⟨h0,hf,x,hx,h1,h2⟩:=zrn hc;refine⟨h0,?_⟩;unfold Expr.valid at h;rw[hf,Bool.true_and,zvP (fun x=>zje p.cells pair) 40 e (zcp hf)]at h;have:=zN.1 h x hx;unfold zb3 at this;rcases Ao with rfl | rfl
 ·simp only[h1]at this;rcases hy:p.cells[x.n.toNat]? with _ | y
  ·simp[hy]at this
  ·have:=(zH.1 hy).1;omega
 ·simp only[h1]at this;rcases hy:p.cells[x.n.toNat]? with _ | y
  ·simp[hy]at this
  ·have:=(zH.1 hy).1;omega
theorem zgW {p:Prog} (hc: ∀c∈p.cells,-1<=c.thread) {e:Expr} (Aj:zod p e) (sh:Bool) (t:Int) (ht: -1<=t) (hs:sh=true\/0<=t):
 Den Γ G 115 [(zP p),(.agg [.t (ti (e).op),.t (ti (e).w),.t (ti (e).n),.t (.sl ((e).kids.map (Expr.enc)))]),vb sh,vi t]=some (vb (zbE p e sh t)):=by
 rw[zr2 p e sh t Aj,List.all_append,zbE];rw[zhf (l:=e.sup 3) fun c Bz=>zse hc sh t c ht hs (Aj 3 (.inr rfl) c Bz).1];rw[zhf (l:=e.sup 2) fun c Bz=>zse hc sh t c ht hs (Aj 2 (.inl rfl) c Bz).1]
theorem zfU {p:Prog} (hc: ∀c∈p.cells,-1<=c.thread) (e:Expr) (pair:Bool) (t:Int) (ht: -1<=t):
 Den Γ G 112 [(zP p),(.agg [.t (ti (e).op),.t (ti (e).w),.t (ti (e).n),.t (.sl ((e).kids.map (Expr.enc)))]),vb pair,vi t]=some (vb (zaR p e pair t)):=by
 (refine zag Γ112 rfl ?_;dsimp only[f112])
 have h1:=zfT e p.cells pair;cases hv:e.valid p.cells pair
 ·rw[hv]at h1;simp -dsimp [go_sem,h1];simp[zaR,hv]
 ·rw[hv]at h1;have h2:=zgW hc (zfR hv) true t ht (.inl rfl);simp -dsimp [go_sem,h1];refine zac (fun h=> ?_) (fun h=> ?_)<;>(try rw[h])<;>(try simp only[zah]at h)<;>(try simp -dsimp [go_sem,h2])
  ·simp[zaR,hv,h]
  ·simp[zaR,hv,h]
theorem zut:Den Γ G 157 []=some (.agg [vi 1,vi 1,vi 1,.t (.sl [])]):=by
 (refine zag Γ157 rfl ?_;dsimp only[f157])
 have h1:=zfI 1 1;simp -dsimp [go_sem,h1]
theorem zn3 (p:Prog) (hs:p.sane):Den Γ G 84 [(zP p)]=some (.tup [vi (zaV p).1,vi (zaV p).2]):=by
 (refine zag Γ84 rfl ?_;dsimp only[f84])
 simp -dsimp [go_sem]
 by_cases CH:(p.cells.length:Int)>32\/(p.modules.length:Int)>6\/(p.locks.length:Int)>4\/(p.threads.length:Int)>4
 ·have hm:zaV p=(2,-1):=by rw[zaV,if_pos CH]
  rw[hm]
  repeat'(refine zac (fun h=> ?_) (fun h=> ?_)<;>(try rw[h])<;>(try simp only[zah]at h)<;>(try simp -dsimp [go_sem]))
  all_goals(try omega)
 ·have hm:zaV p=zco (fun _ x=>if zaP x then 2 else 0) 0 p.threads:=by rw[zaV,if_neg CH]
  have g1: ¬(p.cells.length:Int)>32:=by omega
  have g2: ¬(p.modules.length:Int)>6:=by omega
  have g3: ¬(p.locks.length:Int)>4:=by omega
  have g4: ¬(p.threads.length:Int)>4:=by omega
  simp -dsimp [go_sem,g1,g2,g3,g4];refine zaT 72057593769492540 p.threads.length (fun i f=>(f 4).v=vi i/\zaV p=zco (fun _ x=>if zaP x then 2 else 0) i (p.threads.drop i)) rfl rfl ⟨by simp -dsimp [go_sem],hm⟩ ?_;clear hm;rintro i f u kk bb hi ⟨h4,hm⟩;have hw:=zan i (by omega);simp -dsimp [go_sem,h4];refine zac (fun h=> ?_) (fun h=> ?_)<;>(try rw[h])<;>(try simp only[zah]at h)<;>(try simp -dsimp [go_sem])
  ·obtain⟨x,hx,_⟩:=zai ‹i<p.threads.length›;have AU:zaP x=true->zaV p=(2,(i:Int)):=fun h0=>by rw[hm,zcC hx (by simp[h0])];simp[h0]
   simp -dsimp [go_sem,h4,hx]
   repeat'(refine zac (fun h=> ?_) (fun h=> ?_)<;>(try rw[h])<;>(try simp only[zah]at h)<;>(try simp -dsimp [go_sem,h4]))
   ·rw[AU (by simp[zaP, *])];simp
   ·rw[AU (by simp[zaP, *])];simp
   ·rw[AU (by simp[zaP, *])];simp
   ·refine⟨by omega,by simp -dsimp [go_sem,hw],?_⟩;rw[hm,zc6 hx (by simp[zaP, *])]
  ·have:i=p.threads.length:=by omega
   subst this;rw[hm,zel];simp
end Rg
end
section
-- FULL
namespace Rg
open Go
theorem zcx {α:Type} {P:α->Bool} {l:List α} {i j:Nat} {x:α} (hx:l[j]? =some x) (hj:j<i) (h:P x=true):(l.take i).any P=true:=by
 rw[List.any_eq_true];exact⟨x,zL (by rw[zO,if_pos hj];exact hx),h⟩
theorem zda {α:Type} {P:α->Bool} {l:List α} {j:Nat} {x:α} (hx:l[j]? =some x):(l.take (j+1)).any P=((l.take j).any P||P x):=by
 rw[zaf hx,List.any_append];simp
theorem zqS (p:Prog) (hs:p.sane):Den Γ G 85 [(zP p)]=some (vi (zce p)):=by
 (refine zag Γ85 rfl ?_;dsimp only[f85])
 simp -dsimp [go_sem];refine zaT 2417851639229258349412348 p.cells.length (fun i f=>(f 3).v=vi i/\zce p=(zco (zci p) i (p.cells.drop i)).1) rfl rfl ⟨by simp -dsimp [go_sem],rfl⟩ ?_;rintro i f u kk bb hi ⟨h3,hm⟩;have He:=hs.cells;have hw:=zan i (by omega);simp -dsimp [go_sem,h3];refine zac (fun h=> ?_) (fun h=> ?_)<;>(try rw[h])<;>(try simp only[zah]at h)<;>(try simp -dsimp [go_sem,h3])
 ·obtain⟨c,hc,BI⟩:=zai ‹i<p.cells.length›
  have AU:zcj p c=true->zce p=1:=fun h0=>by
   have:zci p i c=1:=by simp[zci,h0]
   rw[hm,zcC hc (by simp[this])];exact this
  have hl:=zf1 c.name (hs.cname c BI);have Aj:=zej c.module p.modules.length
  by_cases hb:zcj p c=true
  ·rw[AU hb]
   by_cases PG:c.w<=8
   ·have hp:=zd1 c.w (by omega);simp -dsimp [go_sem,h3,hc,hl]
    repeat'(refine zac (fun h=> ?_) (fun h=> ?_)<;>(try rw[h])<;>(try simp only[zah]at h)<;>(try simp -dsimp [go_sem,h3,hp,Aj]))
    all_goals(exfalso;simp only[zcj,Bool.or_eq_true,Bool.not_eq_true',decide_eq_true_eq]at hb;grind)
   ·have g8:c.w>8:=by omega
    simp -dsimp [go_sem,h3,hc,hl,g8]
    repeat'(refine zac (fun h=> ?_) (fun h=> ?_)<;>(try rw[h])<;>(try simp only[zah]at h)<;>(try simp -dsimp [go_sem,h3,Aj]))
    all_goals(exfalso;omega)
  ·have Bf:=hb;simp only[zcj,Bool.or_eq_true,Bool.not_eq_true',decide_eq_true_eq,not_or]at Bf;obtain⟨⟨⟨⟨⟨⟨⟨b1,b2⟩,b3⟩,b4⟩,b5⟩,b6⟩,b7⟩,b8⟩:=Bf;have b1:zbA c.name=true:=by simpa using b1
   have b8:inR c.module p.modules.length=true:=by simpa using b8
   rw[b1]at hl;rw[b8]at Aj;have hp:=zd1 c.w (by omega);simp -dsimp [go_sem,h3,hc,hl,b2,b3,b4,hp,b5,b6,b7,Aj];refine zaT 2417704065276668672999460 i (fun k f'=>(f' 5).v=vi k/\(p.cells.take k).any (fun d=>d.name.toList==c.name.toList)=false) rfl rfl ⟨by simp -dsimp [go_sem],by simp⟩ ?_;rintro k f' u' kk' bb' hk ⟨h5,A9⟩;have Aw:=zan k (by omega);simp -dsimp [go_sem,h3,h5];refine zac (fun h=> ?_) (fun h=> ?_)<;>(try rw[h])<;>(try simp only[zah]at h)<;>(try simp -dsimp [go_sem,h3,h5])
   ·obtain⟨d,hd,JP⟩:=zai (show k<p.cells.length by omega);simp -dsimp [go_sem,h3,h5,hd];refine zac (fun h=> ?_) (fun h=> ?_)<;>(try rw[h])<;>(try simp only[zah]at h)<;>(try simp -dsimp [go_sem,h3,h5])
    ·have:zci p i c=41:=by
      rw[zci,if_neg hb,if_pos (zcx hd ‹k<i› (by simpa using h))]
     rw[hm,zcC hc (by simp[this])];exact this.symm
    ·refine⟨by omega,by simp -dsimp [go_sem,Aw],?_⟩;rw[zda hd,A9];simpa using h
   ·have:k=i:=by omega
    subst this;refine⟨by omega,by simp -dsimp [go_sem,hw],?_⟩;rw[hm,zc6 hc (by rw[zci,if_neg hb,if_neg (by simp[A9])])]
 ·have:i=p.cells.length:=by omega
  subst this;rw[hm,zel]
theorem zha {p:Prog} (h:zce p=0): ∀c∈p.cells,zcj p c=false:=by
 have key: ∀(l:List Cell) (i:Nat),(zco (zci p) i l).1=0-> ∀c∈l,zcj p c=false:=by
  intro l
  induction l with
  | nil=>intro i _ c hc;simp at hc
  | cons x r ih=>
    intro i h c hc;rw[zco]at h;split at h
    ·rename_i h0;rcases List.mem_cons.1 hc with rfl | hc
     ·cases hb:zcj p c
      ·rfl
      ·simp[zci,hb]at h0
     ·exact ih _ h c hc
    ·rename_i h0;exact absurd h h0
 exact key p.cells 0 h
theorem zfc {p:Prog} {c:Cell} (h:zcj p c=false):zbA c.name=true/\1<=c.w/\c.w<=8/\0<=c.init/\c.init<2^c.w.toNat/\ -1<=c.thread/\c.thread<p.threads.length/\inR c.module p.modules.length=true:=by
 simp only[zcj,Bool.or_eq_false_iff,Bool.not_eq_false',decide_eq_false_iff_not]at h;obtain⟨⟨⟨⟨⟨⟨⟨b1,b2⟩,b3⟩,b4⟩,b5⟩,b6⟩,b7⟩,b8⟩:=h;exact⟨b1,by omega,by omega,by omega,by omega,by omega,by omega,b8⟩
theorem zfL {p:Prog} (h:zce p=0): ∀c∈p.cells,-1<=c.thread:=fun c hc=>(zfc (zha h c hc)).2.2.2.2.2.1
theorem zb6 {p:Prog} {c t:Int} {x:Cell} (h0:0<=c) (hx:p.cells[c.toNat]? =some x):zar p t c=decide (x.thread=t):=by
 simp[zar,h0,hx]
theorem zmP (p:Prog) (hs:p.sane) (By:zce p=0):Den Γ G 86 [(zP p)]=some (vi (zbm p)):=by
 (refine zag Γ86 rfl ?_;dsimp only[f86])
 simp -dsimp [go_sem];have Ez:=zfL By;refine zaT 39614081257132168796771975164 p.modules.length (fun i f=>(f 3).v=vi i/\zbm p=(zco (zdH p) i (p.modules.drop i)).1) rfl rfl ⟨by simp -dsimp [go_sem],rfl⟩ ?_;rintro i f u kk bb hi ⟨h3,hm⟩;have He:=hs.modules;have hw:=zan i (by omega);simp -dsimp [go_sem,h3];refine zac (fun h=> ?_) (fun h=> ?_)<;>(try rw[h])<;>(try simp only[zah]at h)<;>(try simp -dsimp [go_sem,h3])
 ·obtain⟨c,hc,BI⟩:=zai ‹i<p.modules.length›;obtain⟨s1,s2,s3⟩:=hs.mname c BI
  have Ai: ∀k:Int,k≠0->zdH p i c=k->zbm p=k:=fun k hk h0=>by
   rw[hm,zcC hc (by rw[h0];exact hk)];exact h0
  have hl:=zf1 c.name s1;have C7:=zf1 c.owner s2;simp -dsimp [go_sem,h3,hc,hl];refine zac (fun h=> ?_) (fun h=> ?_)<;>(try rw[h])<;>(try simp only[zah]at h)<;>(try simp -dsimp [go_sem,h3,C7])
  ·rw[Ai 1 (by decide) (by simp[zdH,h])]
  ·refine zac (fun h=> ?_) (fun h=> ?_)<;>(try rw[h])<;>(try simp only[zah]at h)<;>(try simp -dsimp [go_sem,h3])
   ·rw[Ai 1 (by decide) (by simp[zdH,h])]
   ·have e1:zbA c.name=true:=by assumption
    have e2:zbA c.owner=true:=by assumption
    refine zaT 8795556151332 i (fun k f'=>(f' 5).v=vi k/\(p.modules.take k).any (fun d=>d.name.toList==c.name.toList)=false) rfl rfl ⟨by simp -dsimp [go_sem],by simp⟩ ?_;rintro k f' u' kk' bb' hk ⟨h5,A9⟩;have Aw:=zan k (by omega);simp -dsimp [go_sem,h3,h5];refine zac (fun h=> ?_) (fun h=> ?_)<;>(try rw[h])<;>(try simp only[zah]at h)<;>(try simp -dsimp [go_sem,h3,h5])
    ·obtain⟨d,hd,JP⟩:=zai (show k<p.modules.length by omega);simp -dsimp [go_sem,h3,h5,hd];refine zac (fun h=> ?_) (fun h=> ?_)<;>(try rw[h])<;>(try simp only[zah]at h)<;>(try simp -dsimp [go_sem,h3,h5])
     ·rw[Ai 41 (by decide) (by rw[zdH,if_neg (by simp[e1,e2]),if_pos (zcx hd ‹k<i› (by simpa using h))])]
     ·refine⟨by omega,by simp -dsimp [go_sem,Aw],?_⟩;rw[zda hd,A9];simpa using h
    ·have:k=i:=by omega
     subst this;have Ca:=zoA c.rely;have Hw:=zfU Ez c.rely true (-1) (by omega);have HI:=zfU Ez c.guar true (-1) (by omega)
     have Fk:zdH p k c=if(!c.rely.absent&& !zaR p c.rely true (-1)) || !zaR p c.guar true (-1)then 60 else if !zc0 c.frame || !c.frame.all (zar p (-1))then 1 else 0:=by
      rw[zdH,if_neg (by simp[e1,e2]),if_neg (by simp[A9])]
     by_cases hr:((!c.rely.absent&& !zaR p c.rely true (-1)) || !zaR p c.guar true (-1))=true
     ·rw[Ai 60 (by decide) (by rw[Fk,if_pos hr])];simp -dsimp [go_sem,h3,Ca]
      repeat'(refine zac (fun h=> ?_) (fun h=> ?_)<;>(try rw[h])<;>(try simp only[zah]at h)<;>(try simp -dsimp [go_sem,h3,Hw,HI]))
      all_goals(exfalso;simp_all)
     ·have AG: ∀(Q:Prop),(c.rely.absent=true->zaR p c.guar true (-1)=true->Q)->(c.rely.absent=false->zaR p c.rely true (-1)=true->zaR p c.guar true (-1)=true->Q)->Q:=fun Q q1 q2=>by
       cases h1:c.rely.absent<;>cases h2:zaR p c.rely true (-1)<;>cases h3:zaR p c.guar true (-1)<;>simp_all
      rw[if_neg hr]at Fk;refine AG _ (fun r1 r2=> ?_) (fun r1 r2 r3=> ?_)
      all_goals(
       (try rw[r1]at Ca)
       (try rw[r2]at Hw)
       (try rw[r2]at HI)
       (try rw[r3]at HI)
       simp -dsimp [go_sem,h3,Ca,Hw,HI];refine zaT 2475880076264917540584554564 c.frame.length (fun j f2=>(f2 6).v=vi j/\c.frame.all (zar p (-1))=(c.frame.drop j).all (zar p (-1))) rfl rfl ⟨by simp -dsimp [go_sem],rfl⟩ ?_;rintro j f2 u2 kk2 bb2 hj ⟨h6,Aa⟩;have BO:=zan j (by omega);simp -dsimp [go_sem,h3,h6];refine zac (fun h=> ?_) (fun h=> ?_)<;>(try rw[h])<;>(try simp only[zah]at h)<;>(try simp -dsimp [go_sem,h3,h6])
       ·obtain⟨d,hd,JP⟩:=zai (show j<c.frame.length by omega);have Aj:=zej d p.cells.length
        have Be:zar p (-1) d=false->1=zbm p:=fun h0=>by
         rw[Ai 1 (by decide) (by rw[Fk,Aa,za6 hd h0];simp)]
        simp -dsimp [go_sem,h3,h6,hd,Aj];refine zac (fun h=> ?_) (fun h=> ?_)<;>(try rw[h])<;>(try simp only[zah]at h)<;>(try simp -dsimp [go_sem,h3,h6])
        ·exact Be (zeh h)
        ·obtain⟨d0,x,hx⟩:=zch h;have KT:=zb6 (t:= -1) d0 hx;simp -dsimp [go_sem,h3,h6,hd,d0,hx];refine zac (fun h=> ?_) (fun h=> ?_)<;>(try rw[h])<;>(try simp only[zah]at h)<;>(try simp -dsimp [go_sem,h3,h6])
         ·exact Be (by rw[KT];simpa using h)
         ·refine⟨by omega,by simp -dsimp [go_sem,BO],?_⟩;rw[Aa,za7 hd (by rw[KT];simpa using h)]
       ·have:j=c.frame.length:=by omega
        subst this;rw[zbB]at Aa;rw[Aa]at Fk;have RI:=zkr c.frame (by omega);simp -dsimp [go_sem,h3,RI];refine zac (fun h=> ?_) (fun h=> ?_)<;>(try rw[h])<;>(try simp only[zah]at h)<;>(try simp -dsimp [go_sem,h3])
        ·rw[Ai 1 (by decide) (by rw[Fk];simp[h])]
        ·refine⟨by omega,by simp -dsimp [go_sem,hw],?_⟩
         rw[hm,zc6 hc (by rw[Fk];simp[h])])
 ·have:i=p.modules.length:=by omega
  subst this;rw[hm,zel]
end Rg
end
section
-- FULL
namespace Rg
open Go
theorem zaZ {p:Prog} {c:Int} {x:Cell} {g:Cell->Bool} (hx:p.cells[c.toNat]? =some x):zby p c g=g x:=by simp[zby,hx]
theorem zqs (p:Prog) (hs:p.sane) (By:zce p=0):Den Γ G 87 [(zP p)]=some (vi (zcT p)):=by
 (refine zag Γ87 rfl ?_;dsimp only[f87])
 simp -dsimp [go_sem];have Ez:=zfL By;refine zaT 4835703278458516698824700 p.locks.length (fun i f=>(f 3).v=vi i/\zcT p=(zco (zcM p) i (p.locks.drop i)).1) rfl rfl ⟨by simp -dsimp [go_sem],rfl⟩ ?_;rintro i f u kk bb hi ⟨h3,hm⟩;have He:=hs.locks;have hw:=zan i (by omega);simp -dsimp [go_sem,h3];refine zac (fun h=> ?_) (fun h=> ?_)<;>(try rw[h])<;>(try simp only[zah]at h)<;>(try simp -dsimp [go_sem,h3])
 ·obtain⟨l,hl,Hy⟩:=zai ‹i<p.locks.length›
  have Ai: ∀k:Int,k≠0->zcM p i l=k->zcT p=k:=fun k hk h0=>by
   rw[hm,zcC hl (by rw[h0];exact hk)];exact h0
  have Aj:=zej l.cell p.cells.length;have To:=zej l.module p.modules.length;simp -dsimp [go_sem,h3,hl,Aj];refine zac (fun h=> ?_) (fun h=> ?_)<;>(try rw[h])<;>(try simp only[zah]at h)<;>(try simp -dsimp [go_sem,h3])
  ·rw[Ai 1 (by decide) (by simp[zcM,zeh h])]
  ·obtain⟨d0,x,hx⟩:=zch h;have KT:=zb6 (t:= -1) d0 hx;have Dr:=zaZ (g:=fun x=>decide (x.w=1)) hx;have CG:=zaZ (g:=Cell.ghost) hx;simp -dsimp [go_sem,h3,hl,d0,hx]
   by_cases AU:(!zar p (-1) l.cell || !zby p l.cell (fun x=>decide (x.w=1))||zby p l.cell Cell.ghost || !inR l.module p.modules.length)=true
   ·rw[Ai 1 (by decide) (by rw[zcM,if_pos AU])];rw[KT,Dr,CG]at AU
    repeat'(refine zac (fun h=> ?_) (fun h=> ?_)<;>(try rw[h])<;>(try simp only[zah]at h)<;>(try simp -dsimp [go_sem,h3,hl,d0,hx,To]))
    all_goals(exfalso;simp_all)
   ·have A5:zcM p i l=if(p.locks.take i).any (fun d=>decide (d.cell=l.cell))then 1 else if !zaR p l.inv false (-1)then 60 else 0:=by rw[zcM,if_neg AU]
    rw[KT,Dr,CG]at AU;simp only[Bool.or_eq_true,Bool.not_eq_true',decide_eq_false_iff_not,not_or,Decidable.not_not,Bool.not_eq_true,Bool.not_eq_false]at AU;obtain⟨⟨⟨b1,b2⟩,b3⟩,b4⟩:=AU;rw[b4]at To;simp -dsimp [go_sem,h3,hl,d0,hx,b1,b2,b3,To];refine zaT 151106504079791792062500 i (fun k f'=>(f' 5).v=vi k/\(p.locks.take k).any (fun d=>decide (d.cell=l.cell))=false) rfl rfl ⟨by simp -dsimp [go_sem],by simp⟩ ?_;rintro k f' u' kk' bb' hk ⟨h5,A9⟩;have Aw:=zan k (by omega);simp -dsimp [go_sem,h3,h5];refine zac (fun h=> ?_) (fun h=> ?_)<;>(try rw[h])<;>(try simp only[zah]at h)<;>(try simp -dsimp [go_sem,h3,h5])
    ·obtain⟨d,hd,JP⟩:=zai (show k<p.locks.length by omega);simp -dsimp [go_sem,h3,h5,hd];refine zac (fun h=> ?_) (fun h=> ?_)<;>(try rw[h])<;>(try simp only[zah]at h)<;>(try simp -dsimp [go_sem,h3,h5])
     ·rw[Ai 1 (by decide) (by rw[A5,if_pos (zcx hd ‹k<i› (by simpa using h))])]
     ·refine⟨by omega,by simp -dsimp [go_sem,Aw],?_⟩;rw[zda hd,A9];simpa using h
    ·have:k=i:=by omega
     subst this;rw[A9]at A5;have Hw:=zfU Ez l.inv false (-1) (by omega);simp -dsimp [go_sem,h3,Hw];refine zac (fun h=> ?_) (fun h=> ?_)<;>(try rw[h])<;>(try simp only[zah]at h)<;>(try simp -dsimp [go_sem,h3])
     ·rw[Ai 60 (by decide) (by rw[A5];simp[h])]
     ·refine⟨by omega,by simp -dsimp [go_sem,hw],?_⟩;rw[hm,zc6 hl (by rw[A5];simp[h])]
 ·have:i=p.locks.length:=by omega
  subst this;rw[hm,zel]
theorem zrm {e:Expr} (h:e.one=true) (op:Int) (Ao:op≠1):e.sup op=[]:=by
 simp only[Expr.one,decide_eq_true_eq]at h;obtain⟨h1,h2,h3,h4⟩:=h;rw[List.eq_nil_iff_forall_not_mem];intro c hc;obtain⟨_,_,x,hx,R6,_⟩:=zrn hc;rw[Expr.lv_eq,if_pos h4]at hx;simp only[List.mem_singleton]at hx;subst hx;omega
theorem zuq {p:Prog} {e:Expr} (h:e.one=true) (sh:Bool) (t:Int):zbE p e sh t=true:=by
 rw[zbE,zrm h 3 (by decide),zrm h 2 (by decide)];rfl
def ze6 (p:Prog) (t:Int) (s:Step):Prop:=zbE p s.guard (decide (s.kind=4)) t=true/\
 ∀(j:Nat) (a:Assign),s.set[j]? =some a->((0<j\/s.kind≠2)->zbE p a.to (decide (s.kind=4)) t=true)/\(zar p t a.cell=true\/zar p (-1) a.cell=true)
theorem zqu {p:Prog} {t:Int} {s:Step} (h:zbG p t s=true) (hk:1<=s.kind/\s.kind<=7):ze6 p t s:=by
 unfold zbG at h;split at h
 ·rename_i k;simp only[zbz,zF,zN]at h;refine⟨by simpa[k]using h.1.1,fun j a ha=>⟨fun _=>by simpa[k]using h.1.2 a (zL ha),.inl (h.2 a (zL ha))⟩⟩
 ·split at h
  ·rename_i k;unfold zg1 at h;split at h
   ·simp at h
   ·rename_i a r hs;simp only[zF,zN]at h;obtain⟨⟨⟨⟨⟨⟨g1,g2⟩,g3⟩,g4⟩,g5⟩,g6⟩,g7⟩:=h;refine⟨by simpa[k]using g1,fun j b hb=> ?_⟩;rw[hs]at hb
    cases j with
    | zero=>simp at hb;subst hb;exact⟨fun h0=>by simp[k]at h0,.inl g2⟩
    | succ j=>
      simp only[List.getElem?_cons_succ]at hb;have:=g7 b (zL hb);exact⟨fun _=>by simpa[k]using this.2,.inl this.1.1⟩
  ·split at h
   ·rename_i k;unfold zeY at h;split at h
    ·simp at h
    ·rename_i a r hs;simp only[zbz,zF,zN]at h;obtain⟨⟨⟨⟨g1,g2⟩,g3⟩,g4⟩,g5⟩:=h;refine⟨by simpa[k]using g1,fun j b hb=>⟨fun _=>by simpa[k]using g2 b (zL hb),?_⟩⟩;rw[hs]at hb
     cases j with
     | zero=>simp at hb;subst hb;exact .inr g3
     | succ j=>
       simp only[List.getElem?_cons_succ]at hb;have:=(g5 b (zL hb)).2;simp only[zjW,Bool.or_eq_true]at this;exact this.symm
   ·split at h
    ·rename_i k;simp only[zbz,zF,zN]at h;refine⟨by simpa[k]using h.1.1,fun j a ha=>⟨fun _=>by simpa[k]using h.1.2 a (zL ha),?_⟩⟩;have:=h.2 a (zL ha);simp only[zjW,Bool.or_eq_true]at this;exact this.symm
    ·have key:s.guard.one=true/\s.set=[]:=by
      split at h
      ·simpa using h
      ·split at h
       ·simp only[zdd,zF,decide_eq_true_eq]at h;exact h.1.1.1
       ·simp only[zdd,zF,decide_eq_true_eq]at h;exact h.1.1
     refine⟨zuq key.1 _ _,fun j a ha=>by rw[key.2]at ha;simp at ha⟩
theorem zhu {p:Prog} {t:Int} {s:Step} (h:ze6 p t s) (hk:s.kind≠2):zbz p s (decide (s.kind=4)) t=true:=by
 simp only[zbz,zF,zN];refine⟨h.1,fun a ha=> ?_⟩;obtain⟨j,hj,rfl⟩:=List.mem_iff_getElem.1 ha;exact(h.2 j _ (zI hj)).1 (.inr hk)
theorem zpd {p:Prog} {t:Int} {s:Step} (h:ze6 p t s) {a:Assign} (ha:a∈s.set):zjW p t a.cell=true:=by
 obtain⟨j,hj,rfl⟩:=List.mem_iff_getElem.1 ha;have:=(h.2 j _ (zI hj)).2;simp only[zjW,Bool.or_eq_true];exact this.symm
theorem zBH {p:Prog} {t:Int} {s:Step} (h:ze6 p t s) (hk:s.kind=1):zbG p t s=s.set.all fun a=>zar p t a.cell:=by
 have:=zhu h (by omega);rw[zbG,if_pos hk];simp only[hk]at this;rw[show(decide ((1:Int)=4))=false from rfl]at this;rw[this,Bool.true_and]
theorem zBG {p:Prog} {t:Int} {s:Step} (h:ze6 p t s) (hk:s.kind=2) {a:Assign} {r:List Assign} (hs:s.set=a::r):
 zbG p t s=(zar p t a.cell&& !zby p a.cell Cell.ghost&&decide (a.to.op=2)&&zar p (-1) a.to.n&& !zby p a.to.n Cell.ghost&&r.all fun b=>zar p t b.cell&&zby p b.cell Cell.ghost):=by
 have h1:=h.1;simp only[hk]at h1;rw[show(decide ((2:Int)=4))=false from rfl]at h1;rw[zbG,if_neg (by omega),if_pos hk,zg1,hs];simp only[h1,Bool.true_and]
 congr 1
 refine zhf fun b hb=> ?_
 obtain⟨j,hj,rfl⟩:=List.mem_iff_getElem.1 hb;have:=(h.2 (j+1) r[j] (by rw[hs];simp[hj])).1 (.inl (by omega));simp only[hk]at this;rw[show(decide ((2:Int)=4))=false from rfl]at this;rw[this,Bool.and_true]
theorem zBF {p:Prog} {t:Int} {s:Step} (h:ze6 p t s) (hk:s.kind=3) {a:Assign} {r:List Assign} (hs:s.set=a::r):
 zbG p t s=(zar p (-1) a.cell&& !zby p a.cell Cell.ghost&&r.all fun b=>zby p b.cell Cell.ghost):=by
 have h1:=zhu h (by omega);simp only[hk]at h1;rw[show(decide ((3:Int)=4))=false from rfl]at h1;have h2: ∀b∈r,zjW p t b.cell=true:=fun b hb=>zpd h (by rw[hs];simp[hb])
 rw[zbG,if_neg (by omega),if_neg (by omega),if_pos hk,zeY,hs];simp only[h1,Bool.true_and]
 congr 1
 refine zhf fun b hb=> ?_
 rw[h2 b hb,Bool.and_true]
theorem zBE {p:Prog} {t:Int} {s:Step} (h:ze6 p t s) (hk:s.kind=4):zbG p t s=true:=by
 have h1:=zhu h (by omega);simp only[hk,decide_true]at h1;rw[zbG,if_neg (by omega),if_neg (by omega),if_neg (by omega),if_pos hk,h1,Bool.true_and,zN];exact fun a ha=>zpd h ha
theorem zvR {p:Prog} {t:Int} {s:Step} (hk:s.kind=2\/s.kind=3) (hs:s.set=[]):zbG p t s=false:=by
 rcases hk with hk | hk
 ·rw[zbG,if_neg (by omega),if_pos hk,zg1,hs]
 ·rw[zbG,if_neg (by omega),if_neg (by omega),if_pos hk,zeY,hs]
def zjN (p:Prog) (s:Step):Prop:=s.guard.valid p.cells false=true/\ ∀a∈s.set,inR a.cell p.cells.length=true/\a.to.valid p.cells false=true
theorem zj7 {p:Prog} {e:Expr} (h:e.valid p.cells false=true) (ho:e.op=2):inR e.n p.cells.length=true:=by
 have hf:e.formed=true:=by unfold Expr.valid at h;simp only[zF]at h;exact h.1
 have h0:=zfZ (zcq (zcp hf));unfold Expr.valid at h;simp only[zF]at h;have:=Expr.allE_self h.2;unfold zb3 at this;simp only[ho]at this;rcases hy:p.cells[e.n.toNat]? with _ | y
 ·simp[hy]at this
 ·have:=(zH.1 hy).1;simp only[inR,decide_eq_true_eq];omega
theorem zsn (p:Prog) (Ez: ∀c∈p.cells,-1<=c.thread) (t:Int) (ht:0<=t) (s:Step) (Ac:s.set.length<2^48) (hr:zjN p s) (hk:1<=s.kind/\s.kind<=7):
 Den Γ G 137 [(zP p),vi t,(zS s)]=some (vb (zbG p t s)):=by
 (refine zag Γ137 rfl ?_;dsimp only[f137])
 have hg:=zgW Ez (zfR hr.1) (decide (s.kind=4)) t (by omega) (.inr ht)
 have Be: ¬ze6 p t s->false=zbG p t s:=fun h0=>by
  cases h:zbG p t s
  ·rfl
  ·exact absurd (zqu h hk) h0
 simp -dsimp only[go_sem,seval,hg];refine zac (fun h=> ?_) (fun h=> ?_)<;>(try rw[h])<;>(try simp only[zah]at h)<;>(try simp -dsimp only[go_sem,seval])
 ·exact Be (fun h0=>by rw[h0.1]at h;simp at h)
 ·have FD:zbE p s.guard (decide (s.kind=4)) t=true:=by assumption
  refine zaT 1180591620717142869568 s.set.length (fun i f=>(f 9).v=vi i/\ ∀(j:Nat) (a:Assign),j<i->s.set[j]? =some a->((0<j\/s.kind≠2)->zbE p a.to (decide (s.kind=4)) t=true)/\(zar p t a.cell=true\/zar p (-1) a.cell=true)) rfl rfl ⟨by simp -dsimp only[go_sem,seval],fun j a hj=>by omega⟩ ?_;rintro i f u kk bb hi ⟨h9,CA⟩;have hw:=zan i (by omega);simp -dsimp only[go_sem,seval,h9];refine zac (fun h=> ?_) (fun h=> ?_)<;>(try rw[h])<;>(try simp only[zah]at h)<;>(try simp -dsimp only[go_sem,seval,h9])
  ·obtain⟨a,ha,Cp⟩:=zai ‹i<s.set.length›;obtain⟨Aj,Bu⟩:=hr.2 a Cp;have ho:=zgW Ez (zfR Bu) (decide (s.kind=4)) t (by omega) (.inr ht);obtain⟨d0,x,hx⟩:=zch Aj;have Ab:=zir p a.cell t x d0 hx;have Bo:=zgs p a.cell x d0 hx;have o1:=zb6 (t:=t) d0 hx;have o2:=zb6 (t:= -1) d0 hx
   repeat'(refine zac (fun h=> ?_) (fun h=> ?_)<;>(try rw[h])<;>(try simp only[zah]at h)<;>(try simp -dsimp only[go_sem,seval,h9,ha,ho,Ab,Bo]))
   all_goals first
    | (refine Be (fun h0=> ?_)
       have h1:=h0.2 i a ha;rw[o1,o2]at h1;have h2:=h1.1;have h3:=h1.2
       simp_all
       done)
    | (refine⟨by omega,by simp -dsimp only[go_sem,seval,hw],fun j b hj hb=> ?_⟩
       by_cases DP:j=i
       ·subst DP;rw[ha]at hb;cases hb;rw[o1,o2]
        simp_all
        done
       ·exact CA j b (by omega) hb)
    | skip
  ·have Ks:i=s.set.length:=by omega
   have hP:ze6 p t s:=⟨FD,fun j a ha=>CA j a (by rw[Ks];exact(zH.1 ha).1) ha⟩
   clear CA hg Be FD;have Dn:s.kind=1\/s.kind=2\/s.kind=3\/s.kind=4\/s.kind=5\/s.kind=6\/s.kind=7:=by omega
   rcases Dn with k | k | k | k | k | k | k
   ·have hK:=zBH hP k;simp -dsimp only[go_sem,seval,k];refine zaT 618951130176758658868709440 s.set.length (fun j f'=>(f' 11).v=vi j/\zbG p t s=(s.set.drop j).all fun a=>zar p t a.cell) rfl rfl ⟨by simp -dsimp only[go_sem,seval],hK⟩ ?_;rintro j f' u' kk' bb' hj ⟨Bg,Aa⟩;have Aw:=zan j (by omega);simp -dsimp only[go_sem,seval,Bg];refine zac (fun h=> ?_) (fun h=> ?_)<;>(try rw[h])<;>(try simp only[zah]at h)<;>(try simp -dsimp only[go_sem,seval,Bg])
    ·obtain⟨a,ha,Cp⟩:=zai ‹j<s.set.length›;obtain⟨d0,x,hx⟩:=zch (hr.2 a Cp).1;have Ab:=zir p a.cell t x d0 hx;have o1:=zb6 (t:=t) d0 hx;simp -dsimp only[go_sem,seval,Bg,ha,Ab];refine zac (fun h=> ?_) (fun h=> ?_)<;>(try rw[h])<;>(try simp only[zah]at h)<;>(try simp -dsimp only[go_sem,seval,Bg])
     ·rw[Aa,za6 ha (by rw[o1];simpa using h)]
     ·refine⟨by omega,by simp -dsimp only[go_sem,seval,Aw],?_⟩;rw[Aa,za7 ha (by rw[o1];simpa using h)]
    ·have:j=s.set.length:=by omega
     subst this;rw[Aa,zbB]
   ·rcases hs:s.set with _ | ⟨a,r⟩
    ·rw[zvR (.inl k) hs];simp -dsimp only[go_sem,seval,k,hs]
    ·have hK:=zBG hP k hs;have BA:s.set.length=r.length+1:=by rw[hs];rfl
     have h0:s.set[0]? =some a:=by rw[hs];rfl
     have Cp:a∈s.set:=by rw[hs];simp
     obtain⟨d0,x,hx⟩:=zch (hr.2 a Cp).1;have Ab:=zir p a.cell t x d0 hx;have o1:=zb6 (t:=t) d0 hx;have o2:=zaZ (g:=Cell.ghost) hx;have Az: ¬(((r.length+1:Nat):Int)=0):=by omega
     simp -dsimp only[go_sem,seval,k,BA,Az,h0,Ab];refine zac (fun h=> ?_) (fun h=> ?_)<;>(try rw[h])<;>(try simp only[zah]at h)<;>(try simp -dsimp only[go_sem,seval,k,BA,h0,d0,hx])
     ·rw[hK,o1];simp[h]
     ·have e1:x.thread=t:=by assumption
      refine zac (fun h=> ?_) (fun h=> ?_)<;>(try rw[h])<;>(try simp only[zah]at h)<;>(try simp -dsimp only[go_sem,seval,k,BA,h0,d0,hx])
      ·rw[hK,o2];simp[h]
      ·have e2:x.ghost=false:=by assumption
       refine zac (fun h=> ?_) (fun h=> ?_)<;>(try rw[h])<;>(try simp only[zah]at h)<;>(try simp -dsimp only[go_sem,seval,k,BA,h0,d0,hx])
       ·rw[hK];simp[h]
       ·have e3:a.to.op=2:=by assumption
        obtain⟨d1,y,hy⟩:=zch (zj7 (hr.2 a Cp).2 e3);have Bo:=zgs p a.to.n y d1 hy;have q1:=zb6 (t:= -1) d1 hy;have q2:=zaZ (g:=Cell.ghost) hy;simp -dsimp only[go_sem,seval,Bo];refine zac (fun h=> ?_) (fun h=> ?_)<;>(try rw[h])<;>(try simp only[zah]at h)<;>(try simp -dsimp only[go_sem,seval,d1,hy])
        ·rw[hK,q1];simp[h]
        ·have e4:y.thread= -1:=by assumption
         refine zac (fun h=> ?_) (fun h=> ?_)<;>(try rw[h])<;>(try simp only[zah]at h)<;>(try simp -dsimp only[go_sem,seval,d1,hy])
         ·rw[hK,q2];simp[h]
         ·rw[o1,o2,q1,q2]at hK;simp only[e1,e2,e3,e4,h,decide_true,Bool.not_false,Bool.and_true,Bool.true_and]at hK;refine zaT 748288836919625719212122688004754514023314867888192 r.length (fun j f'=>(f' 13).v=vi ((j+1:Nat):Int)/\zbG p t s=(r.drop j).all fun b=>zar p t b.cell&&zby p b.cell Cell.ghost) rfl rfl ⟨by simp -dsimp only[go_sem,seval],hK⟩ ?_;rintro j f' u' kk' bb' hj ⟨Du,Aa⟩;have Aw:=zan (j+1) (by omega);simp -dsimp only[go_sem,seval,Du,BA];refine zac (fun h=> ?_) (fun h=> ?_)<;>(try rw[h])<;>(try simp only[zah]at h)<;>(try simp -dsimp only[go_sem,seval,Du,BA])
          ·obtain⟨b,hb,LN⟩:=zai (show j<r.length by omega);have Bf:s.set[j+1]? =some b:=by rw[hs];exact hb
           obtain⟨d2,z,hz⟩:=zch (hr.2 b (by rw[hs];simp[LN])).1;have KR:=zir p b.cell t z d2 hz;have z1:=zb6 (t:=t) d2 hz;have z2:=zaZ (g:=Cell.ghost) hz;simp -dsimp only[go_sem,seval,Du,hb,KR]
           repeat'(refine zac (fun h=> ?_) (fun h=> ?_)<;>(try rw[h])<;>(try simp only[zah]at h)<;>(try simp -dsimp only[go_sem,seval,Du,hb,d2,hz]))
           all_goals first
            | (rw[Aa,za6 hb (by rw[z1,z2];simp[*])];done)
            | (refine⟨by omega,by simp -dsimp only[go_sem,seval,Aw],?_⟩
               rw[Aa,za7 hb (by rw[z1,z2];simp[*])])
          ·have:j=r.length:=by omega
           subst this;rw[Aa,zbB]
   ·rcases hs:s.set with _ | ⟨a,r⟩
    ·rw[zvR (.inr k) hs];simp -dsimp only[go_sem,seval,k,hs]
    ·have hK:=zBF hP k hs;have BA:s.set.length=r.length+1:=by rw[hs];rfl
     have h0:s.set[0]? =some a:=by rw[hs];rfl
     have Cp:a∈s.set:=by rw[hs];simp
     obtain⟨d0,x,hx⟩:=zch (hr.2 a Cp).1;have Bo:=zgs p a.cell x d0 hx;have o1:=zb6 (t:= -1) d0 hx;have o2:=zaZ (g:=Cell.ghost) hx;have Az: ¬(((r.length+1:Nat):Int)=0):=by omega
     simp -dsimp only[go_sem,seval,k,BA,Az,h0,Bo];refine zac (fun h=> ?_) (fun h=> ?_)<;>(try rw[h])<;>(try simp only[zah]at h)<;>(try simp -dsimp only[go_sem,seval,k,BA,h0,d0,hx])
     ·rw[hK,o1];simp[h]
     ·have e1:x.thread= -1:=by assumption
      refine zac (fun h=> ?_) (fun h=> ?_)<;>(try rw[h])<;>(try simp only[zah]at h)<;>(try simp -dsimp only[go_sem,seval,k,BA,h0,d0,hx])
      ·rw[hK,o2];simp[h]
      ·rw[o1,o2]at hK;simp only[e1,h,decide_true,Bool.not_false,Bool.and_true,Bool.true_and]at hK;refine zaT 6581968012470941075173766043914016358599614643690763741118349376 r.length (fun j f'=>(f' 14).v=vi ((j+1:Nat):Int)/\zbG p t s=(r.drop j).all fun b=>zby p b.cell Cell.ghost) rfl rfl ⟨by simp -dsimp only[go_sem,seval],hK⟩ ?_;rintro j f' u' kk' bb' hj ⟨Du,Aa⟩;have Aw:=zan (j+1) (by omega);simp -dsimp only[go_sem,seval,Du,BA];refine zac (fun h=> ?_) (fun h=> ?_)<;>(try rw[h])<;>(try simp only[zah]at h)<;>(try simp -dsimp only[go_sem,seval,Du,BA])
       ·obtain⟨b,hb,LN⟩:=zai (show j<r.length by omega);have Bf:s.set[j+1]? =some b:=by rw[hs];exact hb
        obtain⟨d2,z,hz⟩:=zch (hr.2 b (by rw[hs];simp[LN])).1;have z2:=zaZ (g:=Cell.ghost) hz;simp -dsimp only[go_sem,seval,Du,hb,d2,hz];refine zac (fun h=> ?_) (fun h=> ?_)<;>(try rw[h])<;>(try simp only[zah]at h)<;>(try simp -dsimp only[go_sem,seval,Du])
        ·rw[Aa,za6 hb (by rw[z2];simp[h])]
        ·refine⟨by omega,by simp -dsimp only[go_sem,seval,Aw],?_⟩;rw[Aa,za7 hb (by rw[z2];simp[h])]
       ·have:j=r.length:=by omega
        subst this;rw[Aa,zbB]
   ·rw[zBE hP k];simp -dsimp only[go_sem,seval,k]
   all_goals(
    have ho:=zut;have AQ:=znM s.guard;have Aj:=zej s.target p.threads.length
    have EL:zbG p t s=(if s.kind=5 then s.guard.one&&decide (s.set=[])else if s.kind=6 then zdd p t s&&zf7 p s.target else zdd p t s):=by
     rw[zbG,if_neg (by omega),if_neg (by omega),if_neg (by omega),if_neg (by omega)]
    simp only[k]at EL;rw[show decide (s.guard.op=1/\s.guard.w=1/\s.guard.n=1/\s.guard.kids=[])=s.guard.one from rfl]at AQ
    by_cases hn:s.set=[]
    ·have Cg:s.set.length=0:=by rw[hn];rfl
     by_cases Lz:inR s.target p.threads.length=true
     ·have Lx:=Lz;simp only[inR,decide_eq_true_eq]at Lx;obtain⟨t0,t1⟩:=Lx;obtain⟨y,hy⟩: ∃y,p.threads[s.target.toNat]? =some y:=⟨_,zI (by omega)⟩
      have Eo:zf7 p s.target=y.asleep:=by simp[zf7,hy]
      rw[Lz]at Aj;simp -dsimp only[go_sem,seval,k,Cg,ho,AQ]
      repeat'(refine zac (fun h=> ?_) (fun h=> ?_)<;>(try rw[h])<;>(try simp only[zah]at h)<;>(try simp -dsimp only[go_sem,seval,k,Aj,t0,hy]))
      all_goals(
       rw[EL]
       simp[zdd, *])
     ·have Lz:inR s.target p.threads.length=false:=by simpa using Lz
      rw[Lz]at Aj;simp -dsimp only[go_sem,seval,k,Cg,ho,AQ]
      repeat'(refine zac (fun h=> ?_) (fun h=> ?_)<;>(try rw[h])<;>(try simp only[zah]at h)<;>(try simp -dsimp only[go_sem,seval,k,Aj]))
      all_goals(
       rw[EL]
       simp[zdd, *])
    ·have Cg:(s.set.length:Int)>0:=by have:=List.length_pos_iff.2 hn;omega
     simp -dsimp only[go_sem,seval,k,Cg];rw[EL]
     simp[zdd,hn])
end Rg
end
section
-- FULL
namespace Rg
open Go
theorem zed {p:Prog} {set:List Assign}: ∀{l:List Assign} {i:Nat},(zco (zbC p set) i l).1=0-> ∀a∈l,inR a.cell p.cells.length=true/\a.to.valid p.cells false=true
 | [],_,_,a,ha=>by simp at ha
 | x::r,i,h,a,ha=>by
   rw[zco]at h;split at h
   ·rename_i h0;rcases List.mem_cons.1 ha with rfl | ha
    ·unfold zbC at h0;split at h0
     ·simp at h0
     ·rename_i h1;split at h0
      ·simp at h0
      ·rename_i h2;simp only[Bool.or_eq_true,not_or,Bool.not_eq_true',Bool.not_eq_false]at h1 h2;exact⟨h1.1,h2.1⟩
    ·exact zed h a ha
   ·rename_i h0;exact absurd h h0
set_option maxHeartbeats 4000000 in
theorem zrr (p:Prog) (Ez: ∀c∈p.cells,-1<=c.thread) (t:Int) (ht:0<=t) (x:Thread) (hx:p.threads[t.toNat]? =some x) (K7: -2^48<x.points/\x.points<2^48) (s:Step) (Ac:s.set.length<2^48):
 Den Γ G 114 [(zP p),vi t,(zS s)]=some (vi (zaS p t x.points s)):=by
 (refine zag Γ114 rfl ?_;dsimp only[f114])
 have Cj:IntKind.i64.wrap (x.points-1)=x.points-1:=zaH (by omega);have B8:=zej s.fr (x.points-1);have Cq:=zej s.to x.points;have C8:=zej s.module p.modules.length;have hv:=zfT s.guard p.cells false;simp -dsimp [go_sem,ht,hx]
 by_cases AU:zdW p x.points s=true
 ·rw[zaS,if_pos AU]
  repeat'(refine zac (fun h=> ?_) (fun h=> ?_)<;>(try rw[h])<;>(try simp only[zah]at h)<;>(try simp -dsimp [go_sem,ht,hx,Cj,B8,Cq,C8]))
  all_goals(exfalso;simp only[zdW,Bool.or_eq_true,zF,Bool.not_eq_true',decide_eq_true_eq]at AU;simp_all;try omega)
 ·have Dx:zaS p t x.points s=if !s.guard.valid p.cells false||decide (s.guard.w≠1)then 60 else if ¬(zco (zbC p s.set) 0 s.set).1=0 then(zco (zbC p s.set) 0 s.set).1 else if zbG p t s then 0 else 70:=by rw[zaS,if_neg AU]
  have Bf:zdW p x.points s=false:=by simpa using AU
  simp only[zdW,Bool.or_eq_false_iff,Bool.and_eq_false_iff,Bool.not_eq_false',decide_eq_false_iff_not]at Bf;obtain⟨⟨⟨⟨⟨⟨b1,b2⟩,b3⟩,b4⟩,b5⟩,b6⟩,b7⟩:=Bf;rw[b3]at B8;rw[b4]at Cq;rw[b5]at C8
  have AL: ∀Q:Prop,(∀(c3 c6 c7 r tz:Bool),decide (s.kind=6)=c6->decide (s.kind=7)=c7->decide (s.kind=3)=c3->s.release=r->decide (s.target=0)=tz->
   ((c6=true/\r=false)\/(c6=false/\c7=true/\r=false)\/(c6=false/\c7=false/\tz=true/\r=false)\/(c6=false/\c7=false/\tz=true/\r=true/\c3=true))->Q)->Q:=fun Q q=>by
   refine q _ _ _ _ _ rfl rfl rfl rfl rfl ?_;simp only[decide_eq_true_eq,decide_eq_false_iff_not]
   by_cases h6:s.kind=6<;>by_cases h7:s.kind=7<;>by_cases h3:s.kind=3<;>cases hr:s.release<;>by_cases hz:s.target=0<;>simp_all
  refine AL _ (fun c3 c6 c7 r tz e6 e7 e3 er ez hc=> ?_);have C3:s.guard.valid p.cells false=true->s.guard.w=1->zaS p t x.points s=if ¬(zco (zbC p s.set) 0 s.set).1=0 then(zco (zbC p s.set) 0 s.set).1 else if zbG p t s then 0 else 70:=fun g1 g2=>by rw[Dx,if_neg (by simp[g1,g2])]
  have EP:(s.guard.valid p.cells false=false\/ ¬s.guard.w=1)->zaS p t x.points s=60:=fun g=>by rw[Dx,if_pos (by rcases g with g | g<;>simp[g])]
  have b1':1<=s.kind/\s.kind<=7:=by omega
  have e3':(decide ¬s.kind=3)= !c3:=by rw[<- e3];simp
  have ez':(decide ¬s.target=0)= !tz:=by rw[<- ez];simp
  rcases hc with⟨rfl,rfl⟩ | ⟨rfl,rfl,rfl⟩ | ⟨rfl,rfl,rfl,rfl⟩ | ⟨rfl,rfl,rfl,rfl,rfl⟩
  all_goals(try cases tz)
  all_goals(try cases c3)
  all_goals(try(exfalso;simp only[decide_eq_true_eq]at e3 e6 e7;omega))
  all_goals(
   (try simp only[Bool.not_true,Bool.not_false]at e3' ez')
   simp -dsimp [go_sem,ht,hx,Cj,B8,Cq,C8,b1,b2,e6,e7,e3',ez',er,hv]
   repeat'(refine zac (fun h=> ?_) (fun h=> ?_)<;>(try rw[h])<;>(try simp only[zah]at h)<;>(try simp -dsimp [go_sem,hv])))
  all_goals(try(rw[EP (.inl ‹_›)];done))
  all_goals(try(rw[EP (.inr ‹_›)];done))
  all_goals(
   have C3:=C3 ‹_› ‹_›;have M1:s.guard.valid p.cells false=true:=by assumption
   clear AL EP Dx hv B8 Cq C8 e3' ez' er e3;refine zaT 89202980794122492256657863269248377299144256 s.set.length (fun i f=>(f 9).v=vi i/\zco (zbC p s.set) 0 s.set=zco (zbC p s.set) i (s.set.drop i)) rfl rfl ⟨by simp -dsimp [go_sem],rfl⟩ ?_;rintro i f u kk bb hi ⟨h9,hm⟩;have hw:=zan i (by omega);simp -dsimp [go_sem,h9];refine zac (fun h=> ?_) (fun h=> ?_)<;>(try rw[h])<;>(try simp only[zah]at h)<;>(try simp -dsimp [go_sem,h9])
   ·obtain⟨a,ha,Cp⟩:=zai ‹i<s.set.length›;have B8:=zej a.cell p.cells.length
    have Ai: ∀k:Int,k≠0->zbC p s.set i a=k->zaS p t x.points s=k:=fun k hk h0=>by
     have h2:=hm.trans (zcC ha (by rw[h0];exact hk));rw[C3,h2,h0,if_pos hk]
    simp -dsimp [go_sem,h9,ha,B8];refine zac (fun h=> ?_) (fun h=> ?_)<;>(try rw[h])<;>(try simp only[zah]at h)<;>(try simp -dsimp [go_sem,h9])
    ·rw[Ai 70 (by decide) (by simp[zbC,h])]
    ·have I6:inR a.cell p.cells.length=true:=by assumption
     obtain⟨d0,y,hy⟩:=zch I6;refine zaT 1329065736508086659540415482270058560 i (fun k f'=>(f' 11).v=vi k/\(s.set.take k).any (fun b=>decide (b.cell=a.cell))=false) rfl rfl ⟨by simp -dsimp [go_sem],by simp⟩ ?_;rintro k f' u' kk' bb' hk ⟨Bg,A9⟩;have Aw:=zan k (by omega);simp -dsimp [go_sem,h9,Bg];refine zac (fun h=> ?_) (fun h=> ?_)<;>(try rw[h])<;>(try simp only[zah]at h)<;>(try simp -dsimp [go_sem,h9,Bg])
     ·obtain⟨d,hd,JP⟩:=zai (show k<s.set.length by omega);simp -dsimp [go_sem,h9,Bg,hd];refine zac (fun h=> ?_) (fun h=> ?_)<;>(try rw[h])<;>(try simp only[zah]at h)<;>(try simp -dsimp [go_sem,h9,Bg])
      ·rw[Ai 70 (by decide) (by rw[zbC,if_pos (by rw[zcx hd ‹k<i› (by simpa using h)];simp)])]
      ·refine⟨by omega,by simp -dsimp [go_sem,Aw],?_⟩;rw[zda hd,A9];simpa using h
     ·have:k=i:=by omega
      subst this;have DT:=zfT a.to p.cells false;have Id:=zaZ (g:=fun x=>decide (a.to.w=x.w)) hy
      have DW:zbC p s.set k a=if !a.to.valid p.cells false || !zby p a.cell (fun x=>decide (a.to.w=x.w))then 60 else 0:=by
       rw[zbC,if_neg (by rw[I6,A9];simp)]
      rw[Id]at DW;simp -dsimp [go_sem,h9,ha,DT];refine zac (fun h=> ?_) (fun h=> ?_)<;>(try rw[h])<;>(try simp only[zah]at h)<;>(try simp -dsimp [go_sem,h9,ha,d0,hy])
      ·rw[Ai 60 (by decide) (by rw[DW];simp[h])]
      ·have Ke:a.to.valid p.cells false=true:=by assumption
       refine zac (fun h=> ?_) (fun h=> ?_)<;>(try rw[h])<;>(try simp only[zah]at h)<;>(try simp -dsimp [go_sem,h9,ha,d0,hy])
       ·rw[Ai 60 (by decide) (by rw[DW];simp[h])]
       ·refine⟨by omega,by simp -dsimp [go_sem,hw],?_⟩;rw[hm,zc6 ha (by rw[DW];simp[h,Ke])]
   ·have:i=s.set.length:=by omega
    subst this;rw[zel]at hm;rw[hm,if_neg (by simp)]at C3;have EL:=zsn p Ez t ht s Ac ⟨M1,zed (i:=0) (set:=s.set) (by rw[hm])⟩ b1';simp -dsimp [go_sem,EL];refine zac (fun h=> ?_) (fun h=> ?_)<;>(try rw[h])<;>(try simp only[zah]at h)<;>(try simp -dsimp [go_sem])
    ·rw[C3];simp[h]
    ·rw[C3];simp[h])
end Rg
end
