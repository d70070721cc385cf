/- Part of the proof of laws of relyguardtop. No condition. -/
import Derived.Test.YtoidcnbdndioaaaGreatDoorJartAJ
import Derived.Test.YtoidcnbdndioaaaGreatDoorJartAI
set_option linter.unusedSimpArgs false
set_option linter.unusedVariables false
section
-- FULL
namespace Rg
open Go
def lcV (x:Expr):Bool:=decide (0<=x.n/\(x.kids=[]->x.op=1\/x.op=2\/x.op=3))
def IV (cells:List Cell) (pair:Bool) (k3 k4 k5 k7:Nat) (e:Expr) (s:Bool) (h:Nat->Option O):Prop:=
 h k7=some (.rows 1 [[vb s]] false)/\h k4=some (.rows 1 [[.t (.sl (cells.map Cell.enc))]] false)/\h k5=some (.rows 1 [[vb pair]] false)/\
 h k3=some (.rows 4 [[.t (ti e.op),.t (ti e.w),.t (ti e.n),.t (.sl (e.kids.map Expr.enc))]] false)
theorem zp4 (cells:List Cell) (pair:Bool) (k3 k4 k5 k7:Nat) (e:Expr) (h4:k4≠k7) (h5:k5≠k7) (h3:k3≠k7) (s:Bool) (H:Nat->Option O) (n:Nat) (v:V) (x:Expr)
 (hI:IV cells pair k3 k4 k5 k7 e s H) (hk:x.kids=[]) (hl:lcV x=true) (hs:Sh H v x):
 ∃r h' n',DenR Γ G 136 [v,.mp k4 0 0,.mp k5 0 0,.mp k7 0 0] H n=some (r,h',n')/\IV cells pair k3 k4 k5 k7 e (s&&zb3 cells pair x) h':=by
 obtain⟨i7,i4,i5,i3⟩:=hI;simp only[lcV,decide_eq_true_eq]at hl;obtain⟨Cg,Ao⟩:=hl;have Ao:=Ao hk
 (refine zay Γ136 rfl ?_;dsimp only[zLH])
 have yes: ∀h',h'=H->zb3 cells pair x=true->IV cells pair k3 k4 k5 k7 e (s&&zb3 cells pair x) h':=fun h' he hh=>by
  rw[hh,Bool.and_true,he];exact⟨i7,i4,i5,i3⟩
 have no: ∀h',h'=updC H k7 (some (.rows 1 [[vb false]] false))->zb3 cells pair x=false->IV cells pair k3 k4 k5 k7 e (s&&zb3 cells pair x) h':=fun h' he hh=>by
  rw[hh,Bool.and_false,he];refine⟨by simp[zaa],by simp[zaa,h4,i4],by simp[zaa,h5,i5],by simp[zaa,h3,i3]⟩
 rcases hc:cells[x.n.toNat]? with _ | c
 ·have Bv:x.n>=(cells.length:Int):=by rw[List.getElem?_eq_none_iff]at hc;omega
  rcases hs with rfl | ⟨k,fz,rfl,AB⟩
  ·rcases Ao with ho | ho | ho
   all_goals(
    simp -dsimp [go_sem,i7,i4,i5,ho,Bv]
    repeat'(refine zac (fun h=> ?_) (fun h=> ?_)<;>(try simp only[zah]at h)<;>(try simp -dsimp [go_sem, *]))
    all_goals(first | exact no _ (by simp -dsimp [go_sem]) (by simp[zb3,ho,hc]) | exact yes _ rfl (by simp[zb3,ho,hc])))
  ·rcases Ao with ho | ho | ho
   all_goals(
    simp -dsimp [go_sem,i7,i4,i5,ho,Bv,AB]
    repeat'(refine zac (fun h=> ?_) (fun h=> ?_)<;>(try simp only[zah]at h)<;>(try simp -dsimp [go_sem, *]))
    all_goals(first | exact no _ (by simp -dsimp [go_sem]) (by simp[zb3,ho,hc]) | exact yes _ rfl (by simp[zb3,ho,hc])))
 ·have Bv: ¬x.n>=(cells.length:Int):=by
   have:=(zH.1 hc).1;omega
  rcases hs with rfl | ⟨k,fz,rfl,AB⟩
  ·rcases Ao with ho | ho | ho
   all_goals(
    simp -dsimp [go_sem,i7,i4,i5,ho,Bv,hc,Cg]
    repeat'(refine zac (fun h=> ?_) (fun h=> ?_)<;>(try simp only[zah]at h)<;>(try simp -dsimp [go_sem, *]))
    all_goals(first | exact no _ (by simp -dsimp [go_sem]) (by simp[zb3, *]) | exact yes _ rfl (by simp[zb3, *])))
  ·rcases Ao with ho | ho | ho
   all_goals(
    simp -dsimp [go_sem,i7,i4,i5,ho,Bv,hc,Cg,AB]
    repeat'(refine zac (fun h=> ?_) (fun h=> ?_)<;>(try simp only[zah]at h)<;>(try simp -dsimp [go_sem, *]))
    all_goals(first | exact no _ (by simp -dsimp [go_sem]) (by simp[zb3, *]) | exact yes _ rfl (by simp[zb3, *])))
theorem zmZ (p:Expr->Bool): ∀(l:List Expr) (s:Bool),l.foldl (fun s x=>s&&p x) s=(s&&l.all p)
 | [],s=>by simp
 | x::l,s=>by simp only[List.foldl_cons,zmZ p l,List.all_cons,Bool.and_assoc]
theorem zvP {p:Expr->Bool} (hp: ∀x:Expr,x.kids≠[]->zbk x=true->p x=true) (d:Nat): ∀e:Expr,e.deep d=true->e.allE p=e.lv.all p:=by
 induction d with
 | zero=>intro e h;simp[Expr.deep]at h
 | succ d ih=>
   intro e h;rw[Expr.allE_eq,Expr.lv_eq];split
   ·rename_i hk;rw[hk];simp
   ·rename_i hk;rw[hp e hk (zcq h),Bool.true_and];have : ∀k∈e.kids,k.allE p=k.lv.all p:=fun k hk=>ih k (zc7 h hk)
    generalize e.kids=ks at this
    induction ks with
    | nil=>rfl
    | cons k ks ih2=>
      simp only[List.all_cons,List.flatMap_cons,List.all_append];rw[this k (by simp),ih2 (fun x hx=>this x (by simp[hx]))]
theorem zwQ {x:Expr} (hk:x.kids≠[]) (h:zbk x=true):4<=x.op:=by
 have ha:=zct h;have:0<x.kids.length:=List.length_pos_iff.2 hk;unfold zcO at ha;grind
theorem zje (cells:List Cell) (pair:Bool) {x:Expr} (hk:x.kids≠[]) (h:zbk x=true):zb3 cells pair x=true:=by
 have:=zwQ hk h;unfold zb3;rw[if_neg (by omega),if_neg (by omega)]
theorem zxa (d:Nat): ∀e:Expr,e.deep d=true->e.allE (fun x=>lcV x&&decide (x.kids.length<=3))=true:=by
 induction d with
 | zero=>intro e h;simp[Expr.deep]at h
 | succ d ih=>
   intro e h;rw[Expr.allE_eq];have hn:=zcq h;simp only[zF,zN,decide_eq_true_eq,lcV];refine⟨⟨⟨zfZ hn,fun hk=> ?_⟩,zdj hn⟩,fun k hk=> ?_⟩
   ·have ha:=zct hn;rw[hk]at ha;rcases zeg e.op with hh | hh | hh | hh | hh | hh | hh | hh | hh | hh | hh | hh | hh | hh | Ao
    ·exact .inl hh
    ·exact .inr (.inl hh)
    ·exact .inr (.inr hh)
    all_goals(try(rw[hh]at ha;simp[zcO]at ha;done))
    rw[zd7 Ao]at ha;simp at ha
   ·have:=ih k (zc7 h hk);simpa only[lcV]using this
theorem zfS (e:Expr) (cells:List Cell) (pair:Bool):Den Γ G 107 [(.agg [.t (ti (e).op),.t (ti (e).w),.t (ti (e).n),.t (.sl ((e).kids.map (Expr.enc)))]),.t (.sl (cells.map Cell.enc)),vb pair]=some (vb (e.valid cells pair)):=by
 (refine zag Γ107 rfl ?_;dsimp only[f107])
 have h1:=zeo e
 by_cases hf:e.formed=true
 ·simp -dsimp [go_sem,h1,hf];have hd:=zcp hf;refine zas (zkJ 136 _ (IV cells pair 0 1 2 7 e) (fun s x=>s&&zb3 cells pair x) lcV (zp4 cells pair 0 1 2 7 e (by decide) (by decide) (by decide)) e _ true _ _ (zxa 40 e hd) ⟨by simp -dsimp [go_sem],by simp -dsimp [go_sem],by simp -dsimp [go_sem],by simp -dsimp [go_sem]⟩ (fun s h hI=> .inr ⟨0,false,rfl,hI.2.2.2⟩)) ?_;rintro r h' n' ⟨i7,_⟩;simp -dsimp [go_sem,i7];rw[zmZ,Expr.valid,hf,zvP (fun x=>zje cells pair) 40 e hd]
 ·have hf:e.formed=false:=by simpa using hf
  simp -dsimp [go_sem,h1,hf];simp[Expr.valid,hf]
end Rg
end
section
-- APPS
namespace Rg
open Go
def Own (h:Nat->Option O) (x:Nat) (v:V) (sz:Nat) (rows:List (List V)):Prop:=
 (v= .t .nils/\rows=[])\/ ∃k,v= .ms k 0 rows.length/\k<x/\h k=some (.rows sz rows false)
theorem zei {α β:Type} (f:α->Option β): ∀(l:List α) (r:List β),(∀i:Nat,∀a,l[i]? =some a-> ∃b,r[i]? =some b/\f a=some b)->l.length=r.length->l.mapM f=some r
 | [],[],_,_=>rfl
 | [],_::_,_,h=>by simp at h
 | _::_,[],_,h=>by simp at h
 | a::l,b::r,h,hl=>by
   rw[List.mapM_cons];obtain⟨b',hb,hf⟩:=h 0 a rfl;simp at hb;subst hb;rw[hf,zei f l r (fun i a' ha=>by simpa using h (i+1) a' (by simpa using ha)) (by simpa using hl)];rfl
theorem zdJ (h:Nat->Option O) (d:Nat) (es:List (List T)) (hn: ∀e∈es,∀t∈e,T.norm t=t):
 (es.map (·.map V.t)).mapM (fun row=>row.mapM (toT h d))=some es:=by
 refine zei _ _ _ (fun i a ha=> ?_) (by simp);rw[zJ]at ha
 cases he:es[i]? with
 | none=>rw[he]at ha;simp at ha
 | some e=>
   rw[he]at ha;simp only[Option.map_some,zA]at ha;subst ha;refine⟨e,rfl,?_⟩;refine zei _ _ _ (fun j b hb=> ?_) (by simp);rw[zJ]at hb
   cases ht:e[j]? with
   | none=>rw[ht]at hb;simp at hb
   | some t=>
     rw[ht]at hb;simp only[Option.map_some,zA]at hb;subst hb;have:=hn e (zL he) t (zL ht);refine⟨t,rfl,?_⟩;cases d<;>simp[toT,this]
theorem zcc {h:Nat->Option O} {x:Nat} {v:V} {sz:Nat} {es:List (List T)} (ho:Own h x v sz (es.map (·.map V.t))) (hn: ∀e∈es,∀t∈e,T.norm t=t):
 toT h 1000 v=some (.sl es):=by
 rcases ho with⟨rfl,he⟩ | ⟨k,rfl,hk,hh⟩
 ·have:es=[]:=by simpa using he
  subst this;rfl
 ·rw[toT,hh];simp only[rd,Nat.zero_add,Nat.le_refl,if_true,List.drop_zero,List.take_length,zC,zD];rw[zdJ h 999 es hn];rfl
theorem zbP (l:List Int): ∀e∈(l.map fun n=>[ti n]),∀t∈e,T.norm t=t:=by
 intro e he t ht;obtain⟨n,_,rfl⟩:=List.mem_map.1 he;simp at ht;subst ht;rfl
def zbJ (l:List Bool) (i:Nat):List Int:=((List.range i).filter fun j=>l.getD j false).map fun j:Nat=>(j:Int)
theorem ze4 (l:List Bool) (i:Nat):zbJ l (i+1)=zbJ l i++if l.getD i false then [(i:Int)]else []:=by
 unfold zbJ;rw[List.range_succ,List.filter_append,List.map_append];cases h:l.getD i false<;>simp only[List.filter_cons,List.filter_nil,h,if_true,if_false,zG,List.map_nil,List.map_cons]
def zae (l:List Int):List (List V):=(l.map fun n=>[ti n]).map (·.map V.t)
theorem zab (l:List Int):(zae l).length=l.length:=by simp[zae]
theorem za4 (l:List Int) (n:Int):zae (l++[n])=zae l++[[vi n]]:=by simp[zae]
theorem zaQ (l:List Int):((zae l).all fun r=>decide (r.length=1))=true:=by simp[zae]
theorem zsd {k x:Nat} (h:k<x) (j:Nat): ¬k=x+j:=by omega
theorem zn1 {k x:Nat} (h:k<x) (j j':Nat): ¬k=x+j+j':=by omega
theorem zsc {k x:Nat} (h:k<x) (j j' j'':Nat): ¬k=x+j+j'+j'':=by omega
end Rg
end
section
-- FULL
namespace Rg
open Go
def zar (p:Prog) (t c:Int):Bool:=decide (0<=c)&&match p.cells[c.toNat]? with
 | some x=>decide (x.thread=t)
 | none=>false
end Rg
end
section
namespace Rg
open Go
end Rg
end
section
-- FULL
namespace Rg
open Go
def zjW (p:Prog) (t c:Int):Bool:=zar p (-1) c||zar p t c
end Rg
end
section
-- APPS
namespace Rg
open Go
theorem zwN {k x:Nat} (h:k<x) (a b c d:Nat): ¬k=x+a+b+c+d:=by omega
theorem zi2 (l:List Bool) (hl:l.length=32): ∃r h' n',DenR Γ G 78 [.agg (l.map fun b=>vb b)] (fun _=>none) 0=some (r,h',n')/\Own h' n' r 1 (zae (zbJ l 32)):=by
 (refine zay Γ78 rfl ?_;dsimp only[f78])
 have Hy:(l.map fun b=>vb b).length=32:=by simp[hl]
 have Dv:List.take 32 (l.map fun b=>vb b)=l.map fun b=>vb b:=List.take_of_length_le (by omega)
 simp -dsimp only[go_sem,seval,zck,hl,Dv];refine zaq 131000 32 (fun i f h x=>(f 7).v=vi i/\Own h x (f 3).v 1 (zae (zbJ l i))) rfl ⟨by simp -dsimp only[go_sem,seval,zck],.inl ⟨by simp -dsimp only[go_sem,seval,zck],rfl⟩⟩ ?_;rintro i f u H x bs hi ⟨h4,Ab⟩;have hw:=zan i (by omega);have Dq:(0:Int)<=(i:Int):=by omega
 simp -dsimp only[go_sem,seval,zck,h4];refine zac (fun h=> ?_) (fun h=> ?_)<;>(try simp only[zah]at h)<;>(try simp -dsimp only[go_sem,seval,zck, *])
 ·have Ad:i<32:=by omega
  have hx:l[i]? =some (l[i]'(by omega)):=zI (by omega)
  generalize hb:l[i]'(by omega)=b at hx
  have gx:l.getD i false=b:=by simp[List.getD,hx]
  have QG:List.take 1 (List.drop (i*1) (l.map fun b=>vb b))=[vb b]:=by
   rw[Nat.mul_one,<- List.map_drop,<- List.map_take]
   have:(l.drop i).take 1=[b]:=by
    rw[List.drop_eq_getElem_cons (by omega),hb];rfl
   rw[this];rfl
  have NB:i*1<=31:=by omega
  simp -dsimp only[go_sem,seval,zck,h4,QG,hl,NB];refine zac (fun h=> ?_) (fun h=> ?_)<;>(try simp only[zah]at h)<;>(try simp -dsimp only[go_sem,seval,zck, *])
  ·have FY:zbJ l (i+1)=zbJ l i++[(i:Int)]:=by rw[ze4,gx,h];rfl
   have N4:(zbJ l i).length<=i:=by
    unfold zbJ;rw[List.length_map];exact Nat.le_trans (List.length_filter_le _ _) (by simp)
   rcases Ab with⟨hv,he⟩ | ⟨k,hv,hk,hh⟩
   ·have BZ:zbJ l i=[]:=by simpa[zae]using he
    simp -dsimp only[go_sem,seval,zck,h4,hv];refine⟨by omega,by simp -dsimp only[go_sem,seval,zck,hw],?_⟩;simp -dsimp only[go_sem,seval,zck,FY,BZ,zae];exact .inr ⟨_,rfl,by omega,by simp -dsimp only[go_sem,seval,zck]⟩
   ·have n1:=zsd hk;have n2:=zn1 hk;have n3:=zsc hk;have n4:=zwN hk;have Cu:=zaQ (zbJ l i);have Bb:=zab (zbJ l i);have A5:(zae (zbJ l i)).length<=4294967295:=by omega
    simp -dsimp only[go_sem,seval,zck,h4,hv,hh,n1,n2,n3,n4,Cu,Nat.le_refl,List.take_length,A5];refine⟨by omega,by simp -dsimp only[go_sem,seval,zck,hw],?_⟩;simp -dsimp only[go_sem,seval,zck,FY,za4];exact .inr ⟨_,(by rw[zM];rfl),by omega,by simp -dsimp only[go_sem,seval,zck]⟩
  ·have FY:zbJ l (i+1)=zbJ l i:=by rw[ze4,gx,h];simp
   refine⟨by omega,by simp -dsimp only[go_sem,seval,zck,hw],?_⟩;simp -dsimp only[go_sem,seval,zck,FY];rcases Ab with⟨hv,he⟩ | ⟨k,hv,hk,hh⟩
   ·exact .inl ⟨hv,he⟩
   ·exact .inr ⟨k,hv,by omega,hh⟩
 ·have:i=32:=by omega
  subst this;rcases Ab with⟨hv,he⟩ | ⟨k,hv,hk,hh⟩
  ·simp -dsimp only[go_sem,seval,zck,hv];exact .inl ⟨rfl,he⟩
  ·simp -dsimp only[go_sem,seval,zck,hv];exact .inr ⟨k,rfl,Nat.lt_of_lt_of_le hk (by first | omega | exact Nat.le_trans (zhI _ _) (zhI _ _) | exact zhI _ _),hh⟩
def vbs (l:List Bool):List V:=l.map fun b=>vb b
theorem zvB {l:List Bool} {i:Nat} (h:i<l.length):wr (vbs l) i [vb true]=some (vbs (l.set i true)):=by
 unfold wr vbs;rw[if_pos (by simp;omega)]
 congr 1
 rw[List.map_set,List.set_eq_take_append_cons_drop,if_pos (by simpa using h)];simp
def zb2 (op:Int) (s:List Bool) (x:Expr):List Bool:=if x.op=op then s.set x.n.toNat true else s
theorem zsg (op:Int) (s:List Bool) (x:Expr):(zb2 op s x).length=s.length:=by unfold zb2;split<;>simp
def lcS (x:Expr):Bool:=decide (0<=x.n/\(x.kids=[]->x.op=1\/((x.op=2\/x.op=3)/\x.n<32)))
def IS (k1 k4 k5:Nat) (e:Expr) (s:List Bool×List Bool) (h:Nat->Option O):Prop:=
 s.1.length=32/\s.2.length=32/\h k4=some (.rows 32 [vbs s.1] false)/\h k5=some (.rows 32 [vbs s.2] false)/\
 h k1=some (.rows 4 [[.t (ti e.op),.t (ti e.w),.t (ti e.n),.t (.sl (e.kids.map Expr.enc))]] false)
theorem zmi (k1 k4 k5:Nat) (e:Expr) (Gh:k4≠k5) (C0:k1≠k4) (Cy:k1≠k5) (s:List Bool×List Bool) (H:Nat->Option O) (n:Nat) (v:V) (x:Expr)
 (hI:IS k1 k4 k5 e s H) (hk:x.kids=[]) (hl:lcS x=true) (hs:Sh H v x):
 ∃r h' n',DenR Γ G 77 [v,.mp k4 0 0,.mp k5 0 0] H n=some (r,h',n')/\IS k1 k4 k5 e (zb2 3 s.1 x,zb2 2 s.2 x) h'/\ ∀k,k≠k4->k≠k5->h' k=H k:=by
 obtain⟨l1,l2,i4,i5,i1⟩:=hI;simp only[lcS,decide_eq_true_eq]at hl;obtain⟨Cg,Ao⟩:=hl;have Ao:=Ao hk
 (refine zay Γ77 rfl ?_;dsimp only[f77])
 have Bo: ∃fz,v= .t (.ip [ti x.op,ti x.w,ti x.n,.sl (x.kids.map Expr.enc)])\/ ∃k,v= .mp k 0 0/\H k=some (.rows 4 [[.t (ti x.op),.t (ti x.w),.t (ti x.n),.t (.sl (x.kids.map Expr.enc))]] fz):=by
  rcases hs with h | ⟨k,fz,h1,h2⟩
  ·exact⟨false,.inl h⟩
  ·exact⟨fz,.inr ⟨k,h1,h2⟩⟩
 obtain⟨fz,Bo⟩:=Bo;rcases Ao with ho | ⟨ho,Ad⟩
 ·have m1:zb2 3 s.1 x=s.1:=by simp[zb2,ho]
  have m2:zb2 2 s.2 x=s.2:=by simp[zb2,ho]
  rcases Bo with rfl | ⟨k,rfl,AB⟩
  ·simp -dsimp only[go_sem,seval,ho];rw[m1,m2];exact⟨⟨l1,l2,i4,i5,i1⟩,fun _ _ _=>rfl⟩
  ·simp -dsimp only[go_sem,seval,ho,AB];rw[m1,m2];exact⟨⟨l1,l2,i4,i5,i1⟩,fun _ _ _=>rfl⟩
 ·have hn:0<=x.n/\x.n<32:=⟨Cg,Ad⟩
  have Lo:x.n.toNat<32:=by omega
  have v1:(vbs s.1).length=32:=by simp[vbs,l1]
  have v2:(vbs s.2).length=32:=by simp[vbs,l2]
  have c1:x.n.toNat*1<=31:=by omega
  have w1:=zvB (l:=s.1) (i:=x.n.toNat) (by omega);have w2:=zvB (l:=s.2) (i:=x.n.toNat) (by omega);unfold wr at w1 w2;rw[if_pos (by rw[v1];simp;omega)]at w1;rw[if_pos (by rw[v2];simp;omega)]at w2;simp only[zA,List.length_cons,List.length_nil,Nat.zero_add,zQ,List.cons_append,List.nil_append]at w1 w2;rcases ho with ho | ho
  ·have m1:zb2 3 s.1 x=s.1:=by simp[zb2,ho]
   have m2:zb2 2 s.2 x=s.2.set x.n.toNat true:=by simp[zb2,ho]
   rw[m1,m2];rcases Bo with rfl | ⟨k,rfl,AB⟩
   ·simp -dsimp only[go_sem,seval,ho,hn,i5,v2,c1];refine⟨⟨l1,by simp[l2],by simp -dsimp only[go_sem,seval,Gh,i4],?_,by simp -dsimp only[go_sem,seval,Cy,i1]⟩,fun q _ hq=>by simp -dsimp only[go_sem,seval,hq]⟩;simp -dsimp only[go_sem,seval,Nat.mul_one,zQ,w2]
   ·simp -dsimp only[go_sem,seval,ho,hn,i5,v2,c1,AB];refine⟨⟨l1,by simp[l2],by simp -dsimp only[go_sem,seval,Gh,i4],?_,by simp -dsimp only[go_sem,seval,Cy,i1]⟩,fun q _ hq=>by simp -dsimp only[go_sem,seval,hq]⟩;simp -dsimp only[go_sem,seval,Nat.mul_one,zQ,w2]
  ·have m1:zb2 3 s.1 x=s.1.set x.n.toNat true:=by simp[zb2,ho]
   have m2:zb2 2 s.2 x=s.2:=by simp[zb2,ho]
   rw[m1,m2];rcases Bo with rfl | ⟨k,rfl,AB⟩
   ·simp -dsimp only[go_sem,seval,ho,hn,i4,v1,c1];refine⟨⟨by simp[l1],l2,?_,by simp -dsimp only[go_sem,seval,Ne.symm Gh,i5],by simp -dsimp only[go_sem,seval,C0,i1]⟩,fun q hq _=>by simp -dsimp only[go_sem,seval,hq]⟩;simp -dsimp only[go_sem,seval,Nat.mul_one,zQ,w1]
   ·simp -dsimp only[go_sem,seval,ho,hn,i4,v1,c1,AB];refine⟨⟨by simp[l1],l2,?_,by simp -dsimp only[go_sem,seval,Ne.symm Gh,i5],by simp -dsimp only[go_sem,seval,C0,i1]⟩,fun q hq _=>by simp -dsimp only[go_sem,seval,hq]⟩;simp -dsimp only[go_sem,seval,Nat.mul_one,zQ,w1]
end Rg
end
section
-- FULL
namespace Rg
open Go
theorem zhz {α β γ:Type} (f:α->γ->α) (g:β->γ->β): ∀(l:List γ) (a:α) (b:β),l.foldl (fun s x=>(f s.1 x,g s.2 x)) (a,b)=(l.foldl f a,l.foldl g b)
 | [],a,b=>rfl
 | x::l,a,b=>by simp only[List.foldl_cons];exact zhz f g l _ _
def Expr.occ (op:Int) (e:Expr):List Bool:=e.lv.foldl (zb2 op) (List.replicate 32 false)
def Expr.sup (op:Int) (e:Expr):List Int:=if e.formed then zbJ (e.occ op) 32 else []
theorem zlt (op:Int) (e:Expr):(e.occ op).length=32:=by
 unfold Expr.occ
 generalize e.lv=l
 have : ∀(l:List Expr) (s:List Bool),(l.foldl (zb2 op) s).length=s.length:=by
  intro l
  induction l with
  | nil=>intro s;rfl
  | cons x l ih=>intro s;rw[List.foldl_cons,ih,zsg]
 rw[this];simp
theorem zpJ (d:Nat): ∀e:Expr,e.deep d=true->e.allE (fun x=>lcS x&&decide (x.kids.length<=3))=true:=by
 induction d with
 | zero=>intro e h;simp[Expr.deep]at h
 | succ d ih=>
   intro e h;rw[Expr.allE_eq];have hn:=zcq h;simp only[zF,zN,decide_eq_true_eq,lcS];refine⟨⟨⟨zfZ hn,fun hk=> ?_⟩,zdj hn⟩,fun k hk=> ?_⟩
   ·have ha:=zct hn;have hw:=zmO hn;rw[hk]at ha;obtain⟨op,w,n,ks⟩:=e;simp only[go_sem]at *;rcases zeg op with hh | hh | hh | hh | hh | hh | hh | hh | hh | hh | hh | hh | hh | hh | Ao
    ·exact .inl hh
    ·refine .inr ⟨.inl hh,?_⟩;rw[ze3 (by omega) hw]at hn;simp[hh]at hn;omega
    ·refine .inr ⟨.inr hh,?_⟩;rw[ze3 (by omega) hw]at hn;simp[hh]at hn;omega
    all_goals(try(rw[hh]at ha;simp[zcO]at ha;done))
    rw[zd7 Ao]at ha;simp at ha
   ·have:=ih k (zc7 h hk);simpa only[lcS]using this
end Rg
end
section
namespace Rg
open Go
theorem zku (h:Nat->Option O) (d:Nat) {rs:List (List V)} (hf: ∀r∈rs,∀v∈r,V.tree v=true):rs.flatMap (·.flatMap (reach h d))=[]:=by
 simp only[List.flatMap_eq_nil_iff];intro r hr v hv;have:=hf r hr v hv;cases v<;>simp_all [V.tree]<;>cases d<;>rfl
theorem zo6 {h:Nat->Option O} {k sz:Nat} {rs:List (List V)} {fz:Bool} {i n:Nat} (hk:h k=some (.rows sz rs fz)) (hf: ∀r∈rs,∀v∈r,V.tree v=true): [V.ms k i n].flatMap (zba h)=[k]:=by
 simp only[List.flatMap_cons,List.flatMap_nil,List.append_nil,zba,reach,hk,zku h 999 hf]
namespace Expr
mutual
def beq:Expr->Expr->Bool
 | .mk o w n k,.mk o' w' n' k'=>decide (o=o'/\w=w'/\n=n')&&zCP k k'
def zCP:List Expr->List Expr->Bool
 | [],[]=>true
 | e::r,e'::r'=>beq e e'&&zCP r r'
 | _,_=>false
end
end Expr
def zaF (h:Nat->Option O) (x:Nat) (v:V) (sz:Nat) (rows:List (List V)):Prop:=
 (v= .t .nils/\rows=[])\/ ∃k,v= .ms k 0 rows.length/\k<x/\h k=some (.rows sz rows false)
theorem zaF.rowsS {h:Nat->Option O} {x:Nat} {v:V} {sz:Nat} {rows:List (List V)} (o:zaF h x v sz rows):rowsS h v=some rows:=by
 rcases o with⟨rfl,rfl⟩ | ⟨k,rfl,_,hk⟩
 ·rfl
 ·simp[Rg.rowsS,hk,rd]
theorem zaF.lenS {h:Nat->Option O} {x:Nat} {v:V} {sz:Nat} {rows:List (List V)} (o:zaF h x v sz rows):lenS h v=some rows.length:=by
 rcases o with⟨rfl,rfl⟩ | ⟨k,rfl,_,hk⟩
 ·rfl
 ·simp[Rg.lenS,hk]
theorem zaF.valOf {h:Nat->Option O} {x:Nat} {v:V} {sz:Nat} {rows:List (List V)} (o:zaF h x v sz rows):valOf v=some v:=by
 rcases o with⟨rfl,rfl⟩ | ⟨k,rfl,_,hk⟩<;>rfl
theorem zfp (op:Int) (e:Expr):(e.sup op).length<=32:=by
 unfold Expr.sup;split
 ·unfold zbJ;rw[List.length_map];exact Nat.le_trans (List.length_filter_le _ _) (by simp)
 ·simp
theorem zaF.upd {h:Nat->Option O} {x:Nat} {v:V} {sz:Nat} {rows:List (List V)} (o:zaF h x v sz rows) {q:Nat} (hq:x<=q) (b:Option O):zaF (updC h q b) (q+1) v sz rows:=by
 rcases o with o | ⟨k,h1,h2,h3⟩
 ·exact .inl o
 ·exact .inr ⟨k,h1,by omega,by rw[zaa,if_neg (by omega)];exact h3⟩
theorem zaF.le {h:Nat->Option O} {x y:Nat} {v:V} {sz:Nat} {rows:List (List V)} (o:zaF h x v sz rows) (hq:x<=y):zaF h y v sz rows:=by
 rcases o with o | ⟨k,h1,h2,h3⟩
 ·exact .inl o
 ·exact .inr ⟨k,h1,by omega,h3⟩
theorem zaF.r1 {h:Nat->Option O} {x:Nat} {v:V} {sz:Nat} {rows:List (List V)} (o:zaF h x v sz rows) (a:Nat) (b:Option O):Rg.rowsS (updC h (x+a) b) v=some rows:=(o.upd (by omega) b).rowsS
theorem zaF.r2 {h:Nat->Option O} {x:Nat} {v:V} {sz:Nat} {rows:List (List V)} (o:zaF h x v sz rows) (a c:Nat) (b:Option O):Rg.rowsS (updC h (x+a+c) b) v=some rows:=(o.upd (by omega) b).rowsS
theorem zaF.r3 {h:Nat->Option O} {x:Nat} {v:V} {sz:Nat} {rows:List (List V)} (o:zaF h x v sz rows) (a c d:Nat) (b:Option O):Rg.rowsS (updC h (x+a+c+d) b) v=some rows:=(o.upd (by omega) b).rowsS
theorem zaF.r4 {h:Nat->Option O} {x:Nat} {v:V} {sz:Nat} {rows:List (List V)} (o:zaF h x v sz rows) (a c d e:Nat) (b:Option O):Rg.rowsS (updC h (x+a+c+d+e) b) v=some rows:=(o.upd (by omega) b).rowsS
theorem zaF.r5 {h:Nat->Option O} {x:Nat} {v:V} {sz:Nat} {rows:List (List V)} (o:zaF h x v sz rows) (a c d e f:Nat) (b:Option O):Rg.rowsS (updC h (x+a+c+d+e+f) b) v=some rows:=(o.upd (by omega) b).rowsS
theorem zaF.reify {h:Nat->Option O} {x:Nat} {v:V} {sz:Nat} {es:List (List T)} (o:zaF h x v sz (es.map (·.map V.t))) (hn: ∀e∈es,∀t∈e,T.norm t=t):Rg.reify h v=some (.t (.sl es)):=by
 have:=zcc o hn;rcases o with⟨rfl,he⟩ | ⟨k,rfl,_,_⟩
 ·have:es=[]:=by simpa using he
  subst this;rfl
 ·simp only[Rg.reify,toT1,this,Option.map_some]
theorem zaF.one {h:Nat->Option O} {x:Nat} {v:V} {sz:Nat} {rows:List (List V)} (o:zaF h x v sz rows):v.one=true:=by
 rcases o with⟨rfl,_⟩ | ⟨k,rfl,_,_⟩<;>rfl
theorem zaF.resVal {h:Nat->Option O} {x:Nat} {v:V} {sz:Nat} {rows:List (List V)} (o:zaF h x v sz rows):Rg.resVal v=some v:=by
 rcases o with⟨rfl,_⟩ | ⟨k,rfl,_,_⟩<;>rfl
def zbg (v:V) (k:Nat):Prop:= ∀i n,v≠ .ms k i n
theorem za3 {q k:Nat} (h:k≠q) (i n:Nat):zbg (.ms q i n) k:=by
 intro i' n' he;cases he;exact h rfl
theorem zav {h:Nat->Option O} {x q sz bytes:Nat} {u:V} {a:List (List V)} {r:List V} {K:V->List (Nat×O)->Prop} {w:WK K}
 (ho:zaF h x u sz a) (hx:x<=q) (Ac:a.length<2^32) (Tk:bytes<=2^12) (hb:r.length=sz) (ha:(a.all fun r=>decide (r.length=sz))=true)
 (hK: ∀v hp,zaF (At h hp) (q+1) v sz (a++[r])->(∀j,j<x->zbg v j)->(∀j,j<x->zbg u j->At h hp j=h j)->K v hp):
 ziX false (zck h q sz bytes u a [r]) K w:=by
 unfold zck;rw[if_pos ⟨⟨by simp;omega,Tk⟩,by simp[hb],ha⟩];simp only[List.isEmpty_cons,zG,if_false];rcases ho with⟨rfl,rfl⟩ | ⟨k,rfl,hk,hh⟩
 ·simp only[zcb];refine hK _ _ (.inr ⟨q,rfl,by omega,?_⟩) (fun j hj=>za3 (by omega) _ _) (fun j hj _=> ?_)
  ·simp[zaC,zaA,zaa]
  ·have:j≠q:=by omega
   simp[zaC,zaA,zaa,this]
 ·simp only[hh,and_self,if_true,zcb,zfP];refine hK _ [(k,.dead),(q,.rows sz (a++[r]) false)] (.inr ⟨q,by rw[zM],by omega,by simp[zaC,zaA,zaa]⟩) (fun j hj=>za3 (by omega) _ _) (fun j hj Az=> ?_);have h1:j≠q:=by omega
  have h2:j≠k:=by rintro rfl;exact Az 0 _ rfl
  simp[zaC,zaA,zaa,h1,h2]
theorem zaF.keep {h h':Nat->Option O} {x y:Nat} {v:V} {sz:Nat} {rows:List (List V)} (o:zaF h x v sz rows) (BW:x<=y) (hh: ∀k,k<x-> ¬zbg v k->h' k=h k):zaF h' y v sz rows:=by
 rcases o with o | ⟨k,rfl,h2,h3⟩
 ·exact .inl o
 ·exact .inr ⟨k,rfl,by omega,by rw[hh k h2 (fun h0=>h0 _ _ rfl)];exact h3⟩
theorem zhx {h:Nat->Option O} {key g sz:Nat} {vs rs:List V} {es:List (List T)} {K:V->List (Nat×O)->Prop} {w:WK K} (ht:vs.all V.tree=true) (AD:vs.mapM (toT1 h)=some rs)
 (hd: ∃r h' n',DenR Γ G g rs (fun _=>none) 0=some (r,h',n')/\zaF h' n' r sz (es.map (·.map V.t)))
 (hK: ∀v hp,zaF (At h hp) (key+1) v sz (es.map (·.map V.t))->(∀j,j≠key->At h hp j=h j)->(∀j,j≠key->zbg v j)->K v hp):zyL (Γ:=Γ) (G:=G) false h key g vs K w:=by
 obtain⟨r,h',n',CF,Ab⟩:=hd
 have Je:vs.flatMap (zba h)=[]:=by
  simp only[List.flatMap_eq_nil_iff];intro v hv;exact zkt (zN.1 ht v hv)
 refine⟨rfl,Je,rs,AD,r,h',n',CF,?_⟩;rcases Ab with⟨rfl,he⟩ | ⟨k,rfl,hk,hh⟩
 ·refine⟨{ val:=.t .nils },rfl,hK _ _ (.inl ⟨rfl,he⟩) (fun j _=>by rw[zaA]) (fun j _ i n h=>by cases h)⟩
 ·have Aa:(es.map (·.map V.t)).all (fun row=>row.all V.isTr)=true:=by
   simp[V.isTr]
  refine⟨{ val:=.ms key 0 (es.map (·.map V.t)).length,hp:=[(key,.rows sz (es.map (·.map V.t)) false)] },?_,hK _ _ (.inr ⟨key,rfl,by omega,by simp[zaC,zaA,zaa]⟩) (fun j hj=>by simp[zaC,zaA,zaa,hj]) (fun j hj=>za3 (by omega) _ _)⟩;simp only[zqm,hh];rw[if_pos ⟨trivial,trivial,Aa⟩]
def zxq:Task->Out->Prop
 | .code _ s,.code _ s'=>s.nxt<=s'.nxt
 | .loop _ s,.code _ s'=>s.nxt<=s'.nxt
 | .ops _ _ _ s,.ops s'=>s.nxt<=s'.nxt
 | .rcall _ _ _ n,.vals _ _ n'=>n<=n'
 | _,_=>True
theorem zxh {Γ:Nat->Option F} {G:Nat->List T} {t:Task} {o:Out} (h:Big Γ G t o):zxq t o:=by
 induction h with
 | rext hg hr hb h=>exact(zm6 h).1
 | opsYield hw hf ho As AB Au Ac Bi A3 CL AF h iha ihb ih=>
   simp only[zxq,St.apply,zht]at *
   omega
 | _=>simp_all [zxq,St.begin,St.apply,St.init]<;>omega
theorem zu9 {Γ:Nat->Option F} {G:Nat->List T} {g:Nat} {args:List V} {h h':Nat->Option O} {n n':Nat} {r:V} (hd:DenR Γ G g args h n=some (r,h',n')):n<=n':=zxh (zcI.1 hd)
theorem zyv {Γ:Nat->Option F} {G:Nat->List T} {g:Nat} {args:List V} {h:Nat->Option O} {n:Nat} {P:V->(Nat->Option O)->Nat->Prop} (hd: ∃r h' n',DenR Γ G g args h n=some (r,h',n')/\P r h' n'):
 ∃r h' n',DenR Γ G g args h n=some (r,h',n')/\(P r h' n'/\n<=n'):=
 let⟨r,h',n',h1,h2⟩:=hd
 ⟨r,h',n',h1,h2,zu9 h1⟩
theorem zfo (e:Expr) (H0:Nat->Option O) (n0:Nat):
 ∃r h' n',DenR Γ G 60 [(.agg [.t (ti (e).op),.t (ti (e).w),.t (ti (e).n),.t (.sl ((e).kids.map (Expr.enc)))])] H0 n0=some (r,h',n')/\ ∃v3 v2,r= .tup [v3,v2]/\zaF h' n' v3 1 (zae (e.sup 3))/\zaF h' n' v2 1 (zae (e.sup 2))/\n0<=n'/\ ∀k,k<n0->h' k=H0 k/\zbg v3 k/\zbg v2 k:=by
 (refine zay Γ60 rfl ?_;dsimp only[f60])
 have h1:=zeo e
 by_cases hf:e.formed=true
 ·simp -dsimp only[go_sem,seval,h1,hf];have hd:=zcp hf;refine zas (zyv (zkJ 77 _ (fun s h=>IS (n0+0) (n0+3+3+0) (n0+3+3+1) e s h/\ ∀k,k<n0->h k=H0 k) (fun s x=>(zb2 3 s.1 x,zb2 2 s.2 x)) lcS ?_ e _ (List.replicate 32 false,List.replicate 32 false) _ _ (zpJ 40 e hd) ⟨⟨rfl,rfl,?_,?_,?_⟩,?_⟩ (fun s h hI=> .inr ⟨n0+0,false,rfl,hI.1.2.2.2.2⟩))) ?_
  ·rintro s h n v x ⟨hI,A8⟩ hk hl hs;obtain⟨r,h',n',hd,FX,NF⟩:=zmi (n0+0) (n0+3+3+0) (n0+3+3+1) e (by omega) (by omega) (by omega) s h n v x hI hk hl hs;exact⟨r,h',n',hd,FX,fun k hk=>(NF k (by omega) (by omega)).trans (A8 k hk)⟩
  ·rw[zaa,if_neg (by omega),zaa,if_pos rfl];rfl
  ·rw[zaa,if_pos rfl];rfl
  ·rw[zaa,if_neg (by omega),zaa,if_neg (by omega),zaa,if_pos rfl]
  ·intro k hk;rw[zaa,if_neg (by omega),zaa,if_neg (by omega),zaa,if_neg (by omega)]
  rintro r h' n' ⟨⟨hI,A8⟩,RG⟩;rw[zhz]at hI;obtain⟨l1,l2,i4,i5,i1⟩:=hI;change h' (n0+3+3+0)=some (.rows 32 [vbs (e.occ 3)] false)at i4;change h' (n0+3+3+1)=some (.rows 32 [vbs (e.occ 2)] false)at i5;have o3:=zlt 3 e;have o2:=zlt 2 e;have v3:(vbs (e.occ 3)).length=32:=by simp[vbs,o3]
  have v2:(vbs (e.occ 2)).length=32:=by simp[vbs,o2]
  have t3:List.take 32 (vbs (e.occ 3))=vbs (e.occ 3):=List.take_of_length_le (by omega);have t2:List.take 32 (vbs (e.occ 2))=vbs (e.occ 2):=List.take_of_length_le (by omega);have m3:=zi2 (e.occ 3) o3;have m2:=zi2 (e.occ 2) o2;change ∃r h' n',DenR Γ G 78 [V.agg (vbs (e.occ 3))] (fun _=>none) 0=some (r,h',n')/\_ at m3;change ∃r h' n',DenR Γ G 78 [V.agg (vbs (e.occ 2))] (fun _=>none) 0=some (r,h',n')/\_ at m2
  have tr: ∀l:List Bool,[V.agg (vbs l)].all V.tree=true:=fun l=>by
   simp only[List.all_cons,List.all_nil,Bool.and_true,V.tree,vbs,List.all_map,zN];intros;rfl
  have mt: ∀(g:Nat->Option O) (l:List Bool),[V.agg (vbs l)].mapM (toT1 g)=some [V.agg (vbs l)]:=fun g l=>by
   have:List.mapM (toT g 1000) (vbs l)=some (l.map fun b=>tb b):=by
    refine zei _ _ _ (fun i a ha=> ?_) (by simp[vbs]);rw[vbs,zJ]at ha;rw[zJ]
    cases hb:l[i]? with
    | none=>rw[hb]at ha;simp at ha
    | some x=>rw[hb]at ha;simp at ha;subst ha;exact⟨_,rfl,rfl⟩
   have h2:List.map V.t (l.map fun b=>tb b)=vbs l:=by simp[vbs]
   simp only[List.mapM_cons,List.mapM_nil,toT1,this,Option.map_some,h2];rfl
  simp -dsimp only[go_sem,seval,i4,v3,t3];refine zhx (tr _) (mt _ _) m3 ?_;intro w3 Qi Hl Sw QD;have x3:=Hl.valOf;have i5':=(Sw (n0+3+3+1) (by omega)).trans i5;simp -dsimp only[go_sem,seval,i5',v2,t2,x3];refine zhx (tr _) (mt _ _) m2 ?_;intro w2 D0 Cz AF Cv;have x2:=Cz.valOf;have y3:=Hl.resVal;have y2:=Cz.resVal;simp only[Rg.resVal]at y3 y2;simp -dsimp only[go_sem,seval,x3,x2,y3,y2];have hs: ∀op,zbJ (e.occ op) 32=e.sup op:=fun op=>by simp[Expr.sup,hf]
  have Oz:=Hl.keep (y:=n'+6) (h':=At (At h' Qi) D0) (by omega) (fun k hk _=>AF k (by omega));have ha: ∀l:List ROp,l.length=6->addC n' l=n'+6:=fun l hl=>by rw[zfQ];simp[hl]
  refine⟨w3,w2,rfl,?_,?_,?_,fun k hk=>⟨?_,QD k (by omega),Cv k (by omega)⟩⟩
  ·rw[<- hs 3,ha _ rfl];exact Oz
  ·rw[<- hs 2,ha _ rfl];exact Cz.le (by omega)
  ·rw[ha _ rfl];omega
  ·rw[AF k (by omega),Sw k (by omega)];exact A8 k hk
 ·have hf:e.formed=false:=by simpa using hf
  simp -dsimp only[go_sem,seval,h1,hf];have hs: ∀op,e.sup op=[]:=fun op=>by simp[Expr.sup,hf]
  rw[hs,hs];exact⟨_,_,rfl,.inl ⟨rfl,rfl⟩,.inl ⟨rfl,rfl⟩,Nat.le_trans (zhI _ _) (Nat.le_trans (zhI _ _) (zhI _ _)),fun k hk=>⟨by rw[zaa,if_neg (by omega)],(fun i n h=>by cases h),(fun i n h=>by cases h)⟩⟩
def zco {α:Type} (f:Nat->α->Int):Nat->List α->Int×Int
 | _,[]=>(0,-1)
 | i,x::r=>if f i x=0 then zco f (i+1) r else(f i x,i)
theorem zdo {α:Type} {l:List α} {i:Nat} {x:α} (h:l[i]? =some x):l.drop i=x::l.drop (i+1):=by
 obtain⟨hi,rfl⟩:=zH.1 h;exact List.drop_eq_getElem_cons hi
def ztz (p:Prog) (sh:Bool) (t c:Int):Bool:=if sh then zjW p t c else zar p t c
def zbE (p:Prog) (e:Expr) (sh:Bool) (t:Int):Bool:=(e.sup 3).all (ztz p sh t)&&(e.sup 2).all (ztz p sh t)
def zaR (p:Prog) (e:Expr) (pair:Bool) (t:Int):Bool:=e.valid p.cells pair&&decide (e.w=1)&&zbE p e true t
def zaP (x:Thread):Bool:=decide (x.points>48)||decide ((x.steps.length:Int)>64)||decide ((x.loops.length:Int)>8)
def zaV (p:Prog):Int×Int:=
 if(p.cells.length:Int)>32\/(p.modules.length:Int)>6\/(p.locks.length:Int)>4\/(p.threads.length:Int)>4 then(2,-1)
 else zco (fun _ x=>if zaP x then 2 else 0) 0 p.threads
def zcj (p:Prog) (c:Cell):Bool:=
 !zbA c.name||decide (c.w<1)||decide (c.w>8)||decide (c.init<0)||decide (c.init>=2^c.w.toNat)||decide (c.thread< -1)||decide (c.thread>=p.threads.length) || !inR c.module p.modules.length
def zci (p:Prog) (i:Nat) (c:Cell):Int:=
 if zcj p c then 1 else if(p.cells.take i).any (fun d=>d.name.toList==c.name.toList)then 41 else 0
def zce (p:Prog):Int:=(zco (zci p) 0 p.cells).1
def zdH (p:Prog) (i:Nat) (m:Contract):Int:=
 if !zbA m.name || !zbA m.owner then 1
 else if(p.modules.take i).any (fun d=>d.name.toList==m.name.toList)then 41
 else if(!m.rely.absent&& !zaR p m.rely true (-1)) || !zaR p m.guar true (-1)then 60
 else if !zc0 m.frame || !m.frame.all (zar p (-1))then 1 else 0
def zbm (p:Prog):Int:=(zco (zdH p) 0 p.modules).1
def zby (p:Prog) (c:Int) (f:Cell->Bool):Bool:=match p.cells[c.toNat]? with
 | some x=>f x
 | none=>false
def zcM (p:Prog) (i:Nat) (l:Lock):Int:=
 if !zar p (-1) l.cell || !zby p l.cell (fun x=>decide (x.w=1))||zby p l.cell Cell.ghost || !inR l.module p.modules.length then 1
 else if(p.locks.take i).any (fun d=>decide (d.cell=l.cell))then 1
 else if !zaR p l.inv false (-1)then 60 else 0
def zcT (p:Prog):Int:=(zco (zcM p) 0 p.locks).1
def zbC (p:Prog) (set:List Assign) (i:Nat) (a:Assign):Int:=
 if !inR a.cell p.cells.length||(set.take i).any (fun b=>decide (b.cell=a.cell))then 70
 else if !a.to.valid p.cells false || !zby p a.cell (fun x=>decide (a.to.w=x.w))then 60 else 0
def zbz (p:Prog) (s:Step) (sh:Bool) (t:Int):Bool:=zbE p s.guard sh t&&s.set.all fun a=>zbE p a.to sh t
def zdd (p:Prog) (t:Int) (s:Step):Bool:=s.guard.one&&decide (s.set=[])&&decide (s.target≠t)&&inR s.target p.threads.length
def zf7 (p:Prog) (t:Int):Bool:=match p.threads[t.toNat]? with
 | some x=>x.asleep
 | none=>false
def zg1 (p:Prog) (t:Int) (s:Step):Bool:=match s.set with
 | []=>false
 | a::r=>zbE p s.guard false t&&zar p t a.cell&& !zby p a.cell Cell.ghost&&decide (a.to.op=2)&&zar p (-1) a.to.n&& !zby p a.to.n Cell.ghost&&
    r.all fun b=>zar p t b.cell&&zby p b.cell Cell.ghost&&zbE p b.to false t
def zeY (p:Prog) (t:Int) (s:Step):Bool:=match s.set with
 | []=>false
 | a::r=>zbz p s false t&&zar p (-1) a.cell&& !zby p a.cell Cell.ghost&&r.all fun b=>zby p b.cell Cell.ghost&&zjW p t b.cell
def zbG (p:Prog) (t:Int) (s:Step):Bool:=
 if s.kind=1 then zbz p s false t&&s.set.all fun a=>zar p t a.cell
 else if s.kind=2 then zg1 p t s
 else if s.kind=3 then zeY p t s
 else if s.kind=4 then zbz p s true t&&s.set.all fun a=>zjW p t a.cell
 else if s.kind=5 then s.guard.one&&decide (s.set=[])
 else if s.kind=6 then zdd p t s&&zf7 p s.target
 else zdd p t s
def zdW (p:Prog) (n:Int) (s:Step):Bool:=
 decide (s.kind<1)||decide (s.kind>7) || !inR s.fr (n-1) || !inR s.to n || !inR s.module p.modules.length||(s.release&&decide (s.kind≠3))||(decide (s.target≠0)&& !(decide (s.kind=6)||decide (s.kind=7)))
def zaS (p:Prog) (t n:Int) (s:Step):Int:=
 if zdW p n s then 70
 else if !s.guard.valid p.cells false||decide (s.guard.w≠1)then 60
 else if ¬(zco (zbC p s.set) 0 s.set).1=0 then(zco (zbC p s.set) 0 s.set).1
 else if zbG p t s then 0 else 70
def zbp (p:Prog) (t n:Int) (l:Loop):Int:=
 if !inR l.head n || !zc0 l.body || !l.body.all (fun k=>inR k n&&decide (k≠l.head))then 1
 else if !l.variant.valid p.cells false || !zbE p l.variant true t then 60 else 0
def zap (p:Prog) (i:Nat) (x:Thread):Int×Int:=
 if !zbA x.name then(1,-1)
 else if(p.threads.take i).any (fun d=>d.name.toList==x.name.toList)then(41,-1)
 else if x.points<1\/ ¬(x.asserts.length:Int)=x.points\/ ¬(x.modules.length:Int)=x.points then(1,-1)
 else if !x.modules.all (fun m=>inR m p.modules.length)then(1,-1)
 else if !x.asserts.all (fun e=>zaR p e false i)then(60,-1)
 else if ¬(zco (fun _ s=>zaS p i x.points s) 0 x.steps).1=0 then zco (fun _ s=>zaS p i x.points s) 0 x.steps
 else((zco (fun _ l=>zbp p i x.points l) 0 x.loops).1,-1)
def zep (p:Prog):Nat->List Thread->Int×Int×Int
 | _,[]=>(0,-1,-1)
 | i,x::r=>if(zap p i x).1=0 then zep p (i+1) r else((zap p i x).1,(i:Int),(zap p i x).2)
def zbM (p:Prog):Int×Int×Int:=
 if ¬(zaV p).1=0 then((zaV p).1,(zaV p).2,-1)
 else if ¬zce p=0 then(zce p,-1,-1)
 else if ¬zbm p=0 then(zbm p,-1,-1)
 else if ¬zcT p=0 then(zcT p,-1,-1)
 else zep p 0 p.threads
end Rg
end
section
-- FULL
namespace Rg
open Go
theorem zrn {op:Int} {e:Expr} {c:Int} (h:c∈e.sup op):0<=c/\e.formed=true/\ ∃x∈e.lv,x.op=op/\x.n.toNat=c.toNat:=by
 unfold Expr.sup at h;split at h
 ·rename_i hf;obtain⟨j,hj,rfl⟩:=List.mem_map.1 h;refine⟨by omega,hf,?_⟩;obtain⟨_,hj⟩:=List.mem_filter.1 hj
  have key: ∀(l:List Expr) (s:List Bool),(l.foldl (zb2 op) s).getD j false=true->s.getD j false=true\/ ∃x∈l,x.op=op/\x.n.toNat=j:=by
   intro l
   induction l with
   | nil=>intro s h;exact .inl h
   | cons x l ih=>
     intro s h;rw[List.foldl_cons]at h;rcases ih _ h with h | ⟨y,hy,h1,h2⟩
     ·unfold zb2 at h;split at h
      ·rename_i ho
       by_cases hn:x.n.toNat=j
       ·exact .inr ⟨x,by simp,ho,hn⟩
       ·left;simpa[List.getD,List.getElem?_set,hn]using h
      ·exact .inl h
     ·exact .inr ⟨y,by simp[hy],h1,h2⟩
  rcases key _ _ hj with h | ⟨x,hx,h1,h2⟩
  ·have:(List.replicate 32 false).getD j false=false:=by
    rw[List.getD,List.getElem?_replicate];split<;>rfl
   rw[this]at h;simp at h
  ·exact⟨x,hx,h1,by simpa using h2⟩
 ·simp at h
end Rg
end
section
-- FULL
namespace Rg
open Go
end Rg
end
section
-- FULL
namespace Rg
open Go
end Rg
end
section
namespace Rg
open Go
end Rg
end
section
-- FULL
namespace Rg
open Go
end Rg
end
section
-- FULL
namespace Rg
open Go
end Rg
end
section
-- FULL
namespace Rg
open Go
theorem zaF.toT1 {h:Nat->Option O} {x:Nat} {v:V} {l:List Int} (o:zaF h x v 1 (zae l)):Rg.toT1 h v=some (.t (ints l)):=by
 have:=zcc o (zbP _);rcases o with⟨rfl,he⟩ | ⟨k,rfl,_,_⟩
 ·have:l=[]:=by simpa[zae]using he
  subst this;rfl
 ·simp only[Rg.toT1,this,Option.map_some]
end Rg
end
section
namespace Rg
open Go
end Rg
end
section
namespace Rg
open Go
end Rg
end
section
namespace Rg
open Go
end Rg
end
section
namespace Rg
open Go
theorem zfy: ∀l:List Int,zd2 (zae l)=some l
 | []=>rfl
 | a::l=>by
   have:zae (a::l)=[.t (.int .i64 a)]::zae l:=rfl;rw[this,zd2,zfy l];rfl
theorem zhQ (l:List Int):za9 l=zae l:=by simp[za9,zae]
theorem zHD (h:Nat->Option O) (d:Nat) (l:List Int):(zae l).mapM (fun row=>row.mapM (toT h d))=some (l.map fun n=>[ti n]):=zdJ h d (l.map fun n=>[ti n]) (zbP _)
def zhp (l:List Int):List Int:=Go.Lib.compact (l.mergeSort fun x y=>decide (x<=y))
theorem zos (l:List Int) (x:Int):x∈Go.Lib.compact l<->x∈l:=by
 unfold Go.Lib.compact Go.Lib.compactUpTo;simp only[List.mem_map,List.mem_filter,List.mem_range];constructor
 ·rintro⟨j,⟨hj,_⟩,rfl⟩;simp[hj]
 ·intro hx;obtain⟨i,hi⟩:=List.getElem?_of_mem hx
  have key: ∀i:Nat,l[i]? =some x-> ∃a,(a<l.length/\Go.Lib.keeps l.toArray a=true)/\l.toArray[a]! =x:=by
   intro i
   induction i with
   | zero=>
     intro h;obtain⟨h1,h2⟩:=zH.1 h
     exact⟨0,⟨h1,by simp[Go.Lib.keeps]⟩,by simp[h1,h2]⟩
   | succ i ih=>
     intro h;obtain⟨h1,h2⟩:=zH.1 h
     by_cases he:l[i]? =some x
     ·exact ih he
     ·refine⟨i+1,⟨h1,?_⟩,by simp[h1,h2]⟩;have hi:i<l.length:=by omega
      have : ¬l[i+1]=l[i]:=by
       intro hh;rw[zI hi]at he;exact he (by rw[<- hh,h2])
      simp[Go.Lib.keeps,h1,hi,this]
  exact key i hi
theorem ziF (l:List Int) (x:Int):x∈zhp l<->x∈l:=by
 rw[zhp,zos,List.mem_mergeSort]
theorem zvd (l:List Int):(Go.Lib.compact l).length<=l.length:=by
 unfold Go.Lib.compact Go.Lib.compactUpTo;rw[List.length_map];exact Nat.le_trans (List.length_filter_le _ _) (by simp)
theorem znG (l:List Int):(zhp l).length<=l.length:=by
 have:=zvd (l.mergeSort fun x y=>decide (x<=y));rwa[List.length_mergeSort]at this
def zak (p:Prog):Bool:=decide ((zbM p).1=0)
end Rg
end
section
namespace Rg
open Go
end Rg
end
section
namespace Rg
open Go
theorem zaF.cells {h:Nat->Option O} {x:Nat} {v:V} {sz:Nat} {rows:List (List V)} (o:zaF h x v sz rows):v.cells=some [v]:=by
 rcases o with⟨rfl,_⟩ | ⟨k,rfl,_,_⟩<;>rfl
def zcm (p:Prog):Config:=
 if zak p then⟨p.cells.map Cell.init,p.threads.map fun x=>if x.asleep then -1 else 0,p.threads.map fun _=>[]⟩else⟨[],[],[]⟩
end Rg
end
section
-- FULL
namespace Rg
open Go
end Rg
end
section
-- FULL
namespace Rg
open Go
end Rg
end
section
namespace Rg
open Go
end Rg
end
section
namespace Rg
open Go
end Rg
end
section
-- FULL
namespace Rg
open Go
end Rg
end
section
namespace Rg
open Go
end Rg
end
section
-- FULL
namespace Rg
open Go
end Rg
end
section
-- FULL
namespace Rg
open Go
end Rg
end
section
namespace Rg
open Go
end Rg
end
section
namespace Rg
open Go
namespace Expr
mutual
def mapL (f:Expr->Expr):Expr->Expr
 | .mk o w n []=>f (.mk o w n [])
 | .mk o w n (k::ks)=> .mk o w n (mapL f k::zyA f ks)
def zyA (f:Expr->Expr):List Expr->List Expr
 | []=>[]
 | e::r=>mapL f e::zyA f r
end
theorem zIu (f:Expr->Expr): ∀l:List Expr,zyA f l=l.map (mapL f)
 | []=>rfl
 | e::r=>by rw[zyA,zIu f r];rfl
theorem mapL_leaf {f:Expr->Expr} {e:Expr} (h:e.kids=[]):e.mapL f=f e:=by
 obtain⟨o,w,n,ks⟩:=e
 cases ks with
 | nil=>rfl
 | cons k ks=>simp[Expr.kids]at h
theorem mapL_node {f:Expr->Expr} {e:Expr} (h:e.kids≠[]):e.mapL f= .mk e.op e.w e.n (e.kids.map (mapL f)):=by
 obtain⟨o,w,n,ks⟩:=e
 cases ks with
 | nil=>simp[Expr.kids]at h
 | cons k ks=>rw[mapL,zIu];rfl
end Expr
def Cut (h:Nat->Option O) (lo hi:Nat) (cs:List V) (e:Expr):Prop:=
 ∃x,cs=[.t (ti e.op),.t (ti e.w),.t (ti e.n),x]/\V.cells x=some [x]/\
  ∀h2 d,e.size<=d->(∀k,lo<=k->k<hi->h2 k=h k)->toT h2 d x=some (.sl (e.kids.map Expr.enc))
theorem Cut.mono {h h':Nat->Option O} {lo hi lo' AK:Nat} {cs:List V} {e:Expr} (c:Cut h lo hi cs e) (h1:lo'<=lo) (h2:hi<=AK) (hh: ∀k,lo<=k->k<hi->h' k=h k):Cut h' lo' AK cs e:=by
 obtain⟨x,hc,hx,ht⟩:=c;exact⟨x,hc,hx,fun g d hd hg=>ht g d hd fun k k1 k2=>(hg k (by omega) (by omega)).trans (hh k k1 k2)⟩
theorem Cut.tree (h:Nat->Option O) (lo hi:Nat) (e:Expr):Cut h lo hi [.t (ti e.op),.t (ti e.w),.t (ti e.n),.t (.sl (e.kids.map Expr.enc))] e:=
 ⟨_,rfl,rfl,fun _ d _ _=>by cases d<;>rfl⟩
theorem Cut.leaf (h:Nat->Option O) (lo hi:Nat) {e:Expr} (he:e.kids=[]):Cut h lo hi [.t (ti e.op),.t (ti e.w),.t (ti e.n),.t .nils] e:=
 ⟨_,rfl,rfl,fun _ d _ _=>by rw[he];cases d<;>rfl⟩
theorem zID {h h2:Nat->Option O} {lo hi d:Nat}: ∀(rows:List (List V)) (ks:List Expr),rows.length=ks.length->(∀(j:Nat) r e,rows[j]? =some r->ks[j]? =some e->Cut h lo hi r e/\e.size<=d)->
 (∀k,lo<=k->k<hi->h2 k=h k)->rows.mapM (fun row=>row.mapM (toT h2 d))=some (ks.map Expr.enc)
 | [],[],_,_,_=>rfl
 | [],_::_,hl,_,_=>by simp at hl
 | _::_,[],hl,_,_=>by simp at hl
 | r::rows,e::ks,hl,hj,hh=>by
   have ih:=zID rows ks (by simpa using hl) (fun j r e h1 h2=>hj (j+1) r e h1 h2) hh;obtain⟨⟨x,rfl,_,ht⟩,hd⟩:=hj 0 r e rfl rfl;have h0:=ht h2 d hd hh;have hn: ∀n:Int,toT h2 d (.t (ti n))=some (ti n):=fun n=>by cases d<;>rfl
   rw[List.mapM_cons,ih];simp only[List.mapM_cons,List.mapM_nil,hn,h0,Option.pure_def,zC,zD,List.map_cons,Expr.enc_eq]
theorem Cut.node {h:Nat->Option O} {lo hi k:Nat} {rows:List (List V)} {o w n:Int} {ks:List Expr} {fz:Bool} {len:Nat} (hl:rows.length=ks.length) (hn:len=ks.length)
 (hr: ∀(j:Nat) r e,rows[j]? =some r->ks[j]? =some e->Cut h lo hi r e) (hk:h k=some (.rows 4 rows fz)) (h1:lo<=k) (h2:k<hi):
 Cut h lo hi [.t (ti o),.t (ti w),.t (ti n),.ms k 0 len] (.mk o w n ks):=by
 subst hn;refine⟨_,rfl,rfl,fun g d hd hg=> ?_⟩;obtain⟨d,rfl⟩: ∃d',d=d'+1:=⟨d-1,by have:=Expr.size_pos (.mk o w n ks);omega⟩
 have AS:=Expr.size_eq (.mk o w n ks)
 have PW:=zID (d:=d) rows ks hl (fun j r e a b=>⟨hr j r e a b,by
  have hm:e∈ks:=zL b;have:=Expr.size_kid (e:=.mk o w n ks) (k:=e) hm
  omega⟩) hg
 rw[toT,hg k h1 h2,hk];simp only[rd,Nat.zero_add,<- hl,Nat.le_refl,if_true,List.drop_zero,zC,zD,List.take_length];rw[PW];rfl
def zKW (g:Nat) (cp:List V) (n0:Nat) {σ:Type} (I:σ->(Nat->Option O)->Prop) (step:σ->Expr->σ) (leaf:Expr->Expr) (lc:Expr->Bool):Prop:=
 ∀s h n v x,I s h->x.kids=[]->lc x=true->Sh h v x->n0<=n->
  ∃r h' n',DenR Γ G g (v::cp) h n=some (r,h',n')/\(∃cs,r= .agg cs/\Cut h' n n' cs (leaf x))/\I (step s x) h'/\n<=n'/\ ∀k,n0<=k->h' k=h k
theorem zIc {σ:Type} (fv:V) (g:Nat) (cp:List V) (As:zfC fv=some (g,[],cp)) (S8:valOf fv=some fv) (n0:Nat) (I:σ->(Nat->Option O)->Prop) (step:σ->Expr->σ) (leaf:Expr->Expr) (lc:Expr->Bool)
 (hI: ∀s h h',I s h->(∀k,k<n0->h' k=h k)->I s h') (Fe:zKW g cp n0 I step leaf lc):
 ∀(e:Expr) (v:V) (s:σ) (h:Nat->Option O) (n:Nat),e.allE (fun x=>lc x&&decide (x.kids.length<=3))=true->I s h->n0<=n->(∀s h,I s h->Sh h v e)->
  ∃r h' n',DenR Γ G 52 [v,fv] h n=some (r,h',n')/\(∃cs,r= .agg cs/\Cut h' n n' cs (e.mapL leaf))/\I (e.lv.foldl step s) h'/\n<=n'/\ ∀k,n0<=k->k<n->h' k=h k:=by
 intro e
 induction e using Expr.ind with
 | _ e ih=>
 intro v s H n Aa S7 hn hv;have DX:=Expr.allE_self Aa;simp only[zF,decide_eq_true_eq]at DX;have hK:= @zKR _ _ _ _ As
 (refine zay Γ52 rfl ?_;dsimp only[f52])
 by_cases hk:e.kids=[]
 ·have Bo:=hv s H S7;have F8:e.lv=[e]:=by rw[Expr.lv_eq,if_pos hk]
  rw[F8,Expr.mapL_leaf hk];have hS: ∀n,n0<=n->_:=fun n hn=>Fe s H n v e S7 hk DX.1 Bo hn
  rcases Bo with rfl | ⟨k,fz,rfl,AB⟩
  ·simp only[hk,List.map_nil]at hS;simp -dsimp only[go_sem,seval,hk,hK,S8];refine zas (hS _ (by omega)) ?_;rintro r h' n' ⟨⟨cs,rfl,x,rfl,hx,ht⟩,FX,A5,A8⟩;simp -dsimp only[go_sem,seval,hx];exact⟨⟨_,rfl,Cut.mono ⟨x,rfl,hx,ht⟩ (by omega) (by omega) (fun _ _ _=>rfl)⟩,FX,by omega,fun k k1 _=>A8 k k1⟩
  ·simp -dsimp only[go_sem,seval,hk,hK,S8,AB];refine zas (hS _ (by omega)) ?_;rintro r h' n' ⟨⟨cs,rfl,x,rfl,hx,ht⟩,FX,A5,A8⟩;simp -dsimp only[go_sem,seval,hx];exact⟨⟨_,rfl,Cut.mono ⟨x,rfl,hx,ht⟩ (by omega) (by omega) (fun _ _ _=>rfl)⟩,FX,by omega,fun k k1 _=>A8 k k1⟩
 ·have Bk:=Expr.mapL_node (f:=leaf) hk;have F8:e.lv=e.kids.flatMap Expr.lv:=by rw[Expr.lv_eq,if_neg hk]
  have CB: ¬e.kids.length=0:=by simpa using hk
  have I0: ¬(e.kids.length:Int)=0:=by omega
  have A5:(e.kids.length:Int)<=4294967296:=by omega
  rw[F8,Bk];rcases hv s H S7 with rfl | ⟨k,fz,rfl,AB⟩
  ·simp -dsimp only[go_sem,seval,I0,A5,Int.le_refl]
   refine zaq 549739036736 e.kids.length (fun i f hh x=>(f 24).v=vi i/\n+1+6+5<x/\ ∃rows:List (List V),rows.length=i/\
    hh (n+1+6+5)=some (.rows 4 (rows++List.replicate (e.kids.length-i) [V.t (T.int IntKind.i64 0),V.t (T.int IntKind.i64 0),V.t (T.int IntKind.i64 0),V.t T.nils]) false)/\
    (∀(j:Nat) r y,rows[j]? =some r->e.kids[j]? =some y->Cut hh (n+1+6+5+1) x r (y.mapL leaf))/\I (((e.kids.take i).flatMap Expr.lv).foldl step s) hh/\ ∀k,n0<=k->k<n->hh k=H k) rfl
    ⟨by simp -dsimp only[go_sem,seval],by simp -dsimp only[go_sem,seval];omega,[],rfl,by simp -dsimp only[go_sem,seval];simp,(fun j r y h=>by simp at h),?_,fun k k1 k2=> ?_⟩ ?_
   ·simp -dsimp only[go_sem,seval];simp only[List.take_zero,List.flatMap_nil,List.foldl_nil];exact hI _ _ _ S7 fun k hk=>by rw[zaa,if_neg (by omega)]
   ·simp -dsimp only[go_sem,seval];rw[if_neg (by omega)]
   rintro i f u hh x bs hi ⟨IL,hx,rows,Bb,Ap,L2,FX,A8⟩;have BF:=zan i (by omega);simp -dsimp only[go_sem,seval,IL];refine zac (fun h=> ?_) (fun h=> ?_)<;>(try simp only[zah]at h)<;>(try simp -dsimp only[go_sem,seval, *])
   ·obtain⟨y,hy,hm⟩:=zai ‹i<e.kids.length›;have Ad:i<e.kids.length:= ‹i<e.kids.length›;simp -dsimp only[go_sem,seval,IL,hy,S8];refine zas (ih y hm _ _ _ _ (Expr.allE_kid Aa hm) FX (by omega) (fun _ _ _=> .inl rfl)) ?_;rintro r h' n' ⟨⟨cs,rfl,hc⟩,IG,HV,GK⟩;have CM:=hc;obtain⟨z,rfl,hz,_⟩:=CM;have Gw:=GK (n+1+6+5) (by omega) (by omega);rw[Ap]at Gw
    have Ag:(rows++List.replicate (e.kids.length-i) [V.t (T.int IntKind.i64 0),V.t (T.int IntKind.i64 0),V.t (T.int IntKind.i64 0),V.t T.nils])[i]? =some [V.t (T.int IntKind.i64 0),V.t (T.int IntKind.i64 0),V.t (T.int IntKind.i64 0),V.t T.nils]:=by
     rw[List.getElem?_append_right (by omega),Bb,Nat.sub_self,List.getElem?_replicate,if_pos (by omega)]
    have E8: ∀c:List V,(rows++List.replicate (e.kids.length-i) [V.t (T.int IntKind.i64 0),V.t (T.int IntKind.i64 0),V.t (T.int IntKind.i64 0),V.t T.nils]).set i c=(rows++[c])++List.replicate (e.kids.length-(i+1)) [V.t (T.int IntKind.i64 0),V.t (T.int IntKind.i64 0),V.t (T.int IntKind.i64 0),V.t T.nils]:=by
     intro c;rw[show e.kids.length-i=(e.kids.length-(i+1))+1 by omega,List.replicate_succ,<- Bb,List.set_append_right _ _ (Nat.le_refl _),Nat.sub_self,List.set_cons_zero,zQ];rfl
    simp -dsimp only[go_sem,seval,IL,Gw,Ag,E8,Ad];refine⟨Ad,by simp -dsimp only[go_sem,seval,BF],by simp -dsimp only[go_sem,seval];omega,rows++[[V.t (ti (y.mapL leaf).op),V.t (ti (y.mapL leaf).w),V.t (ti (y.mapL leaf).n),z]],by simp[Bb],by simp -dsimp only[go_sem,seval],?_,?_,?_⟩
    ·simp -dsimp only[go_sem,seval];intro j r w hr hw
     by_cases hj:j<rows.length
     ·rw[List.getElem?_append_left hj]at hr;refine(L2 j r w hr hw).mono (Nat.le_refl _) (by omega) fun k k1 k2=> ?_
      rw[zaa,if_neg (by omega)];exact GK k (by omega) (by omega)
     ·have H1:j=i:=by
       have:=(zH.1 hr).1;simp at this;omega
      subst H1;rw[List.getElem?_append_right (by omega),Bb,Nat.sub_self]at hr;simp only[List.getElem?_cons_zero,zA]at hr;rw[hy]at hw;simp only[zA]at hw;subst hr hw;refine hc.mono (by omega) (by omega) fun k k1 k2=> ?_
      rw[zaa,if_neg (by omega)]
    ·simp -dsimp only[go_sem,seval];rw[zaf hy,List.flatMap_append,List.foldl_append];simp only[List.flatMap_cons,List.flatMap_nil,List.append_nil];exact hI _ _ _ IG fun k hk=>by rw[zaa,if_neg (by omega)]
    ·simp -dsimp only[go_sem,seval];intro k k1 k2;rw[if_neg (by omega),GK k k1 (by omega)];exact A8 k k1 k2
   ·have:i=e.kids.length:=by omega
    subst this;rw[List.take_length]at FX;rw[Nat.sub_self,List.replicate_zero,List.append_nil]at Ap;have Iq: ∀a b,x<=addC (addC x a) b:=fun a b=>Nat.le_trans (zhI _ _) (zhI _ _)
    refine⟨⟨_,rfl,?_⟩,FX,Nat.le_trans (by omega) (Iq _ _),A8⟩;refine Cut.node (rows:=rows) (by simp[Bb]) (by simp) ?_ Ap (by omega) (Nat.lt_of_lt_of_le hx (Iq _ _));intro j r y h1 h2;rw[zJ,zE]at h2;obtain⟨y,hy,rfl⟩:=h2;exact(L2 j r y h1 hy).mono (by omega) (Iq _ _) fun _ _ _=>rfl
  ·simp -dsimp only[go_sem,seval,I0,A5,Int.le_refl,AB]
   refine zaq 549739036736 e.kids.length (fun i f hh x=>(f 24).v=vi i/\n+1+6+5<x/\ ∃rows:List (List V),rows.length=i/\
    hh (n+1+6+5)=some (.rows 4 (rows++List.replicate (e.kids.length-i) [V.t (T.int IntKind.i64 0),V.t (T.int IntKind.i64 0),V.t (T.int IntKind.i64 0),V.t T.nils]) false)/\
    (∀(j:Nat) r y,rows[j]? =some r->e.kids[j]? =some y->Cut hh (n+1+6+5+1) x r (y.mapL leaf))/\I (((e.kids.take i).flatMap Expr.lv).foldl step s) hh/\ ∀k,n0<=k->k<n->hh k=H k) rfl
    ⟨by simp -dsimp only[go_sem,seval],by simp -dsimp only[go_sem,seval];omega,[],rfl,by simp -dsimp only[go_sem,seval];simp,(fun j r y h=>by simp at h),?_,fun q k1 k2=> ?_⟩ ?_
   ·simp -dsimp only[go_sem,seval];simp only[List.take_zero,List.flatMap_nil,List.foldl_nil];exact hI _ _ _ S7 fun q hk=>by rw[zaa,if_neg (by omega)]
   ·simp -dsimp only[go_sem,seval];rw[if_neg (by omega)]
   rintro i f u hh x bs hi ⟨IL,hx,rows,Bb,Ap,L2,FX,A8⟩;have BF:=zan i (by omega)
   have J5: ∃fz',hh k=some (.rows 4 [[.t (ti e.op),.t (ti e.w),.t (ti e.n),.t (.sl (e.kids.map Expr.enc))]] fz'):=by
    rcases hv _ _ FX with h0 | ⟨k',fz',h0,J6⟩
    ·cases h0
    ·cases h0;exact⟨fz',J6⟩
   obtain⟨fz',J5⟩:=J5;simp -dsimp only[go_sem,seval,IL];refine zac (fun h=> ?_) (fun h=> ?_)<;>(try simp only[zah]at h)<;>(try simp -dsimp only[go_sem,seval, *])
   ·obtain⟨y,hy,hm⟩:=zai ‹i<e.kids.length›;have Ad:i<e.kids.length:= ‹i<e.kids.length›;simp -dsimp only[go_sem,seval,IL,hy,S8,J5];refine zas (ih y hm _ _ _ _ (Expr.allE_kid Aa hm) FX (by omega) (fun _ _ _=> .inl rfl)) ?_;rintro r h' n' ⟨⟨cs,rfl,hc⟩,IG,HV,GK⟩;have CM:=hc;obtain⟨z,rfl,hz,_⟩:=CM;have Gw:=GK (n+1+6+5) (by omega) (by omega);rw[Ap]at Gw
    have Ag:(rows++List.replicate (e.kids.length-i) [V.t (T.int IntKind.i64 0),V.t (T.int IntKind.i64 0),V.t (T.int IntKind.i64 0),V.t T.nils])[i]? =some [V.t (T.int IntKind.i64 0),V.t (T.int IntKind.i64 0),V.t (T.int IntKind.i64 0),V.t T.nils]:=by
     rw[List.getElem?_append_right (by omega),Bb,Nat.sub_self,List.getElem?_replicate,if_pos (by omega)]
    have E8: ∀c:List V,(rows++List.replicate (e.kids.length-i) [V.t (T.int IntKind.i64 0),V.t (T.int IntKind.i64 0),V.t (T.int IntKind.i64 0),V.t T.nils]).set i c=(rows++[c])++List.replicate (e.kids.length-(i+1)) [V.t (T.int IntKind.i64 0),V.t (T.int IntKind.i64 0),V.t (T.int IntKind.i64 0),V.t T.nils]:=by
     intro c;rw[show e.kids.length-i=(e.kids.length-(i+1))+1 by omega,List.replicate_succ,<- Bb,List.set_append_right _ _ (Nat.le_refl _),Nat.sub_self,List.set_cons_zero,zQ];rfl
    simp -dsimp only[go_sem,seval,IL,Gw,Ag,E8,Ad];refine⟨Ad,by simp -dsimp only[go_sem,seval,BF],by simp -dsimp only[go_sem,seval];omega,rows++[[V.t (ti (y.mapL leaf).op),V.t (ti (y.mapL leaf).w),V.t (ti (y.mapL leaf).n),z]],by simp[Bb],by simp -dsimp only[go_sem,seval],?_,?_,?_⟩
    ·simp -dsimp only[go_sem,seval];intro j r w hr hw
     by_cases hj:j<rows.length
     ·rw[List.getElem?_append_left hj]at hr;refine(L2 j r w hr hw).mono (Nat.le_refl _) (by omega) fun q k1 k2=> ?_
      rw[zaa,if_neg (by omega)];exact GK q (by omega) (by omega)
     ·have H1:j=i:=by
       have:=(zH.1 hr).1;simp at this;omega
      subst H1;rw[List.getElem?_append_right (by omega),Bb,Nat.sub_self]at hr;simp only[List.getElem?_cons_zero,zA]at hr;rw[hy]at hw;simp only[zA]at hw;subst hr hw;refine hc.mono (by omega) (by omega) fun q k1 k2=> ?_
      rw[zaa,if_neg (by omega)]
    ·simp -dsimp only[go_sem,seval];rw[zaf hy,List.flatMap_append,List.foldl_append];simp only[List.flatMap_cons,List.flatMap_nil,List.append_nil];exact hI _ _ _ IG fun q hk=>by rw[zaa,if_neg (by omega)]
    ·simp -dsimp only[go_sem,seval];intro q k1 k2;rw[if_neg (by omega),GK q k1 (by omega)];exact A8 q k1 k2
   ·have:i=e.kids.length:=by omega
    subst this;rw[List.take_length]at FX;rw[Nat.sub_self,List.replicate_zero,List.append_nil]at Ap
    (try simp -dsimp only[go_sem,seval,IL,J5])
    have Iq: ∀a b,x<=addC (addC x a) b:=fun a b=>Nat.le_trans (zhI _ _) (zhI _ _)
    refine⟨⟨_,rfl,?_⟩,FX,Nat.le_trans (by omega) (Iq _ _),A8⟩;refine Cut.node (rows:=rows) (by simp[Bb]) (by simp) ?_ Ap (by omega) (Nat.lt_of_lt_of_le hx (Iq _ _));intro j r y h1 h2;rw[zJ,zE]at h2;obtain⟨y,hy,rfl⟩:=h2;exact(L2 j r y h1 hy).mono (by omega) (Iq _ _) fun _ _ _=>rfl
theorem zJv (h:Nat->Option O) (n:Nat) (v:V) (e:Expr) (hs:Sh h v e):
 ∃r h' n',DenR Γ G 54 [v] h n=some (r,h',n')/\(r= .agg [.t (ti e.op),.t (ti e.w),.t (ti e.n),.t .nils]/\h'=h/\n<=n'):=by
 (refine zay Γ54 rfl ?_;dsimp only[f54])
 rcases hs with rfl | ⟨k,fz,rfl,AB⟩
 ·simp -dsimp only[go_sem,seval];exact⟨rfl,rfl,Nat.le_trans (zhI _ _) (zhI _ _)⟩
 ·simp -dsimp only[go_sem,seval,AB];exact⟨rfl,rfl,Nat.le_trans (zhI _ _) (zhI _ _)⟩
theorem zG4 (e:Expr):e.mapL (fun x=>x)=e:=by
 induction e using Expr.ind with
 | _ e ih=>
 by_cases hk:e.kids=[]
 ·exact Expr.mapL_leaf hk
 ·rw[Expr.mapL_node hk]
  have:e.kids.map (Expr.mapL fun x=>x)=e.kids:=by
   have:=List.map_congr_left (f:=Expr.mapL fun x=>x) (g:=id) (l:=e.kids) fun k hk=>ih k hk
   simpa using this
  rw[this];obtain⟨o,w,n,ks⟩:=e;rfl
theorem zJw (e:Expr) (hf:e.formed=true):Den Γ G 55 [(.agg [.t (ti (e).op),.t (ti (e).w),.t (ti (e).n),.t (.sl ((e).kids.map (Expr.enc)))])]=some (.agg [.t (ti (e).op),.t (ti (e).w),.t (ti (e).n),.t (.sl ((e).kids.map (Expr.enc)))]):=by
 (refine zag Γ55 rfl ?_;dsimp only[f55])
 simp -dsimp only[go_sem,seval]
 have AS:e.size<=1000:=by
  simp only[Expr.formed,zF,decide_eq_true_eq]at hf;omega
 refine zas (zIc (σ:=Unit) (.t (.fn 54 [] [])) 54 [] rfl rfl 1 (fun _ h=>h 0=some (.rows 4 [[.t (ti e.op),.t (ti e.w),.t (ti e.n),.t (.sl (e.kids.map Expr.enc))]] false)) (fun s _=>s) (fun x=>x) lcS
  (fun s h h' hI hk=>(hk 0 (by omega)).trans hI) ?_ e _ () _ _ (zpJ 40 e (zcp hf)) (by simp -dsimp only[go_sem,seval]) (by omega) (fun s h hI=> .inr ⟨0,false,rfl,hI⟩)) ?_
 ·intro s h n v x hI hk _ hs hn;obtain⟨r,h',n',hd,rfl,rfl,A5⟩:=zJv h n v x hs;exact⟨_,_,_,hd,⟨_,rfl,Cut.leaf _ _ _ hk⟩,hI,A5,fun _ _=>rfl⟩
 ·rintro r h' n' ⟨⟨cs,rfl,x,rfl,hx,ht⟩,FX,A5,A8⟩;rw[zG4]at ht⊢;have h1:=ht h' 1000 AS fun _ _ _=>rfl
  simp -dsimp only[go_sem,seval,hx,h1]
def asg (set:List Assign) (c:Int):Option Expr:=(set.find? fun a=>decide (a.cell=c)).map Assign.to
end Rg
end
section
namespace Rg
open Go
theorem zIS {e:Expr} (h:zbk e=true) (hk:e.kids≠[]):e.op≠1/\e.op≠2/\e.op≠3:=by
 have ha:=zct h;refine⟨fun ho=> ?_,fun ho=> ?_,fun ho=> ?_⟩<;>rw[ho]at ha<;>simp[zcO]at ha<;>exact hk (List.eq_nil_of_length_eq_zero (by omega))
theorem zJ1 {e x:Expr} (h:x∈e.lv):x.kids=[]:=by
 induction e using Expr.ind with
 | _ e ih=>
   rw[Expr.lv_eq]at h;split at h
   ·rename_i hk;rw[List.mem_singleton.1 h];exact hk
   ·obtain⟨k,hk,hx⟩:=List.mem_flatMap.1 h;exact ih k hk hx
theorem zKO {e k:Expr} (hk:k∈e.kids) {x:Expr} (hx:x∈k.lv):x∈e.lv:=by
 rw[Expr.lv_eq,if_neg (by intro h;rw[h]at hk;simp at hk)];exact List.mem_flatMap.2 ⟨k,hk,hx⟩
theorem zKm {e:Expr} (hk:e.kids=[]):e∈e.lv:=by rw[Expr.lv_eq,if_pos hk];simp
theorem zIf {x:Expr}: ∀{d:Nat} {e:Expr},e.deep d=true->x∈e.lv->zbk x=true:=by
 intro d
 induction d with
 | zero=>intro e h;simp[Expr.deep]at h
 | succ d ih=>
   intro e h hx;rw[Expr.lv_eq]at hx;split at hx
   ·rw[List.mem_singleton.1 hx];exact zcq h
   ·obtain⟨k,hk,hx⟩:=List.mem_flatMap.1 hx;exact ih (zc7 h hk) hx
theorem zJd {f:Expr->Bool} {x:Expr}: ∀{e:Expr},e.allE f=true->x∈e.lv->f x=true:=by
 intro e
 induction e using Expr.ind with
 | _ e ih=>
   intro h hx;rw[Expr.lv_eq]at hx;split at hx
   ·rw[List.mem_singleton.1 hx];exact Expr.allE_self h
   ·obtain⟨k,hk,hx⟩:=List.mem_flatMap.1 hx;exact ih k hk (Expr.allE_kid h hk) hx
theorem zJs {k:Nat}: ∀{d:Nat} {e:Expr},d<=k->e.deep d=true->e.deep k=true:=by
 induction k with
 | zero=>intro d e hd h;have:d=0:=by omega
         subst this;exact h
 | succ k ih=>
   intro d e hd h
   cases d with
   | zero=>simp[Expr.deep]at h
   | succ d=>
     simp only[Expr.deep,zF,zN]at h⊢;exact⟨h.1,fun x hx=>ih (by omega) (h.2 x hx)⟩
theorem zH5 {m:Nat}: ∀{d:Nat} {e:Expr},e.size<=m->e.deep d=true->e.deep m=true:=by
 induction m with
 | zero=>intro d e hs;have:=Expr.size_pos e;omega
 | succ m ih=>
   intro d e hs h
   cases d with
   | zero=>simp[Expr.deep]at h
   | succ d=>
     simp only[Expr.deep,zF,zN]at h⊢;exact⟨h.1,fun x hx=>ih (by have:=Expr.size_kid hx;omega) (h.2 x hx)⟩
theorem zJc {f:Expr->Expr} {o1 m1 o2 m2:List Int}: ∀{d:Nat} {e:Expr},e.deep d=true->(∀x∈e.lv,(f x).ev o1 m1=x.ev o2 m2)->(e.mapL f).ev o1 m1=e.ev o2 m2:=by
 intro d
 induction d with
 | zero=>intro e h;simp[Expr.deep]at h
 | succ d ih=>
   intro e h hl
   by_cases hk:e.kids=[]
   ·rw[Expr.mapL_leaf hk];exact hl e (zKm hk)
   ·obtain⟨n1,n2,n3⟩:=zIS (zcq h) hk;rw[Expr.mapL_node hk,Expr.ev_eq,Expr.ev_eq o2 m2 e]
    have:(e.kids.map (Expr.mapL f)).map (Expr.ev o1 m1)=e.kids.map (Expr.ev o2 m2):=by
     rw[List.map_map];exact List.map_congr_left fun k hk=>ih (zc7 h hk) fun x hx=>hl x (zKO hk hx)
    simp only[go_sem,n1,n2,n3,if_false,this]
theorem zHy {cells:List Cell} {e x:Expr} (h:e.valid cells false=true) (hx:x∈e.lv):x.kids=[]/\zbk x=true/\(x.op=1\/x.op=2/\0<=x.n/\x.n<32/\ ∃c,cells[x.n.toNat]? =some c/\c.w=x.w):=by
 simp only[Expr.valid,zF]at h;have hk:=zJ1 hx;have hn:=zIf (zcp h.1) hx;have hl:=zJd h.2 hx;have hc:=zJd (zpJ 40 e (zcp h.1)) hx;simp only[lcS,zF,decide_eq_true_eq]at hc;refine⟨hk,hn,?_⟩;have h3:x.op≠3:=fun h3=>by simp[zb3,h3]at hl
 rcases hc.1.2 hk with h1 | ⟨h2 | h2,Ad⟩
 ·exact .inl h1
 ·refine .inr ⟨h2,hc.1.1,Ad,?_⟩;simp only[zb3,h2]at hl
  cases Fs:cells[x.n.toNat]? with
  | none=>simp[Fs]at hl
  | some c=>exact⟨c,rfl,by simpa[Fs]using hl⟩
 ·exact absurd h2 h3
end Rg
end
section
namespace Rg
open Go
theorem zHp (l:List Bool) (m:Nat) (n:Nat):(n:Int)∈zbJ l m<->n<m/\l.getD n false=true:=by
 unfold zbJ;simp only[List.mem_map,List.mem_filter,List.mem_range];constructor
 ·rintro⟨j,⟨hj,hg⟩,he⟩;have:j=n:=by omega
  subst this;exact⟨hj,hg⟩
 ·rintro⟨hj,hg⟩;exact⟨n,⟨hj,hg⟩,rfl⟩
theorem zGH (op:Int) (n:Nat): ∀(l:List Expr) (s:List Bool),s.getD n false=true->(l.foldl (zb2 op) s).getD n false=true
 | [],s,h=>h
 | x::l,s,h=>by
   rw[List.foldl_cons];refine zGH op n l _ ?_;unfold zb2;split
   ·rw[zK,List.getElem?_set];split
    ·split
     ·rfl
     ·rename_i he Ad;subst he;rw[zK,List.getElem?_eq_none (by omega)]at h;simp at h
    ·rw[<- zK];exact h
   ·exact h
theorem zG9 (op:Int) {n:Nat}: ∀(l:List Expr) (s:List Bool),n<s.length->(∃x∈l,x.op=op/\x.n.toNat=n)->(l.foldl (zb2 op) s).getD n false=true
 | [],s,_,h=>by obtain⟨x,hx,_⟩:=h;simp at hx
 | y::l,s,hn,h=>by
   rw[List.foldl_cons]
   by_cases hy:y.op=op/\y.n.toNat=n
   ·refine zGH op n l _ ?_;rw[zb2,if_pos hy.1,zK,List.getElem?_set,if_pos hy.2,if_pos (by omega)];rfl
   ·refine zG9 op l _ (by rw[zsg];exact hn) ?_;obtain⟨x,hx,h1⟩:=h;rcases List.mem_cons.1 hx with rfl | hx
    ·exact absurd h1 hy
    ·exact⟨x,hx,h1⟩
theorem zJX {e x:Expr} (hf:e.formed=true) (hx:x∈e.lv) (ho:x.op=2) (h0:0<=x.n) (h1:x.n<32):x.n∈e.sup 2:=by
 rw[Expr.sup,if_pos hf];have:=(zHp (e.occ 2) 32 x.n.toNat).2 ⟨by omega,zG9 2 e.lv _ (by simp;omega) ⟨x,hx,ho,rfl⟩⟩;rwa[show((x.n.toNat:Nat):Int)=x.n by omega]at this
def zMj (l:List Int) (m m':List Int):Prop:= ∀n:Nat,(n:Int)∈l->m[n]? =m'[n]?
theorem zHs {cells:List Cell} {e:Expr} (he:e.valid cells false=true) {m m' o o':List Int} (h:zMj (e.sup 2) m m'):e.eval o m=e.eval o' m':=by
 have hv:=he;simp only[Expr.valid,zF]at hv;rw[Expr.eval,Expr.eval,if_pos hv.1,if_pos hv.1]
 have:=zJc (f:=fun x=>x) (o1:=o) (o2:=o') (m1:=m) (m2:=m') (zcp hv.1) (fun x hx=>by
  obtain⟨hk,hn,ho⟩:=zHy he hx;rcases ho with ho | ⟨ho,h0,Ad,_⟩
  ·simp[Expr.ev_eq,ho]
  ·have hm:=zJX hv.1 hx ho h0 Ad;have hg:=h x.n.toNat (by rw[show((x.n.toNat:Nat):Int)=x.n by omega];exact hm);have:atI m x.n=atI m' x.n:=by simp[atI,zK,hg]
   simp[Expr.ev_eq,ho,this])
 rwa[zG4]at this
def wOf (p:Prog) (c:Int):Nat:=match p.cells[c.toNat]? with
 | some x=>x.w.toNat
 | none=>0
def stM (p:Prog):List Int->Int->List Int->List Int
 | [],_,s=>s
 | c::r,n,s=>stM p r (n/ 2^wOf p c) (s.set c.toNat (n % 2^wOf p c))
def zcD (p:Prog) (l:List Int):Nat:=(l.map (wOf p)).sum
def zGD (p:Prog) (mem:List Int):List Int->Int
 | []=>0
 | c::r=>atI mem c % 2^wOf p c+2^wOf p c*zGD p mem r
theorem zlf {p:Prog}: ∀(l:List Int) (n:Int) (s:List Int),(stM p l n s).length=s.length
 | [],_,_=>rfl
 | c::r,n,s=>by rw[stM,zlf r];simp
theorem zG0 {p:Prog} {j:Nat}: ∀{l:List Int} {n:Int} {s:List Int},(∀c∈l,c.toNat≠j)->(stM p l n s).getD j 0=s.getD j 0
 | [],_,_,_=>rfl
 | c::r,n,s,h=>by
   rw[stM,zG0 fun x hx=>h x (by simp[hx])];have:=h c (by simp);simp[zK,List.getElem?_set,this]
theorem zGC {p:Prog} {mem:List Int}: ∀(l:List Int),0<=zGD p mem l/\zGD p mem l<2^zcD p l
 | []=>by simp[zGD,zcD]
 | c::r=>by
   obtain⟨h1,h2⟩:=zGC (p:=p) (mem:=mem) r;have hp:(0:Int)<2^wOf p c:=zcn _;have h3:=Int.emod_nonneg (atI mem c) (b:=2^wOf p c) (by omega);have h4:=Int.emod_lt_of_pos (atI mem c) hp
   have hb:(2:Int)^zcD p (c::r)=2^wOf p c*2^zcD p r:=by
    rw[zcD,List.map_cons,List.sum_cons,Int.pow_add];rfl
   rw[zGD,hb];constructor
   ·exact Int.add_nonneg h3 (Int.mul_nonneg (by omega) h1)
   ·have h5:(2:Int)^wOf p c*(zGD p mem r+1)<=2^wOf p c*2^zcD p r:=Int.mul_le_mul_of_nonneg_left (by omega) (by omega);rw[Int.mul_add]at h5;omega
theorem zI3 {p:Prog} {mem:List Int}: ∀{l:List Int} {s:List Int},l.Pairwise (fun a b=>a.toNat≠b.toNat)->(∀c∈l,c.toNat<s.length)->
 ∀c∈l,atI (stM p l (zGD p mem l) s) c=atI mem c % 2^wOf p c
 | [],_,_,_,c,hc=>by simp at hc
 | x::r,s,hp,hl,c,hc=>by
   obtain⟨p1,p2⟩:=List.pairwise_cons.1 hp;have CB:(0:Int)<2^wOf p x:=zcn _;have h3:=Int.emod_nonneg (atI mem x) (b:=2^wOf p x) (by omega);have h4:=Int.emod_lt_of_pos (atI mem x) CB
   have hd:zGD p mem (x::r)/ 2^wOf p x=zGD p mem r:=by
    rw[zGD,Int.add_mul_ediv_left _ _ (by omega),Int.ediv_eq_zero_of_lt h3 h4,Int.zero_add]
   have hm:zGD p mem (x::r) % 2^wOf p x=atI mem x % 2^wOf p x:=by
    rw[zGD,Int.add_mul_emod_self_left,Int.emod_emod_of_dvd _ (Int.dvd_refl _)]
   rw[stM,hd,hm];rcases List.mem_cons.1 hc with rfl | hc
   ·rw[atI,zG0 fun y hy=>fun e=>p1 y hy e.symm];have:=hl c (by simp);simp[zK,List.getElem?_set,this]
   ·exact zI3 p2 (fun y hy=>by simpa using hl y (by simp[hy])) c hc
theorem zJO {p:Prog} {e:Expr} (he:e.valid p.cells false=true) {m m' o o':List Int} (h: ∀c∈e.sup 2,atI m c % 2^wOf p c=atI m' c % 2^wOf p c):e.eval o m=e.eval o' m':=by
 have hv:=he;simp only[Expr.valid,zF]at hv;rw[Expr.eval,Expr.eval,if_pos hv.1,if_pos hv.1]
 have:=zJc (f:=fun x=>x) (o1:=o) (o2:=o') (m1:=m) (m2:=m') (zcp hv.1) (fun x hx=>by
  obtain⟨hk,hn,ho⟩:=zHy he hx;rcases ho with ho | ⟨ho,h0,Ad,c,hc,QK⟩
  ·simp[Expr.ev_eq,ho]
  ·have hm:=zJX hv.1 hx ho h0 Ad;have hg:=h x.n hm;have hw:wOf p x.n=x.w.toNat:=by rw[wOf,hc];simp[QK]
   rw[hw]at hg
   simp[Expr.ev_eq,ho,hg])
 rwa[zG4]at this
theorem zHr (e:Expr) (o m:List Int):0<=e.eval o m/\(e.formed=true->e.eval o m<2^e.w.toNat):=by
 unfold Expr.eval;split
 ·rename_i h;have:=zix o m 40 e (zcp h);exact⟨this.1,fun _=>this.2⟩
 ·rename_i h;exact⟨Int.le_refl 0,fun h'=>absurd h' h⟩
end Rg
end
section
namespace Rg
open Go
structure Cells (p:Prog) (l:List Int) (n:Nat):Prop where
 pw:l.Pairwise (fun a b=>a.toNat≠b.toNat)
 lt: ∀c∈l,c.toNat<n
theorem zHI {p:Prog} {e:Expr} (he:e.valid p.cells false=true) {l s mem:List Int} (hl:Cells p l s.length) (hs: ∀c∈e.sup 2,c∈l) (o o':List Int):e.eval o (stM p l (zGD p mem l) s)=e.eval o' mem:=by
 refine zJO he fun c hc=> ?_
 rw[zI3 hl.pw hl.lt c (hs c hc),Int.emod_emod_of_dvd _ (Int.dvd_refl _)]
def inL (p:Prog) (l base:List Int) (e:Expr):List Nat:=(List.range (2^zcD p l)).filter fun n=>decide (e.eval (stM p l (n:Int) base) (stM p l (n:Int) base)=1)
theorem zG7 {p:Prog} {l base:List Int} {e:Expr} {n:Nat}:n∈inL p l base e<->n<2^zcD p l/\e.eval (stM p l (n:Int) base) (stM p l (n:Int) base)=1:=by
 simp[inL,List.mem_filter]
theorem zI9 {p:Prog} {mem:List Int} (l:List Int):(((zGD p mem l).toNat:Nat):Int)=zGD p mem l/\(zGD p mem l).toNat<2^zcD p l:=by
 obtain⟨h1,h2⟩:=zGC (p:=p) (mem:=mem) l;have h3:(((zGD p mem l).toNat:Nat):Int)=zGD p mem l:=by omega
 refine⟨h3,?_⟩;have:(((zGD p mem l).toNat:Nat):Int)<((2^zcD p l:Nat):Int):=by rw[h3];push_cast;exact h2
 exact_mod_cast this
theorem zJ0 {p:Prog} {e:Expr} (he:e.valid p.cells false=true) {l base mem:List Int} (hl:Cells p l base.length) (hs: ∀c∈e.sup 2,c∈l):(zGD p mem l).toNat∈inL p l base e<->e.eval mem mem=1:=by
 obtain⟨h1,h2⟩:=zI9 (p:=p) (mem:=mem) l;rw[zG7,h1,zHI he hl hs _ mem];exact⟨fun h=>h.2,fun h=>⟨h2,h⟩⟩
def zGK (p:Prog) (a b:Expr) (o d z:List Int) (n:Nat):Bool:=decide (a.eval o (stM p d (n:Int) z)=1)&&decide (b.eval o (stM p d (n:Int) z)=0)
theorem zJR {e:Expr} {cells:List Cell} (he:e.valid cells false=true) (hw:e.w=1) (o m:List Int):e.eval o m=0\/e.eval o m=1:=by
 have h1:=zHr e o m
 have h2:e.formed=true:=by
  simp only[Expr.valid,zF]at he;exact he.1
 have h3:=h1.2 h2;rw[hw]at h3;have:(2:Int)^(1:Int).toNat=2:=rfl;have:=h1.1;omega
section
variable {p:Prog} {a b:Expr} (ha:a.valid p.cells false=true) (hb:b.valid p.cells false=true) (SU:b.w=1) {l d base z:List Int} (o:List Int)
 (hl:Cells p l base.length) (hd:Cells p d z.length) (Ff: ∀c∈a.sup 2,c∈l) (SA: ∀c∈b.sup 2,c∈l) (SC: ∀c∈a.sup 2,c∈d) (SB: ∀c∈b.sup 2,c∈d)
include ha hb hl Ff SA in
theorem zHu {n:Nat} (h:zGK p a b o d z n=true):(zGD p (stM p d (n:Int) z) l).toNat∈inL p l base a/\(zGD p (stM p d (n:Int) z) l).toNat∉ inL p l base b:=by
 simp only[zGK,zF,decide_eq_true_eq]at h;rw[zJ0 ha hl Ff,zJ0 hb hl SA,<- zHs ha (o:=o) (fun _ _=>rfl),<- zHs hb (o:=o) (fun _ _=>rfl)];exact⟨h.1,by rw[h.2];decide⟩
include ha hb SU hl hd Ff SA SC SB in
theorem zJj:(∀n,n<2^zcD p d->zGK p a b o d z n=false)<->(inL p l base a).filter (fun n=> !(inL p l base b).contains n)=[]:=by
 rw[List.filter_eq_nil_iff];constructor
 ·intro h n hn hc;simp only[Bool.not_eq_true',List.contains_eq_mem,decide_eq_false_iff_not]at hc;obtain⟨h1,h2⟩:=zG7.1 hn;obtain⟨q1,q2⟩:=zI9 (p:=p) (mem:=stM p l (n:Int) base) d;have h3:=h _ q2;simp only[zGK,q1,Bool.and_eq_false_iff,decide_eq_false_iff_not]at h3;rw[zHI ha hd SC o (stM p l (n:Int) base),zHI hb hd SB o (stM p l (n:Int) base)]at h3;rcases zJR hb SU (stM p l (n:Int) base) (stM p l (n:Int) base)with h4 | h4
  ·exact h3.elim (fun h=>h h2) (fun h=>h h4)
  ·exact hc (zG7.2 ⟨h1,h4⟩)
 ·intro h n hn;cases hc:zGK p a b o d z n
  ·rfl
  ·obtain⟨h1,h2⟩:=zHu ha hb o hl Ff SA hc;exact absurd (by simpa using h2) (h _ h1)
end
theorem zKo {p:Prog} {a b e:Expr} {l base:List Int} (he: ∀m,e.eval m m=1<->a.eval m m=1/\b.eval m m=1):inL p l base e=(inL p l base a).filter fun n=>(inL p l base b).contains n:=by
 show(List.range _).filter _=((List.range _).filter _).filter _;rw[List.filter_filter];refine List.filter_congr fun n hn=> ?_
 have h1:=List.mem_range.1 hn;rw[Bool.eq_iff_iff];simp only[decide_eq_true_eq,zF,List.contains_eq_mem,zG7,he];exact⟨fun h=>⟨⟨h1,h.2⟩,h.1⟩,fun h=>⟨h.2,h.1.2⟩⟩
end Rg
end
section
namespace Rg
open Go
theorem zJe (n:Nat) (h:n≠0): ∃t m,n=2^t*(2*m+1):=by
 induction n using Nat.strongRecOn with
 | ind n ih=>
   by_cases q:n % 2=0
   ·obtain⟨t,m,e⟩:=ih (n/ 2) (by omega) (by omega);refine⟨t+1,m,?_⟩;rw[Nat.pow_succ,Nat.mul_comm (2^t) 2,Nat.mul_assoc,<- e];omega
   ·exact⟨0,n/ 2,by omega⟩
theorem zGu (t a j:Nat):(2^t*a).testBit j=if j<t then false else a.testBit (j-t):=by
 have:=Nat.testBit_two_pow_mul_add a (Nat.two_pow_pos t) j;simpa using this
theorem zHE (m j:Nat):(2*m+1).testBit j=if j=0 then true else m.testBit (j-1):=by
 cases j with
 | zero=>simp
 | succ j=>rw[Nat.testBit_succ,show(2*m+1)/ 2=m by omega];simp
theorem zIB (m j:Nat):(2*m).testBit j=if j=0 then false else m.testBit (j-1):=by
 cases j with
 | zero=>simp
 | succ j=>rw[Nat.testBit_succ,show 2*m/ 2=m by omega];simp
theorem zJT (t m:Nat):(2^t*(2*m+1))&&& (2^t*(2*m+1)-1)=2^t*(2*m):=by
 have hp:=Nat.two_pow_pos t;have e:2^t*(2*m+1)-1=2^t*(2*m)+(2^t-1):=by rw[Nat.mul_add,Nat.mul_one];omega
 rw[e];refine Nat.eq_of_testBit_eq fun j=> ?_
 rw[Nat.testBit_and,zGu,zGu,Nat.testBit_two_pow_mul_add _ (by omega)]
 by_cases q:j<t
 ·simp[q]
 ·simp only[if_neg q,zHE,zIB]
  by_cases q2:j-t=0<;>simp[q2]
theorem zKv (t m:Nat) (ht:t<64) (hn:2^t*(2*m+1)<2^64):(2^t*(2*m+1))&&& (2^64-2^t*(2*m+1))=2^t:=by
 have hp:=Nat.two_pow_pos t
 have e64:2^64=2^t*(2*2^(63-t)):=by
  rw[<- Nat.pow_succ',<- Nat.pow_add];congr 1;omega
 have hm:m<2^(63-t):=by
  rw[e64]at hn;have:=Nat.lt_of_mul_lt_mul_left hn;omega
 have e:2^64-2^t*(2*m+1)=2^t*(2*(2^(63-t)-(m+1))+1):=by
  rw[e64,<- Nat.mul_sub];congr 1;omega
 rw[e];refine Nat.eq_of_testBit_eq fun j=> ?_
 rw[Nat.testBit_and,zGu,zGu,Nat.testBit_two_pow]
 by_cases q:j<t
 ·simp[q];omega
 ·simp only[if_neg q,zHE]
  by_cases q2:j-t=0
  ·have:t=j:=by omega
   simp[q2,this]
  ·have:t≠j:=by omega
   simp only[if_neg q2,Nat.testBit_two_pow_sub_succ hm,this,decide_false];cases m.testBit (j-t-1)<;>simp
def hiB (w k:Nat):Nat:=2^k*(w/ 2^k)
theorem zIi (w k j:Nat):(hiB w k).testBit j=if j<k then false else w.testBit j:=by
 rw[hiB,zGu];split
 ·rfl
 ·rw[Nat.testBit_div_two_pow];congr 1;omega
theorem zJK (w:Nat):hiB w 0=w:=by simp[hiB]
theorem zKP (w k:Nat):hiB w k<=w:=Nat.mul_div_le w (2^k)
def zHU (w k:Nat):List Nat:=(List.range k).filter fun j=>w.testBit j
theorem zG2 {w k:Nat}: ∀{t:Nat},k<=t->(∀j,k<=j->j<t->w.testBit j=false)->zHU w t=zHU w k
 | 0,h,_=>by
   have:k=0:=by omega
   rw[this]
 | t+1,h,hb=>by
   by_cases q:k=t+1
   ·rw[q]
   ·rw[zHU,List.range_succ,List.filter_append];have h1:=hb t (by omega) (by omega);have h2:=zG2 (w:=w) (k:=k) (t:=t) (by omega) fun j j1 j2=>hb j j1 (by omega)
    rw[zHU]at h2;rw[h2];simp[h1]
theorem zI8 {w k:Nat} (hw:w<2^64) (h:hiB w k≠0): ∃t m,k<=t/\t<64/\hiB w k=2^t*(2*m+1)/\hiB w (t+1)=2^t*(2*m)/\zHU w (t+1)=zHU w k++[t]:=by
 obtain⟨t,m,e⟩:=zJe _ h;have hb:=fun j=>zIi w k j
 rw[e]at hb;have ht:=hb t;rw[zGu,if_neg (by omega),Nat.sub_self,zHE,if_pos rfl]at ht
 have Lq:k<=t:=by
  rcases Nat.lt_or_ge t k with q | q
  ·rw[if_pos q]at ht;cases ht
  ·exact q
 rw[if_neg (by omega)]at ht
 have HC:t<64:=by
  rcases Nat.lt_or_ge t 64 with q | q
  ·exact q
  ·rw[Nat.testBit_lt_two_pow (Nat.lt_of_lt_of_le hw (Nat.pow_le_pow_right (by omega) q))]at ht;cases ht
 refine⟨t,m,Lq,HC,e,?_,?_⟩
 ·refine Nat.eq_of_testBit_eq fun j=> ?_
  rw[zIi,zGu,zIB]
  by_cases q:j<t+1
  ·rw[if_pos q]
   by_cases q2:j<t
   ·rw[if_pos q2]
   ·rw[if_neg q2,if_pos (by omega)]
  ·rw[if_neg q,if_neg (by omega),if_neg (by omega)];have:=hb j;rw[zGu,if_neg (by omega),zHE,if_neg (by omega),if_neg (by omega)]at this;exact this.symm
 ·rw[zHU,List.range_succ,List.filter_append]
  have h2:=zG2 (w:=w) (k:=k) (t:=t) Lq fun j j1 j2=>by
   have:=hb j;rw[zGu,if_pos j2,if_neg (by omega)]at this;exact this.symm
  rw[zHU]at h2;rw[h2];simp[ht]
theorem zJI {w k:Nat} (hk:k<=64) (h:hiB w k=0):zHU w 64=zHU w k:=by
 refine zG2 hk fun j j1 _=> ?_
 have:=zIi w k j;rw[h,Nat.zero_testBit,if_neg (by omega)]at this;exact this.symm
end Rg
end
