/- Part of the proof of laws of relyguardlaw31. No condition. -/
import Derived.Test.YtcmeofagpechdaaGreatDoorPartAU
import Derived.Lib.ItoaLen
set_option linter.unusedSimpArgs false
set_option linter.unusedVariables false
section
namespace Rg
open Go
namespace Expr
mutual
def lv:Expr->List Expr
 | .mk o w n []=>[.mk o w n []]
 | .mk o w n (k::ks)=>lv k++lvs ks
def lvs:List Expr->List Expr
 | []=>[]
 | e::r=>lv e++lvs r
end
theorem znV: ∀l:List Expr,lvs l=l.flatMap lv
 | []=>rfl
 | e::r=>by rw[lvs,znV r];rfl
theorem lv_eq (e:Expr):lv e=if e.kids=[]then [e]else e.kids.flatMap lv:=by
 obtain⟨o,w,n,ks⟩:=e
 cases ks with
 | nil=>simp[lv,Expr.kids]
 | cons k ks=>simp[lv,znV,Expr.kids]
end Expr
def Sh (h:Nat->Option O) (v:V) (e:Expr):Prop:=
 v= .t (.ip [ti e.op,ti e.w,ti e.n,.sl (e.kids.map Expr.enc)])\/
 ∃k fz,v= .mp k 0 0/\h k=some (.rows 4 [[.t (ti e.op),.t (ti e.w),.t (ti e.n),.t (.sl (e.kids.map Expr.enc))]] fz)
theorem leaves_den {σ:Type} (g:Nat) (cp:List V) (I:σ->(Nat->Option O)->Prop) (step:σ->Expr->σ) (lc:Expr->Bool)
 (hstep: ∀s h n v x,I s h->x.kids=[]->lc x=true->Sh h v x-> ∃r h' n',DenR Γ G g (v::cp) h n=some (r,h',n')/\I (step s x) h'):
 ∀(e:Expr) (v:V) (s:σ) (h:Nat->Option O) (n:Nat),e.allE (fun x=>lc x&&decide (x.kids.length<=3))=true->I s h->(∀s h,I s h->Sh h v e)->
  ∃r h' n',DenR Γ G 76 [v,.fn g [] cp] h n=some (r,h',n')/\I (e.lv.foldl step s) h':=by
 intro e
 induction e using Expr.ind with
 | _ e ih=>
 intro v s H n hall hI hv;have hself:=Expr.allE_self hall;simp only[zF,decide_eq_true_eq]at hself
 (refine denR_ofY Γ76 rfl ?_;dsimp only[f76])
 by_cases hk:e.kids=[]
 ·have hsh:=hv s H hI;have hlv:e.lv=[e]:=by rw[Expr.lv_eq,if_pos hk]
  rw[hlv];have hS: ∀n,∃r h' n',DenR Γ G g (v::cp) H n=some (r,h',n')/\I (step s e) h':=fun n=>hstep s H n v e hI hk hself.1 hsh
  rcases hsh with rfl | ⟨k,fz,rfl,hkk⟩
  ·simp only[hk,List.map_nil]at hS;simp -dsimp only[go_sem,seval,hk];refine zav (hS _) ?_;intro r h' n' hI';simp -dsimp only[go_sem,seval,hk];refine zbg ?_;simp -dsimp only[go_sem,seval];exact hI'
  ·simp -dsimp only[go_sem,seval,hk,hkk];refine zav (hS _) ?_;intro r h' n' hI';have:=hv _ _ hI';rcases this with h0 | ⟨k',fz',h0,hkk'⟩
   ·cases h0
   ·cases h0;simp -dsimp only[go_sem,seval,hk,hkk'];refine zbg ?_;simp -dsimp only[go_sem,seval];exact hI'
 ·have hlv:e.lv=e.kids.flatMap Expr.lv:=by rw[Expr.lv_eq,if_neg hk]
  have hpos: ¬e.kids.length=0:=by simpa using hk
  have hpos': ¬(e.kids.length:Int)=0:=by omega
  rw[hlv];have hend: ∀i,i=e.kids.length->(e.kids.take i).flatMap Expr.lv=e.kids.flatMap Expr.lv:=by rintro i rfl;rw[List.take_length]
  rcases hv s H hI with rfl | ⟨k,fz,rfl,hkk⟩
  ·simp -dsimp only[go_sem,seval,hpos'];refine zaj 2146959376 e.kids.length (fun i f hh x=>(f 19).v=vi i/\I (((e.kids.take i).flatMap Expr.lv).foldl step s) hh) rfl ⟨by simp -dsimp only[go_sem,seval],by simpa using hI⟩ ?_;rintro i f u hh x bs hi ⟨h19,hI'⟩;have hwi:=zah i (by omega);simp -dsimp only[go_sem,seval,h19];refine csplit (fun h=> ?_) (fun h=> ?_)<;>(try simp only[zab]at h)<;>(try simp -dsimp only[go_sem,seval, *])
   ·obtain⟨y,hy,hm⟩:=zaf ‹i<e.kids.length›;simp -dsimp only[go_sem,seval,h19,hy];refine zav (ih y hm _ _ _ _ (Expr.allE_kid hall hm) hI' (fun _ _ _=> .inl rfl)) ?_;intro r h' n' hI2;simp -dsimp only[go_sem,seval,h19];refine⟨by omega,by simp -dsimp only[go_sem,seval,hwi],?_⟩;rw[zae hy,List.flatMap_append,List.foldl_append];simpa using hI2
   ·rw[hend i (by omega)]at hI';exact hI'
  ·simp -dsimp only[go_sem,seval,hpos',hkk];refine zaj 2146959376 e.kids.length (fun i f hh x=>(f 19).v=vi i/\I (((e.kids.take i).flatMap Expr.lv).foldl step s) hh) rfl ⟨by simp -dsimp only[go_sem,seval],by simpa using hI⟩ ?_;rintro i f u hh x bs hi ⟨h19,hI'⟩;have hwi:=zah i (by omega)
   have hkk2: ∃fz',hh k=some (.rows 4 [[.t (ti e.op),.t (ti e.w),.t (ti e.n),.t (.sl (e.kids.map Expr.enc))]] fz'):=by
    rcases hv _ _ hI' with h0 | ⟨k',fz',h0,hkk'⟩
    ·cases h0
    ·cases h0;exact⟨fz',hkk'⟩
   obtain⟨fz',hkk2⟩:=hkk2;simp -dsimp only[go_sem,seval,h19];refine csplit (fun h=> ?_) (fun h=> ?_)<;>(try simp only[zab]at h)<;>(try simp -dsimp only[go_sem,seval, *])
   ·obtain⟨y,hy,hm⟩:=zaf ‹i<e.kids.length›;simp -dsimp only[go_sem,seval,h19,hy,hkk2];refine zav (ih y hm _ _ _ _ (Expr.allE_kid hall hm) hI' (fun _ _ _=> .inl rfl)) ?_;intro r h' n' hI2;simp -dsimp only[go_sem,seval,h19];refine⟨by omega,by simp -dsimp only[go_sem,seval,hwi],?_⟩;rw[zae hy,List.flatMap_append,List.foldl_append];simpa using hI2
   ·rw[hend i (by omega)]at hI';exact hI'
end Rg
end
section
-- FULL
namespace Rg
open Go
def lcV (x:Expr):Bool:=decide (0<=x.n/\(x.kids=[]->x.op=1\/x.op=2\/x.op=3))
def IV (cells:List Cell) (pair:Bool) (k3 k4 k5 k7:Nat) (e:Expr) (s:Bool) (h:Nat->Option O):Prop:=
 h k7=some (.rows 1 [[vb s]] false)/\h k4=some (.rows 1 [[.t (.sl (cells.map Cell.enc))]] false)/\h k5=some (.rows 1 [[vb pair]] false)/\
 h k3=some (.rows 4 [[.t (ti e.op),.t (ti e.w),.t (ti e.n),.t (.sl (e.kids.map Expr.enc))]] false)
theorem valid1_den (cells:List Cell) (pair:Bool) (k3 k4 k5 k7:Nat) (e:Expr) (h4:k4≠k7) (h5:k5≠k7) (h3:k3≠k7) (s:Bool) (H:Nat->Option O) (n:Nat) (v:V) (x:Expr)
 (hI:IV cells pair k3 k4 k5 k7 e s H) (hk:x.kids=[]) (hl:lcV x=true) (hs:Sh H v x):
 ∃r h' n',DenR Γ G 136 [v,.mp k4 0 0,.mp k5 0 0,.mp k7 0 0] H n=some (r,h',n')/\IV cells pair k3 k4 k5 k7 e (s&&leafOk cells pair x) h':=by
 obtain⟨i7,i4,i5,i3⟩:=hI;simp only[lcV,decide_eq_true_eq]at hl;obtain⟨hn0,hop⟩:=hl;have hop:=hop hk
 (refine denR_ofY Γ136 rfl ?_;dsimp only[f136])
 have yes: ∀h',h'=H->leafOk cells pair x=true->IV cells pair k3 k4 k5 k7 e (s&&leafOk cells pair x) h':=fun h' he hh=>by
  rw[hh,Bool.and_true,he];exact⟨i7,i4,i5,i3⟩
 have no: ∀h',h'=updC H k7 (some (.rows 1 [[vb false]] false))->leafOk cells pair x=false->IV cells pair k3 k4 k5 k7 e (s&&leafOk cells pair x) h':=fun h' he hh=>by
  rw[hh,Bool.and_false,he];refine⟨by simp[zac],by simp[zac,h4,i4],by simp[zac,h5,i5],by simp[zac,h3,i3]⟩
 rcases hc:cells[x.n.toNat]? with _ | c
 ·have hge:x.n>=(cells.length:Int):=by rw[List.getElem?_eq_none_iff]at hc;omega
  rcases hs with rfl | ⟨k,fz,rfl,hkk⟩
  ·rcases hop with ho | ho | ho
   all_goals(
    simp -dsimp [go_sem,i7,i4,i5,ho,hge]
    repeat'(refine csplit (fun h=> ?_) (fun h=> ?_)<;>(try simp only[zab]at h)<;>(try simp -dsimp [go_sem, *]))
    all_goals(first | exact no _ (by simp -dsimp [go_sem]) (by simp[leafOk,ho,hc]) | exact yes _ rfl (by simp[leafOk,ho,hc])))
  ·rcases hop with ho | ho | ho
   all_goals(
    simp -dsimp [go_sem,i7,i4,i5,ho,hge,hkk]
    repeat'(refine csplit (fun h=> ?_) (fun h=> ?_)<;>(try simp only[zab]at h)<;>(try simp -dsimp [go_sem, *]))
    all_goals(first | exact no _ (by simp -dsimp [go_sem]) (by simp[leafOk,ho,hc]) | exact yes _ rfl (by simp[leafOk,ho,hc])))
 ·have hge: ¬x.n>=(cells.length:Int):=by
   have:=(zH.1 hc).1;omega
  rcases hs with rfl | ⟨k,fz,rfl,hkk⟩
  ·rcases hop with ho | ho | ho
   all_goals(
    simp -dsimp [go_sem,i7,i4,i5,ho,hge,hc,hn0]
    repeat'(refine csplit (fun h=> ?_) (fun h=> ?_)<;>(try simp only[zab]at h)<;>(try simp -dsimp [go_sem, *]))
    all_goals(first | exact no _ (by simp -dsimp [go_sem]) (by simp[leafOk, *]) | exact yes _ rfl (by simp[leafOk, *])))
  ·rcases hop with ho | ho | ho
   all_goals(
    simp -dsimp [go_sem,i7,i4,i5,ho,hge,hc,hn0,hkk]
    repeat'(refine csplit (fun h=> ?_) (fun h=> ?_)<;>(try simp only[zab]at h)<;>(try simp -dsimp [go_sem, *]))
    all_goals(first | exact no _ (by simp -dsimp [go_sem]) (by simp[leafOk, *]) | exact yes _ rfl (by simp[leafOk, *])))
theorem zhd (p:Expr->Bool): ∀(l:List Expr) (s:Bool),l.foldl (fun s x=>s&&p x) s=(s&&l.all p)
 | [],s=>by simp
 | x::l,s=>by simp only[List.foldl_cons,zhd p l,List.all_cons,Bool.and_assoc]
theorem znW {p:Expr->Bool} (hp: ∀x:Expr,x.kids≠[]->nodeOk x=true->p x=true) (d:Nat): ∀e:Expr,e.deep d=true->e.allE p=e.lv.all p:=by
 induction d with
 | zero=>intro e h;simp[Expr.deep]at h
 | succ d ih=>
   intro e h;rw[Expr.allE_eq,Expr.lv_eq];split
   ·rename_i hk;rw[hk];simp
   ·rename_i hk;rw[hp e hk (deep_node h),Bool.true_and];have : ∀k∈e.kids,k.allE p=k.lv.all p:=fun k hk=>ih k (deep_kid h hk)
    generalize e.kids=ks at this
    induction ks with
    | nil=>rfl
    | cons k ks ih2=>
      simp only[List.all_cons,List.flatMap_cons,List.all_append];rw[this k (by simp),ih2 (fun x hx=>this x (by simp[hx]))]
theorem zoK {x:Expr} (hk:x.kids≠[]) (h:nodeOk x=true):4<=x.op:=by
 have ha:=zcW h;have:0<x.kids.length:=List.length_pos_iff.2 hk;unfold arity at ha;grind
theorem zeP (cells:List Cell) (pair:Bool) {x:Expr} (hk:x.kids≠[]) (h:nodeOk x=true):leafOk cells pair x=true:=by
 have:=zoK hk h;unfold leafOk;rw[if_neg (by omega),if_neg (by omega)]
theorem deep_lc (d:Nat): ∀e:Expr,e.deep d=true->e.allE (fun x=>lcV x&&decide (x.kids.length<=3))=true:=by
 induction d with
 | zero=>intro e h;simp[Expr.deep]at h
 | succ d ih=>
   intro e h;rw[Expr.allE_eq];have hn:=deep_node h;simp only[zF,List.all_eq_true,decide_eq_true_eq,lcV];refine⟨⟨⟨zek hn,fun hk=> ?_⟩,zb4 hn⟩,fun k hk=> ?_⟩
   ·have ha:=zcW hn;rw[hk]at ha;rcases zdu e.op with hh | hh | hh | hh | hh | hh | hh | hh | hh | hh | hh | hh | hh | hh | hop
    ·exact .inl hh
    ·exact .inr (.inl hh)
    ·exact .inr (.inr hh)
    all_goals(try(rw[hh]at ha;simp[arity]at ha;done))
    rw[zdF hop]at ha;simp at ha
   ·have:=ih k (deep_kid h hk);simpa only[lcV]using this
theorem zcN (e:Expr) (cells:List Cell) (pair:Bool):Den Γ G 107 [(.agg [.t (ti (e).op),.t (ti (e).w),.t (ti (e).n),.t (.sl ((e).kids.map (Expr.enc)))]),.t (.sl (cells.map Cell.enc)),vb pair]=some (vb (e.valid cells pair)):=by
 (refine den_ofY Γ107 rfl ?_;dsimp only[zrT])
 have h1:=zc2 e
 by_cases hf:e.formed=true
 ·simp -dsimp [go_sem,h1,hf];have hd:=formed_deep hf;refine zav (leaves_den 136 _ (IV cells pair 0 1 2 7 e) (fun s x=>s&&leafOk cells pair x) lcV (valid1_den cells pair 0 1 2 7 e (by decide) (by decide) (by decide)) e _ true _ _ (deep_lc 40 e hd) ⟨by simp -dsimp [go_sem],by simp -dsimp [go_sem],by simp -dsimp [go_sem],by simp -dsimp [go_sem]⟩ (fun s h hI=> .inr ⟨0,false,rfl,hI.2.2.2⟩)) ?_;rintro r h' n' ⟨i7,_⟩;simp -dsimp [go_sem,i7];rw[zhd,Expr.valid,hf,znW (fun x=>zeP cells pair) 40 e hd]
 ·have hf:e.formed=false:=by simpa using hf
  simp -dsimp [go_sem,h1,hf];simp[Expr.valid,hf]
end Rg
end
section
-- APPS
namespace Rg
open Go
def Own (h:Nat->Option O) (x:Nat) (v:V) (sz:Nat) (rows:List (List V)):Prop:=
 (v= .t .nils/\rows=[])\/ ∃k,v= .ms k 0 rows.length/\k<x/\h k=some (.rows sz rows false)
theorem zbd {α β:Type} (f:α->Option β): ∀(l:List α) (r:List β),(∀i:Nat,∀a,l[i]? =some a-> ∃b,r[i]? =some b/\f a=some b)->l.length=r.length->l.mapM f=some r
 | [],[],_,_=>rfl
 | [],_::_,_,h=>by simp at h
 | _::_,[],_,h=>by simp at h
 | a::l,b::r,h,hl=>by
   rw[List.mapM_cons];obtain⟨b',hb,hf⟩:=h 0 a rfl;simp at hb;subst hb;rw[hf,zbd f l r (fun i a' ha=>by simpa using h (i+1) a' (by simpa using ha)) (by simpa using hl)];rfl
theorem zef (h:Nat->Option O) (d:Nat) (es:List (List T)) (hn: ∀e∈es,∀t∈e,T.norm t=t):
 (es.map (·.map V.t)).mapM (fun row=>row.mapM (toT h d))=some es:=by
 refine zbd _ _ _ (fun i a ha=> ?_) (by simp);rw[zJ]at ha
 cases he:es[i]? with
 | none=>rw[he]at ha;simp at ha
 | some e=>
   rw[he]at ha;simp only[Option.map_some,zA]at ha;subst ha;refine⟨e,rfl,?_⟩;refine zbd _ _ _ (fun j b hb=> ?_) (by simp);rw[zJ]at hb
   cases ht:e[j]? with
   | none=>rw[ht]at hb;simp at hb
   | some t=>
     rw[ht]at hb;simp only[Option.map_some,zA]at hb;subst hb;have:=hn e (List.mem_of_getElem? he) t (List.mem_of_getElem? ht);refine⟨t,rfl,?_⟩;cases d<;>simp[toT,this]
theorem zbu {h:Nat->Option O} {x:Nat} {v:V} {sz:Nat} {es:List (List T)} (ho:Own h x v sz (es.map (·.map V.t))) (hn: ∀e∈es,∀t∈e,T.norm t=t):
 toT h 1000 v=some (.sl es):=by
 rcases ho with⟨rfl,he⟩ | ⟨k,rfl,hk,hh⟩
 ·have:es=[]:=by simpa using he
  subst this;rfl
 ·rw[toT,hh];simp only[rd,Nat.zero_add,Nat.le_refl,if_true,List.drop_zero,List.take_length,zC,zD];rw[zef h 999 es hn];rfl
theorem ints_norm (l:List Int): ∀e∈(l.map fun n=>[ti n]),∀t∈e,T.norm t=t:=by
 intro e he t ht;obtain⟨n,_,rfl⟩:=List.mem_map.1 he;simp at ht;subst ht;rfl
def marked (l:List Bool) (i:Nat):List Int:=((List.range i).filter fun j=>l.getD j false).map fun j:Nat=>(j:Int)
theorem zck (l:List Bool) (i:Nat):marked l (i+1)=marked l i++if l.getD i false then [(i:Int)]else []:=by
 unfold marked;rw[List.range_succ,List.filter_append,List.map_append];cases h:l.getD i false<;>simp only[List.filter_cons,List.filter_nil,h,if_true,if_false,zG,List.map_nil,List.map_cons]
def rowsI (l:List Int):List (List V):=(l.map fun n=>[ti n]).map (·.map V.t)
theorem zai (l:List Int):(rowsI l).length=l.length:=by simp[rowsI]
theorem za6 (l:List Int) (n:Int):rowsI (l++[n])=rowsI l++[[vi n]]:=by simp[rowsI]
theorem rowsI_all (l:List Int):((rowsI l).all fun r=>decide (r.length=1))=true:=by simp[rowsI]
theorem zkU {k x:Nat} (h:k<x) (j:Nat): ¬k=x+j:=by omega
theorem zhQ {k x:Nat} (h:k<x) (j j':Nat): ¬k=x+j+j':=by omega
theorem zkT {k x:Nat} (h:k<x) (j j' j'':Nat): ¬k=x+j+j'+j'':=by omega
theorem zfB (l:List Bool) (hl:l.length<2^20):Den Γ G 159 [.t (.sl (l.map fun b=>[tb b]))]=some (.t (ints (marked l l.length))):=by
 (refine den_ofY Γ159 rfl ?_;dsimp only[f159])
 simp -dsimp only[go_sem,seval,appS];refine zaj 524280 l.length (fun i f h x=>(f 4).v=vi i/\Own h x (f 3).v 1 (rowsI (marked l i))) rfl ⟨by simp -dsimp only[go_sem,seval,appS],.inl ⟨by simp -dsimp only[go_sem,seval,appS],rfl⟩⟩ ?_;rintro i f u H x bs hi ⟨h4,hown⟩;have hw:=zah i (by omega);simp -dsimp only[go_sem,seval,appS,h4];refine csplit (fun h=> ?_) (fun h=> ?_)<;>(try simp only[zab]at h)<;>(try simp -dsimp only[go_sem,seval,appS, *])
 ·have hx:l[i]? =some l[i]:=zI (by omega);have gx:l.getD i false=l[i]:=by simp[List.getD,hx]
  simp -dsimp only[go_sem,seval,appS,h4,hx];refine csplit (fun h=> ?_) (fun h=> ?_)<;>(try simp only[zab]at h)<;>(try simp -dsimp only[go_sem,seval,appS, *])
  ·have hms:marked l (i+1)=marked l i++[(i:Int)]:=by rw[zck,gx,h];rfl
   have hml:(marked l i).length<=i:=by
    unfold marked;rw[List.length_map];exact Nat.le_trans (List.length_filter_le _ _) (by simp)
   rcases hown with⟨hv,he⟩ | ⟨k,hv,hk,hh⟩
   ·have he':marked l i=[]:=by simpa[rowsI]using he
    simp -dsimp only[go_sem,seval,appS,h4,hv];refine⟨by omega,by simp -dsimp only[go_sem,seval,appS,hw],?_⟩;simp -dsimp only[go_sem,seval,appS,hms,he',rowsI];exact .inr ⟨_,rfl,by omega,by simp -dsimp only[go_sem,seval,appS]⟩
   ·have n1:=zkU hk;have n2:=zhQ hk;have n3:=zkT hk;have hra:=rowsI_all (marked l i);have hrl:=zai (marked l i);have hle:(rowsI (marked l i)).length<=4294967295:=by omega
    simp -dsimp only[go_sem,seval,appS,h4,hv,hh,n1,n2,n3,hra,Nat.le_refl,List.take_length,hle];refine⟨by omega,by simp -dsimp only[go_sem,seval,appS,hw],?_⟩;simp -dsimp only[go_sem,seval,appS,hms,za6];exact .inr ⟨_,(by rw[List.length_append];rfl),by omega,by simp -dsimp only[go_sem,seval,appS]⟩
  ·have hms:marked l (i+1)=marked l i:=by rw[zck,gx,h];simp
   refine⟨by omega,by simp -dsimp only[go_sem,seval,appS,hw],?_⟩;simp -dsimp only[go_sem,seval,appS,hms];rcases hown with⟨hv,he⟩ | ⟨k,hv,hk,hh⟩
   ·exact .inl ⟨hv,he⟩
   ·exact .inr ⟨k,hv,by omega,hh⟩
 ·have:i=l.length:=by omega
  subst this;have hr:=zbu hown (ints_norm _);rcases hown with⟨hv,he⟩ | ⟨k,hv,hk,hh⟩
  ·simp -dsimp only[go_sem,seval,appS,hv];simpa[rowsI]using he
  ·simp -dsimp only[go_sem,seval,appS,hv];rw[hv,toT]at hr;simp only[hh,rd,Nat.zero_add,Nat.le_refl,if_true,List.drop_zero,List.take_length,zC,zD]at hr⊢;rw[hr];rfl
end Rg
end
section
-- FULL
namespace Rg
open Go
theorem zeh (p:Prog) (c t:Int) (x:Cell) (h0:0<=c) (hc:p.cells[c.toNat]? =some x):Den Γ G 154 [(.agg [.t (.sl ((p).cells.map (Cell.enc))),.t (.sl ((p).modules.map (Contract.enc))),.t (.sl ((p).locks.map (Lock.enc))),.t (.sl ((p).threads.map (Thread.enc)))]),vi c,vi t]=some (vb (decide (x.thread=t))):=by
 (refine den_ofY Γ154 rfl ?_;dsimp only[f154])
 simp -dsimp [go_sem,h0,hc]
theorem zdd (p:Prog) (c:Int) (x:Cell) (h0:0<=c) (hc:p.cells[c.toNat]? =some x):Den Γ G 155 [(.agg [.t (.sl ((p).cells.map (Cell.enc))),.t (.sl ((p).modules.map (Contract.enc))),.t (.sl ((p).locks.map (Lock.enc))),.t (.sl ((p).threads.map (Thread.enc)))]),vi c]=some (vb (decide (x.thread= -1))):=by
 (refine den_ofY Γ155 rfl ?_;dsimp only[f155])
 simp -dsimp [go_sem,h0,hc]
theorem zcC (p:Prog) (c:Int) (x:Cell) (h0:0<=c) (hc:p.cells[c.toNat]? =some x):Den Γ G 163 [(.agg [.t (.sl ((p).cells.map (Cell.enc))),.t (.sl ((p).modules.map (Contract.enc))),.t (.sl ((p).locks.map (Lock.enc))),.t (.sl ((p).threads.map (Thread.enc)))]),vi c]=some (vb x.ghost):=by
 (refine den_ofY Γ163 rfl ?_;dsimp only[zrM])
 simp -dsimp [go_sem,h0,hc]
def ofThread (p:Prog) (t c:Int):Bool:=decide (0<=c)&&match p.cells[c.toNat]? with
 | some x=>decide (x.thread=t)
 | none=>false
theorem zaV {p:Prog} {c:Int} (h:inR c p.cells.length=true):0<=c/\ ∃x,p.cells[c.toNat]? =some x:=by
 simp only[inR,decide_eq_true_eq]at h;exact⟨h.1,_,zI (by omega)⟩
theorem ofThread_out {p:Prog} {t c:Int} (h:inR c p.cells.length=false):ofThread p t c=false:=by
 simp only[inR,decide_eq_false_iff_not]at h;unfold ofThread
 by_cases h0:0<=c
 ·have:p.cells[c.toNat]? =none:=List.getElem?_eq_none_iff.2 (by omega);simp[this]
 ·simp[h0]
theorem zbG (p:Prog) (c:Int):Den Γ G 100 [(.agg [.t (.sl ((p).cells.map (Cell.enc))),.t (.sl ((p).modules.map (Contract.enc))),.t (.sl ((p).locks.map (Lock.enc))),.t (.sl ((p).threads.map (Thread.enc)))]),vi c]=some (vb (ofThread p (-1) c)):=by
 (refine den_ofY Γ100 rfl ?_;dsimp only[zr0])
 have hb:=zaL c p.cells.length;simp -dsimp [go_sem,hb];refine csplit (fun h=> ?_) (fun h=> ?_)<;>(try simp only[zab]at h)<;>(try simp -dsimp [go_sem, *])
 ·obtain⟨h0,x,hx⟩:=zaV h;simp -dsimp [go_sem,h0,hx,h];simp[ofThread,h0,hx]
 ·rw[ofThread_out h]
theorem zei (p:Prog) (t c:Int):Den Γ G 146 [vi c,.t (.ip [.sl (p.cells.map Cell.enc),.sl (p.modules.map Contract.enc),.sl (p.locks.map Lock.enc),.sl (p.threads.map Thread.enc)]),.t (.ip [ti t])]=some (vb (ofThread p t c)):=by
 (refine den_ofY Γ146 rfl ?_;dsimp only[zrP])
 have hb:=zaL c p.cells.length;simp -dsimp [go_sem,hb];refine csplit (fun h=> ?_) (fun h=> ?_)<;>(try simp only[zab]at h)<;>(try simp -dsimp [go_sem, *])
 ·obtain⟨h0,x,hx⟩:=zaV h;simp -dsimp [go_sem,h0,hx,h];simp[ofThread,h0,hx]
 ·rw[ofThread_out h]
end Rg
end
section
namespace Rg
open Go
theorem zdK (h:Nat->Option O): ∀c:List T,(∀t∈c,T.norm t=t)->(c.map V.t).mapM (toT1 h)=some (c.map V.t)
 | [],_=>rfl
 | t::c,hn=>by
   rw[List.map_cons,List.mapM_cons,zdK h c fun x hx=>hn x (by simp[hx])];have:toT1 h (.t t)=some (.t t):=by simp[toT1,toT,hn t (by simp)]
   rw[this];rfl
theorem zgz (c:List T):(c.map V.t).all V.tree=true:=by
 rw[List.all_eq_true];intro v hv;obtain⟨t,_,rfl⟩:=List.mem_map.1 hv;rfl
def IsP (g:Nat) (c:List T) (P:Int->Bool):Prop:=(∀t∈c,T.norm t=t)/\ ∀n:Int,Den Γ G g (vi n::c.map V.t)=some (vb (P n))
def IsF (F:T) (P:Int->Bool):Prop:=T.norm F=F/\ ∃g a b,zwe (.t F)=some (g,a,b)/\(∀(h:Nat->Option O) (n:Int),(a++[vi n]++b).mapM (toT1 h)=some (a++[vi n]++b))/\
 (∀n:Int,(a++[vi n]++b).all V.tree=true)/\ ∀n:Int,Den Γ G g (a++[vi n]++b)=some (vb (P n))
theorem zly {v:V} {g:Nat} {a b:List V} (hf:zwe v=some (g,a,b)) (K:Nat->List V->List V->Prop) (w:WK K):fnK (some v) K w=K g a b:=by
 simp only[fnK,hf]
theorem IsP.isF {g:Nat} {c:List T} {P:Int->Bool} (h:IsP g c P):IsF (.fn g [] c) P:=by
 refine⟨rfl,g,[],c.map V.t,rfl,fun hh n=> ?_,fun n=> ?_,fun n=> ?_⟩
 ·have:=zdK hh (ti n::c) (fun t ht=>(List.mem_cons.1 ht).elim (fun e=>by rw[e];rfl) (h.1 t));exact this
 ·exact zgz (ti n::c)
 ·exact h.2 n
theorem zqa {g:Nat} {c:List T} {P:Int->Bool} (hn: ∀t∈c,T.norm t=t) (hd: ∀n:Int,Den Γ G g [.agg (c.map V.t),vi n]=some (vb (P n))):IsF (.fa g c) P:=by
 refine⟨rfl,g,[.agg (c.map V.t)],[],rfl,fun hh n=> ?_,fun n=> ?_,fun n=>hd n⟩
 ·clear hd
  have h1:toT1 hh (.agg (c.map V.t))=some (.agg (c.map V.t)):=by
   have:(c.map V.t).mapM (toT hh 1000)=some c:=by
    induction c with
    | nil=>rfl
    | cons t c ih=>rw[List.map_cons,List.mapM_cons,ih fun x hx=>hn x (by simp[hx])];simp[toT,hn t (by simp)]
   simp[toT1,this]
  rw[List.append_nil,List.cons_append,List.nil_append,List.mapM_cons,List.mapM_cons,h1];rfl
 ·simp[V.tree]
theorem zln (F:T) (P:Int->Bool) (hP:IsF F P) (l:List Int) (hl:l.length<2^50):
 Den Γ G 145 [.t (ints l),.t F]=some (vi (match l.findIdx? P with | some i=>i | none=> -1)):=by
 (refine den_ofY Γ145 rfl ?_;dsimp only[zrQ])
 obtain⟨_,g,a,b,hf,hm,ha,hd⟩:=hP;have hK:=zly hf;simp -dsimp only[go_sem,seval];refine zaz 524080 l.length (fun i f=>(f 8).v=vi i/\ ∀x∈l.take i,P x=false) rfl rfl ⟨by simp -dsimp only[go_sem,seval],by simp⟩ ?_;rintro i f u kk bb hi ⟨h8,hall⟩;have hw:=zah i (by omega);simp -dsimp only[go_sem,seval,h8];refine csplit (fun h=> ?_) (fun h=> ?_)<;>(try simp only[zab]at h)<;>(try simp -dsimp only[go_sem,seval, *])
 ·obtain⟨y,hy,hm'⟩:=zaf ‹i<l.length›;simp -dsimp only[go_sem,seval,h8,hy,hK,hm,ha,hd];refine csplit (fun h=> ?_) (fun h=> ?_)<;>(try simp only[zab]at h)<;>(try simp -dsimp only[go_sem,seval, *])
  ·have:l.findIdx? P=some i:=by
    rw[List.findIdx?_eq_some_iff_getElem];have hlt:i<l.length:= ‹i<l.length›;have hyl:l[i]=y:=by rw[zI hlt]at hy;exact Option.some.inj hy
    refine⟨hlt,by rw[hyl];exact h,fun j hj=> ?_⟩;have:=hall l[j] (by rw[List.mem_take_iff_getElem];exact⟨j,by omega,rfl⟩);simp[this]
   rw[this]
  ·refine⟨by omega,by simp -dsimp only[go_sem,seval,hw],fun x hx=> ?_⟩;rw[zae hy]at hx;rcases List.mem_append.1 hx with hx | hx
   ·exact hall x hx
   ·rw[List.mem_singleton.1 hx];exact h
 ·have:i=l.length:=by omega
  subst this;rw[List.take_length]at hall;have:l.findIdx? P=none:=by rw[List.findIdx?_eq_none_iff];exact hall
  rw[this]
theorem zhl (F:T) (P:Int->Bool) (hP:IsF F P) (l:List Int) (hl:l.length<2^50):
 Den Γ G 131 [.t (ints l),.t F]=some (vb (l.any P)):=by
 (refine den_ofY Γ131 rfl ?_;dsimp only[f131])
 have hd:=zln F P hP l hl;have hn:=hP.1;simp only[T.norm]at hn;simp -dsimp only[go_sem,seval,hd,hn]
 cases h:l.findIdx? P with
 | none=>
   rw[List.findIdx?_eq_none_iff]at h;have:l.any P=false:=by rw[List.any_eq_false];intro x hx;simp[h x hx]
   simp[this]
 | some i=>
   have:l.any P=true:=by
    rw[List.findIdx?_eq_some_iff_getElem]at h;obtain⟨hi,hp,_⟩:=h;rw[List.any_eq_true];exact⟨_,List.getElem_mem hi,hp⟩
   simp[this]
theorem within1_den (F:T) (P:Int->Bool) (hP:IsF F P):IsP 132 [.ip [F]] (fun n=> !P n):=by
 refine⟨by simp[T.norm],fun n=> ?_⟩
 (refine den_ofY Γ132 rfl ?_;dsimp only[f132])
 obtain⟨_,g,a,b,hf,hm,ha,hd⟩:=hP;have hK:=zly hf;simp -dsimp only[go_sem,seval,hK,hm,ha,hd]
theorem zbW (F:T) (P:Int->Bool) (hP:IsF F P) (l:List Int) (hl:l.length<2^50):
 Den Γ G 102 [.t (ints l),.t F]=some (vb (l.all P)):=by
 (refine den_ofY Γ102 rfl ?_;dsimp only[zrY])
 have hn:=hP.1;simp only[T.norm]at hn;have hd:=zhl _ _ (within1_den F P hP).isF l hl;simp -dsimp only[go_sem,seval,hd,hn];rw[List.all_eq_not_any_not]
end Rg
end
section
-- FULL
namespace Rg
open Go
def zaF (p:Prog):T:=.ip [.sl (p.cells.map Cell.enc),.sl (p.modules.map Contract.enc),.sl (p.locks.map Lock.enc),.sl (p.threads.map Thread.enc)]
theorem ownIs (p:Prog) (t:Int):IsP 146 [zaF p,.ip [ti t]] (ofThread p t):=⟨by simp[zaF,T.norm],fun n=>zei p t n⟩
theorem zga (p:Prog) (t:Int):Den Γ G 133 [(.agg [.t (.sl ((p).cells.map (Cell.enc))),.t (.sl ((p).modules.map (Contract.enc))),.t (.sl ((p).locks.map (Lock.enc))),.t (.sl ((p).threads.map (Thread.enc)))]),vi t]=some (.t (.fn 146 [] [zaF p,.ip [ti t]])):=by
 (refine den_ofY Γ133 rfl ?_;dsimp only[f133])
 simp -dsimp [go_sem];rfl
def sees (p:Prog) (t c:Int):Bool:=ofThread p (-1) c||ofThread p t c
theorem zc9 (p:Prog) (t:Int):Den Γ G 104 [(.agg [.t (.sl ((p).cells.map (Cell.enc))),.t (.sl ((p).modules.map (Contract.enc))),.t (.sl ((p).locks.map (Lock.enc))),.t (.sl ((p).threads.map (Thread.enc)))]),vi t]=some (.t (.fn 134 [] [zaF p,.ip [.fn 146 [] [zaF p,.ip [ti t]]]])):=by
 (refine den_ofY Γ104 rfl ?_;dsimp only[zrW])
 have h1:=zga p t;simp -dsimp [go_sem,h1];rfl
theorem visibleIs (p:Prog) (t:Int):IsP 134 [zaF p,.ip [.fn 146 [] [zaF p,.ip [ti t]]]] (sees p t):=by
 refine⟨by simp[zaF,T.norm],fun n=> ?_⟩
 (refine den_ofY Γ134 rfl ?_;dsimp only[f134])
 have h1:=zbG p n;have h2:=zei p t n;simp -dsimp [go_sem,h1,zaF];refine csplit (fun h=> ?_) (fun h=> ?_)<;>(try simp only[zab]at h)<;>(try simp -dsimp [go_sem,zaF, *])
 ·simp[sees,h]
 ·simp[sees,h]
end Rg
end
section
-- APPS
namespace Rg
open Go
theorem zoG {k x:Nat} (h:k<x) (a b c d:Nat): ¬k=x+a+b+c+d:=by omega
theorem zeH (l:List Bool) (hl:l.length=32): ∃r h' n',DenR Γ G 78 [.agg (l.map fun b=>vb b)] (fun _=>none) 0=some (r,h',n')/\Own h' n' r 1 (rowsI (marked l 32)):=by
 (refine denR_ofY Γ78 rfl ?_;dsimp only[f78])
 have hlm:(l.map fun b=>vb b).length=32:=by simp[hl]
 have htk:List.take 32 (l.map fun b=>vb b)=l.map fun b=>vb b:=List.take_of_length_le (by omega)
 simp -dsimp only[go_sem,seval,appS,hl,htk];refine zaj 131000 32 (fun i f h x=>(f 7).v=vi i/\Own h x (f 3).v 1 (rowsI (marked l i))) rfl ⟨by simp -dsimp only[go_sem,seval,appS],.inl ⟨by simp -dsimp only[go_sem,seval,appS],rfl⟩⟩ ?_;rintro i f u H x bs hi ⟨h4,hown⟩;have hw:=zah i (by omega);have hi0:(0:Int)<=(i:Int):=by omega
 simp -dsimp only[go_sem,seval,appS,h4];refine csplit (fun h=> ?_) (fun h=> ?_)<;>(try simp only[zab]at h)<;>(try simp -dsimp only[go_sem,seval,appS, *])
 ·have hlt:i<32:=by omega
  have hx:l[i]? =some (l[i]'(by omega)):=zI (by omega)
  generalize hb:l[i]'(by omega)=b at hx
  have gx:l.getD i false=b:=by simp[List.getD,hx]
  have hdt:List.take 1 (List.drop (i*1) (l.map fun b=>vb b))=[vb b]:=by
   rw[Nat.mul_one,<- List.map_drop,<- List.map_take]
   have:(l.drop i).take 1=[b]:=by
    rw[List.drop_eq_getElem_cons (by omega),hb];rfl
   rw[this];rfl
  have hle1:i*1<=31:=by omega
  simp -dsimp only[go_sem,seval,appS,h4,hdt,hl,hle1];refine csplit (fun h=> ?_) (fun h=> ?_)<;>(try simp only[zab]at h)<;>(try simp -dsimp only[go_sem,seval,appS, *])
  ·have hms:marked l (i+1)=marked l i++[(i:Int)]:=by rw[zck,gx,h];rfl
   have hml:(marked l i).length<=i:=by
    unfold marked;rw[List.length_map];exact Nat.le_trans (List.length_filter_le _ _) (by simp)
   rcases hown with⟨hv,he⟩ | ⟨k,hv,hk,hh⟩
   ·have he':marked l i=[]:=by simpa[rowsI]using he
    simp -dsimp only[go_sem,seval,appS,h4,hv];refine⟨by omega,by simp -dsimp only[go_sem,seval,appS,hw],?_⟩;simp -dsimp only[go_sem,seval,appS,hms,he',rowsI];exact .inr ⟨_,rfl,by omega,by simp -dsimp only[go_sem,seval,appS]⟩
   ·have n1:=zkU hk;have n2:=zhQ hk;have n3:=zkT hk;have n4:=zoG hk;have hra:=rowsI_all (marked l i);have hrl:=zai (marked l i);have hle:(rowsI (marked l i)).length<=4294967295:=by omega
    simp -dsimp only[go_sem,seval,appS,h4,hv,hh,n1,n2,n3,n4,hra,Nat.le_refl,List.take_length,hle];refine⟨by omega,by simp -dsimp only[go_sem,seval,appS,hw],?_⟩;simp -dsimp only[go_sem,seval,appS,hms,za6];exact .inr ⟨_,(by rw[List.length_append];rfl),by omega,by simp -dsimp only[go_sem,seval,appS]⟩
  ·have hms:marked l (i+1)=marked l i:=by rw[zck,gx,h];simp
   refine⟨by omega,by simp -dsimp only[go_sem,seval,appS,hw],?_⟩;simp -dsimp only[go_sem,seval,appS,hms];rcases hown with⟨hv,he⟩ | ⟨k,hv,hk,hh⟩
   ·exact .inl ⟨hv,he⟩
   ·exact .inr ⟨k,hv,by omega,hh⟩
 ·have:i=32:=by omega
  subst this;rcases hown with⟨hv,he⟩ | ⟨k,hv,hk,hh⟩
  ·simp -dsimp only[go_sem,seval,appS,hv];exact .inl ⟨rfl,he⟩
  ·simp -dsimp only[go_sem,seval,appS,hv];exact .inr ⟨k,rfl,Nat.lt_of_lt_of_le hk (by first | omega | exact Nat.le_trans (addC_le _ _) (addC_le _ _) | exact addC_le _ _),hh⟩
def vbs (l:List Bool):List V:=l.map fun b=>vb b
theorem znO {l:List Bool} {i:Nat} (h:i<l.length):wr (vbs l) i [vb true]=some (vbs (l.set i true)):=by
 unfold wr vbs;rw[if_pos (by simp;omega)]
 congr 1
 rw[List.map_set,List.set_eq_take_append_cons_drop,if_pos (by simpa using h)];simp
def markS (op:Int) (s:List Bool) (x:Expr):List Bool:=if x.op=op then s.set x.n.toNat true else s
theorem zk4 (op:Int) (s:List Bool) (x:Expr):(markS op s x).length=s.length:=by unfold markS;split<;>simp
def lcS (x:Expr):Bool:=decide (0<=x.n/\(x.kids=[]->x.op=1\/((x.op=2\/x.op=3)/\x.n<32)))
def IS (k1 k4 k5:Nat) (e:Expr) (s:List Bool×List Bool) (h:Nat->Option O):Prop:=
 s.1.length=32/\s.2.length=32/\h k4=some (.rows 32 [vbs s.1] false)/\h k5=some (.rows 32 [vbs s.2] false)/\
 h k1=some (.rows 4 [[.t (ti e.op),.t (ti e.w),.t (ti e.n),.t (.sl (e.kids.map Expr.enc))]] false)
theorem zgC (k1 k4 k5:Nat) (e:Expr) (h45:k4≠k5) (h14:k1≠k4) (h15:k1≠k5) (s:List Bool×List Bool) (H:Nat->Option O) (n:Nat) (v:V) (x:Expr)
 (hI:IS k1 k4 k5 e s H) (hk:x.kids=[]) (hl:lcS x=true) (hs:Sh H v x):
 ∃r h' n',DenR Γ G 77 [v,.mp k4 0 0,.mp k5 0 0] H n=some (r,h',n')/\IS k1 k4 k5 e (markS 3 s.1 x,markS 2 s.2 x) h'/\ ∀k,k≠k4->k≠k5->h' k=H k:=by
 obtain⟨l1,l2,i4,i5,i1⟩:=hI;simp only[lcS,decide_eq_true_eq]at hl;obtain⟨hn0,hop⟩:=hl;have hop:=hop hk
 (refine denR_ofY Γ77 rfl ?_;dsimp only[f77])
 have hsh: ∃fz,v= .t (.ip [ti x.op,ti x.w,ti x.n,.sl (x.kids.map Expr.enc)])\/ ∃k,v= .mp k 0 0/\H k=some (.rows 4 [[.t (ti x.op),.t (ti x.w),.t (ti x.n),.t (.sl (x.kids.map Expr.enc))]] fz):=by
  rcases hs with h | ⟨k,fz,h1,h2⟩
  ·exact⟨false,.inl h⟩
  ·exact⟨fz,.inr ⟨k,h1,h2⟩⟩
 obtain⟨fz,hsh⟩:=hsh;rcases hop with ho | ⟨ho,hlt⟩
 ·have m1:markS 3 s.1 x=s.1:=by simp[markS,ho]
  have m2:markS 2 s.2 x=s.2:=by simp[markS,ho]
  rcases hsh with rfl | ⟨k,rfl,hkk⟩
  ·simp -dsimp only[go_sem,seval,ho];rw[m1,m2];exact⟨⟨l1,l2,i4,i5,i1⟩,fun _ _ _=>rfl⟩
  ·simp -dsimp only[go_sem,seval,ho,hkk];rw[m1,m2];exact⟨⟨l1,l2,i4,i5,i1⟩,fun _ _ _=>rfl⟩
 ·have hn:0<=x.n/\x.n<32:=⟨hn0,hlt⟩
  have hlt':x.n.toNat<32:=by omega
  have v1:(vbs s.1).length=32:=by simp[vbs,l1]
  have v2:(vbs s.2).length=32:=by simp[vbs,l2]
  have c1:x.n.toNat*1<=31:=by omega
  have w1:=znO (l:=s.1) (i:=x.n.toNat) (by omega);have w2:=znO (l:=s.2) (i:=x.n.toNat) (by omega);unfold wr at w1 w2;rw[if_pos (by rw[v1];simp;omega)]at w1;rw[if_pos (by rw[v2];simp;omega)]at w2;simp only[zA,List.length_cons,List.length_nil,Nat.zero_add,List.append_assoc,List.cons_append,List.nil_append]at w1 w2;rcases ho with ho | ho
  ·have m1:markS 3 s.1 x=s.1:=by simp[markS,ho]
   have m2:markS 2 s.2 x=s.2.set x.n.toNat true:=by simp[markS,ho]
   rw[m1,m2];rcases hsh with rfl | ⟨k,rfl,hkk⟩
   ·simp -dsimp only[go_sem,seval,ho,hn,i5,v2,c1];refine⟨⟨l1,by simp[l2],by simp -dsimp only[go_sem,seval,h45,i4],?_,by simp -dsimp only[go_sem,seval,h15,i1]⟩,fun q _ hq=>by simp -dsimp only[go_sem,seval,hq]⟩;simp -dsimp only[go_sem,seval,Nat.mul_one,List.append_assoc,w2]
   ·simp -dsimp only[go_sem,seval,ho,hn,i5,v2,c1,hkk];refine⟨⟨l1,by simp[l2],by simp -dsimp only[go_sem,seval,h45,i4],?_,by simp -dsimp only[go_sem,seval,h15,i1]⟩,fun q _ hq=>by simp -dsimp only[go_sem,seval,hq]⟩;simp -dsimp only[go_sem,seval,Nat.mul_one,List.append_assoc,w2]
  ·have m1:markS 3 s.1 x=s.1.set x.n.toNat true:=by simp[markS,ho]
   have m2:markS 2 s.2 x=s.2:=by simp[markS,ho]
   rw[m1,m2];rcases hsh with rfl | ⟨k,rfl,hkk⟩
   ·simp -dsimp only[go_sem,seval,ho,hn,i4,v1,c1];refine⟨⟨by simp[l1],l2,?_,by simp -dsimp only[go_sem,seval,Ne.symm h45,i5],by simp -dsimp only[go_sem,seval,h14,i1]⟩,fun q hq _=>by simp -dsimp only[go_sem,seval,hq]⟩;simp -dsimp only[go_sem,seval,Nat.mul_one,List.append_assoc,w1]
   ·simp -dsimp only[go_sem,seval,ho,hn,i4,v1,c1,hkk];refine⟨⟨by simp[l1],l2,?_,by simp -dsimp only[go_sem,seval,Ne.symm h45,i5],by simp -dsimp only[go_sem,seval,h14,i1]⟩,fun q hq _=>by simp -dsimp only[go_sem,seval,hq]⟩;simp -dsimp only[go_sem,seval,Nat.mul_one,List.append_assoc,w1]
end Rg
end
section
-- FULL
namespace Rg
open Go
theorem zdT {α β γ:Type} (f:α->γ->α) (g:β->γ->β): ∀(l:List γ) (a:α) (b:β),l.foldl (fun s x=>(f s.1 x,g s.2 x)) (a,b)=(l.foldl f a,l.foldl g b)
 | [],a,b=>rfl
 | x::l,a,b=>by simp only[List.foldl_cons];exact zdT f g l _ _
def Expr.occ (op:Int) (e:Expr):List Bool:=e.lv.foldl (markS op) (List.replicate 32 false)
def Expr.sup (op:Int) (e:Expr):List Int:=if e.formed then marked (e.occ op) 32 else []
theorem zgc (op:Int) (e:Expr):(e.occ op).length=32:=by
 unfold Expr.occ
 generalize e.lv=l
 have : ∀(l:List Expr) (s:List Bool),(l.foldl (markS op) s).length=s.length:=by
  intro l
  induction l with
  | nil=>intro s;rfl
  | cons x l ih=>intro s;rw[List.foldl_cons,ih,zk4]
 rw[this];simp
theorem deep_lcS (d:Nat): ∀e:Expr,e.deep d=true->e.allE (fun x=>lcS x&&decide (x.kids.length<=3))=true:=by
 induction d with
 | zero=>intro e h;simp[Expr.deep]at h
 | succ d ih=>
   intro e h;rw[Expr.allE_eq];have hn:=deep_node h;simp only[zF,List.all_eq_true,decide_eq_true_eq,lcS];refine⟨⟨⟨zek hn,fun hk=> ?_⟩,zb4 hn⟩,fun k hk=> ?_⟩
   ·have ha:=zcW hn;have hw:=zp4 hn;rw[hk]at ha;obtain⟨op,w,n,ks⟩:=e;simp only[go_sem]at *;rcases zdu op with hh | hh | hh | hh | hh | hh | hh | hh | hh | hh | hh | hh | hh | hh | hop
    ·exact .inl hh
    ·refine .inr ⟨.inl hh,?_⟩;rw[zci (by omega) hw]at hn;simp[hh]at hn;omega
    ·refine .inr ⟨.inr hh,?_⟩;rw[zci (by omega) hw]at hn;simp[hh]at hn;omega
    all_goals(try(rw[hh]at ha;simp[arity]at ha;done))
    rw[zdF hop]at ha;simp at ha
   ·have:=ih k (deep_kid h hk);simpa only[lcS]using this
def rowsB (l:List Bool):List (List V):=l.map fun b=>[vb b]
theorem zgI (l:List Bool) (i:Nat):(rowsB l).set i [vb true]=rowsB (l.set i true):=by simp[rowsB,List.map_set]
def lcM (x:Expr):Bool:=lcS x&&decide (x.kids=[]\/(x.op≠2/\x.op≠3))&&decide (x.kids.length<=3)
def IM (k4 k5:Nat) (s:List Bool×List Bool) (h:Nat->Option O):Prop:=
 s.1.length=32/\s.2.length=32/\h k4=some (.rows 1 (rowsB s.1) false)/\h k5=some (.rows 1 (rowsB s.2) false)
def zeb (s:List Bool×List Bool) (x:Expr):List Bool×List Bool:=(markS 3 s.1 x,markS 2 s.2 x)
theorem marks_den (k4 k5:Nat) (h45:k4≠k5): ∀(e:Expr) (s:List Bool×List Bool) (H:Nat->Option O) (n:Nat),e.allE lcM=true->IM k4 k5 s H->
 ∃r h' n',DenR Γ G 158 [(.agg [.t (ti (e).op),.t (ti (e).w),.t (ti (e).n),.t (.sl ((e).kids.map (Expr.enc)))]),.ms k4 0 32,.ms k5 0 32] H n=some (r,h',n')/\IM k4 k5 (e.lv.foldl zeb s) h':=by
 intro e
 induction e using Expr.ind with
 | _ e ih=>
 intro s H n hall hI;have hself:=Expr.allE_self hall;simp only[lcM,lcS,zF,decide_eq_true_eq]at hself;obtain⟨⟨⟨hn0,hleaf⟩,hin⟩,hl3⟩:=hself;obtain⟨l1,l2,i4,i5⟩:=hI
 (refine denR_ofY Γ158 rfl ?_;dsimp only[f158])
 by_cases hk:e.kids=[]
 ·have hlv:e.lv=[e]:=by rw[Expr.lv_eq,if_pos hk]
  rw[hlv];rcases hleaf hk with ho | ⟨ho,hlt⟩
  ·simp -dsimp only[go_sem,seval,ho,hk];refine zbg ?_;simp -dsimp only[go_sem,seval];have m1:markS 3 s.1 e=s.1:=by simp[markS,ho]
   have m2:markS 2 s.2 e=s.2:=by simp[markS,ho]
   rw[show [e].foldl zeb s=zeb s e from rfl,zeb,m1,m2];exact⟨l1,l2,i4,i5⟩
  ·have hn:0<=e.n/\e.n<32:=⟨hn0,hlt⟩
   have g1:(rowsB s.1)[e.n.toNat]? =some [vb (s.1[e.n.toNat]'(by omega))]:=by
    simp only[rowsB,zJ,zI (show e.n.toNat<s.1.length by omega)];rfl
   have g2:(rowsB s.2)[e.n.toNat]? =some [vb (s.2[e.n.toNat]'(by omega))]:=by
    simp only[rowsB,zJ,zI (show e.n.toNat<s.2.length by omega)];rfl
   rcases ho with ho | ho
   ·simp -dsimp only[go_sem,seval,ho,hk,hn,i5,g2];refine zbg ?_;simp -dsimp only[go_sem,seval];have m1:markS 3 s.1 e=s.1:=by simp[markS,ho]
    have m2:markS 2 s.2 e=s.2.set e.n.toNat true:=by simp[markS,ho]
    rw[show [e].foldl zeb s=zeb s e from rfl,zeb,m1,m2];refine⟨l1,by simp[l2],by simp -dsimp only[go_sem,seval,h45,i4],?_⟩;simp -dsimp only[go_sem,seval,zgI]
   ·simp -dsimp only[go_sem,seval,ho,hk,hn,i4,g1];refine zbg ?_;simp -dsimp only[go_sem,seval];have m1:markS 3 s.1 e=s.1.set e.n.toNat true:=by simp[markS,ho]
    have m2:markS 2 s.2 e=s.2:=by simp[markS,ho]
    rw[show [e].foldl zeb s=zeb s e from rfl,zeb,m1,m2];refine⟨by simp[l1],l2,?_,by simp -dsimp only[go_sem,seval,Ne.symm h45,i5]⟩;simp -dsimp only[go_sem,seval,zgI]
 ·have hlv:e.lv=e.kids.flatMap Expr.lv:=by rw[Expr.lv_eq,if_neg hk]
  obtain⟨o2,o3⟩:=hin.resolve_left hk;rw[hlv];simp -dsimp only[go_sem,seval,o2,o3];refine zaj 68717379648 e.kids.length (fun i f hh x=>(f 6).v=vi i/\IM k4 k5 (((e.kids.take i).flatMap Expr.lv).foldl zeb s) hh) rfl ⟨by simp -dsimp only[go_sem,seval],by simpa using⟨l1,l2,i4,i5⟩⟩ ?_;rintro i f u hh x bs hi ⟨h19,hI'⟩;have hwi:=zah i (by omega);simp -dsimp only[go_sem,seval,h19];refine csplit (fun h=> ?_) (fun h=> ?_)<;>(try simp only[zab]at h)<;>(try simp -dsimp only[go_sem,seval, *])
  ·obtain⟨y,hy,hm⟩:=zaf ‹i<e.kids.length›;simp -dsimp only[go_sem,seval,h19,hy];refine zav (ih y hm _ _ _ (Expr.allE_kid hall hm) hI') ?_;intro r h' n' hI2;simp -dsimp only[go_sem,seval,h19];refine⟨by omega,by simp -dsimp only[go_sem,seval,hwi],?_⟩;rw[zae hy,List.flatMap_append,List.foldl_append];simpa using hI2
  ·have:i=e.kids.length:=by omega
   subst this;rw[List.take_length]at hI';exact hI'
theorem zh3 (l:List Expr) (s:List Bool×List Bool):l.foldl zeb s=(l.foldl (markS 3) s.1,l.foldl (markS 2) s.2):=by
 have:=zdT (markS 3) (markS 2) l s.1 s.2;exact this
theorem deep_lcM (d:Nat): ∀e:Expr,e.deep d=true->e.allE lcM=true:=by
 induction d with
 | zero=>intro e h;simp[Expr.deep]at h
 | succ d ih=>
   intro e h;have h1:=Expr.allE_self (deep_lcS (d+1) e h);have hn:=deep_node h;rw[Expr.allE_eq];simp only[zF,List.all_eq_true];refine⟨?_,fun k hk=>ih k (deep_kid h hk)⟩;simp only[lcM,zF,decide_eq_true_eq];simp only[zF,decide_eq_true_eq]at h1;refine⟨⟨h1.1,?_⟩,h1.2⟩
   by_cases hk:e.kids=[]
   ·exact .inl hk
   ·refine .inr ?_;have ha:=zcW hn;have hl: ¬e.kids.length=0:=by simpa using hk
    constructor
    ·intro hh;rw[hh]at ha;simp[arity]at ha;omega
    ·intro hh;rw[hh]at ha;simp[arity]at ha;omega
theorem zdg (h:Nat->Option O) (d:Nat) (l:List Bool):(rowsB l).mapM (fun row=>row.mapM (toT h d))=some (l.map fun b=>[tb b]):=by
 have:=zef h d (l.map fun b=>[tb b]) (by
  intro e he t ht;obtain⟨n,_,rfl⟩:=List.mem_map.1 he
  simp at ht;subst ht;rfl)
 simpa[rowsB,Function.comp_def]using this
theorem zjm (h:Nat->Option O) (d:Nat) {rs:List (List V)} (hf: ∀r∈rs,∀v∈r,V.tree v=true):rs.flatMap (·.flatMap (reach h d))=[]:=by
 simp only[List.flatMap_eq_nil_iff];intro r hr v hv;have:=hf r hr v hv;cases v<;>simp_all [V.tree]<;>cases d<;>rfl
theorem zlR {r:V} {h:Nat->Option O} {vs:List V} {K:V->(Nat->Option O)->Prop} {w:WK K} {k sz:Nat} {rs:List (List V)} {fz:Bool}
 (hk:h k=some (.rows sz rs fz)) (hr:vs.flatMap (reach1 h)=[k]) (hK: ∀h',(∀j,j≠k->h' j=h j)->(∃fz',h' k=some (.rows sz rs fz'))->K r h'):zid (some r) false h vs K w:=by
 unfold zid;simp only;split
 ·exact hK h (fun _ _=>rfl) ⟨fz,hk⟩
 ·refine⟨by simp,hK _ (fun j hj=> ?_) ⟨true,?_⟩⟩
  ·simp[hr,freezes,hk,zau,zaq,zac,hj]
  ·simp[hr,freezes,hk,zau,zaq,zac]
theorem reach_ms {h:Nat->Option O} {k sz:Nat} {rs:List (List V)} {fz:Bool} {i n:Nat} (hk:h k=some (.rows sz rs fz)) (hf: ∀r∈rs,∀v∈r,V.tree v=true): [V.ms k i n].flatMap (reach1 h)=[k]:=by
 simp only[List.flatMap_cons,List.flatMap_nil,List.append_nil,reach1,reach,hk,zjm h 999 hf]
theorem rowsB_tree (l:List Bool): ∀r∈rowsB l,∀v∈r,V.tree v=true:=by
 intro r hr v hv;obtain⟨b,_,rfl⟩:=List.mem_map.1 hr;simp at hv;subst hv;rfl
theorem zgB (e:Expr):Den Γ G 138 [(.agg [.t (ti (e).op),.t (ti (e).w),.t (ti (e).n),.t (.sl ((e).kids.map (Expr.enc)))])]=some (.tup [.t (ints (e.sup 3)),.t (ints (e.sup 2))]):=by
 (refine den_ofY Γ138 rfl ?_;dsimp only[f138])
 have h1:=zfL e
 by_cases hf:e.formed=true
 ·simp -dsimp only[go_sem,seval,h1,hf];have hd:=formed_deep hf;refine zav (marks_den _ _ (by decide) e (List.replicate 32 false,List.replicate 32 false) _ _ (deep_lcM 40 e hd) ⟨rfl,rfl,by simp -dsimp only[go_sem,seval];rfl,by simp -dsimp only[go_sem,seval];rfl⟩) ?_;intro r h' n' hI;rw[zh3]at hI;obtain⟨l1,l2,i4,i5⟩:=hI;have o3:=zgc 3 e;have o2:=zgc 2 e;have m3:=zfB (e.occ 3) (by omega);have m2:=zfB (e.occ 2) (by omega);rw[o3]at m3;rw[o2]at m2;change h' _=some (.rows 1 (rowsB (e.occ 3)) false)at i4;change h' _=some (.rows 1 (rowsB (e.occ 2)) false)at i5;have v3:(rowsB (e.occ 3)).length=32:=by simp[rowsB,o3]
  have v2:(rowsB (e.occ 2)).length=32:=by simp[rowsB,o2]
  have t3:List.take 32 (rowsB (e.occ 3))=rowsB (e.occ 3):=List.take_of_length_le (by omega);have t2:List.take 32 (rowsB (e.occ 2))=rowsB (e.occ 2):=List.take_of_length_le (by omega);have b3:=fun d=>zdg h' d (e.occ 3)
  have b2:=fun d=>zdg h' d (e.occ 2)
  simp -dsimp only[go_sem,seval,i4,v3,t3,b3,m3];refine zlR i4 (reach_ms i4 (rowsB_tree _)) ?_;rintro h2 hne -;have i5:=(hne 8 (by decide)).trans i5;have b2:=fun d=>zdg h2 d (e.occ 2)
  simp -dsimp only[go_sem,seval,i5,v2,t2,b2,m2];refine zlR i5 (reach_ms i5 (rowsB_tree _)) ?_;rintro h3 - -;simp -dsimp only[go_sem,seval];simp[Expr.sup,hf]
 ·have hf:e.formed=false:=by simpa using hf
  simp -dsimp only[go_sem,seval,h1,hf];simp[Expr.sup,hf]
namespace Expr
mutual
def beq:Expr->Expr->Bool
 | .mk o w n k,.mk o' w' n' k'=>decide (o=o'/\w=w'/\n=n')&&ztU k k'
def ztU:List Expr->List Expr->Bool
 | [],[]=>true
 | e::r,e'::r'=>beq e e'&&ztU r r'
 | _,_=>false
end
end Expr
theorem zhG (e:Expr):Den Γ G 156 [(.agg [.t (ti (e).op),.t (ti (e).w),.t (ti (e).n),.t (.sl ((e).kids.map (Expr.enc)))]),.agg [vi 1,vi 1,vi 1,.t (.sl [])]]=some (vb (decide (e.op=1/\e.w=1/\e.n=1/\e.kids=[]))):=by
 (refine den_ofY Γ156 rfl ?_;dsimp only[f156])
 simp -dsimp only[go_sem,seval]
 repeat'(refine csplit (fun h=> ?_) (fun h=> ?_)<;>(try simp only[zab]at h)<;>(try simp -dsimp only[go_sem,seval, *]))
 ·simp[*]
 ·simp[*]
 ·simp[*]
 ·have : ¬e.kids=[]:=by intro h0;rw[h0]at h;simp at h
  simp[*]
 ·have:e.kids=[]:=by simpa using‹(e.kids.length:Int)=0›
  refine zbg ?_;simp -dsimp only[go_sem,seval,this];simp[*]
abbrev num (z:Int):List UInt8:=Go.Lib.itoa z
def Bld (h:Nat->Option O) (k:Nat) (l:List UInt8):Prop:=
 (h k=some (.raw (.bld none))/\l=[])\/ ∃g,h k=some (.raw (.bld (some g)))/\h g=some (.raw (.buf l))/\l≠[]
def zjW (h h':Nat->Option O):Prop:= ∀k o,h k=some o->(∀x,o≠ .raw x)->h' k=some o
theorem zjW.refl (h:Nat->Option O):zjW h h:=fun _ _ h _=>h
theorem zjW.trans {a b c:Nat->Option O} (h1:zjW a b) (h2:zjW b c):zjW a c:=fun k o h ho=>h2 k o (h1 k o h ho) ho
def zhv (h:Nat->Option O) (n:Nat):Prop:= ∀q,n<=q->h q=none
theorem zhv.upd {h:Nat->Option O} {n k:Nat} {o:O} (hf:zhv h n) (hk:k<n):zhv (updC h k (some o)) n:=by
 intro q hq;rw[zac,if_neg (by omega)];exact hf q hq
theorem zhv.mono {h:Nat->Option O} {n m:Nat} (hf:zhv h n) (hm:n<=m):zhv h m:=fun q hq=>hf q (by omega)
def zp3 (op:Int):List UInt8:=
 if op=4 then [110,111,116]else if op=5 then [97,110,100]else if op=6 then [111,114]else if op=7 then [120,111,114]else if op=8 then [97,100,100]
 else if op=9 then [115,117,98]else if op=10 then [109,117,108]else if op=11 then [101,113]else if op=12 then [108,116]else if op=13 then [108,101]else [105,116,101]
def zp8 (op:Int):List UInt8:=if op=2 then [99]else if op=3 then [111]else []
def zn6:List (List UInt8)->List UInt8
 | []=>[]
 | [x]=>x
 | x::r=>x++44::zn6 r
namespace Expr
mutual
def txt:Expr->List UInt8
 | .mk op w n ks=>if op=1\/op=2\/op=3 then zp8 op++num n++[58]++num w else zp3 op++[40]++zn6 (txts ks)++[41]
def txts:List Expr->List (List UInt8)
 | []=>[]
 | e::r=>txt e::txts r
end
end Expr
end Rg
end
section
set_option maxRecDepth 100000
namespace Rg
open Go
def Expr.text (e:Expr):List UInt8:=if e.formed then e.txt else []
end Rg
end
section
set_option maxRecDepth 100000
namespace Rg
open Go
end Rg
end
