/- Part of the proof of the laws of the package relyguardlaw30: an abstract machine for the program's functions, what they compute, and that the machine is the program's. No condition. (H06t H06s H07b H07c H07d H06r H06q H06p H08a H08b H30a H30b H30c H08c H08d RgNx H08e) -/
import Derived.Test.YtcgkpboneipghaaGreatDoorPartAU
import Derived.Lib.ItoaLen
import Derived.Test.YtcgkpboneipghaaGreatDoorPartAR
set_option linter.unusedSimpArgs false
set_option linter.unusedVariables false
section
-- FULL
namespace Rg
open Go
def lcV (x:Expr):Bool:=decide (0<=x.n/\(x.kids=[]->x.op=1\/x.op=2\/x.op=3))
def IV (cells:List Cell) (pair:Bool) (k3 k4 k5 k7:Nat) (e:Expr) (s:Bool) (h:Nat->Option O):Prop :=
 h k7=some (.rows 1 [[vb s]] false)/\h k4=some (.rows 1 [[.t (.sl (cells.map Cell.enc))]] false)/\h k5=some (.rows 1 [[vb pair]] false) /\
 h k3=some (.rows 4 [[.t (ti e.op), .t (ti e.w), .t (ti e.n), .t (.sl (e.kids.map Expr.enc))]] false)
theorem valid1_den (cells:List Cell) (pair:Bool) (k3 k4 k5 k7:Nat) (e:Expr) (h4:k4≠k7) (h5:k5≠k7) (h3:k3≠k7) (s:Bool) (H:Nat->Option O) (n:Nat) (v:V) (x:Expr)
 (hI:IV cells pair k3 k4 k5 k7 e s H) (hk:x.kids=[]) (hl:lcV x=true) (hs:Sh H v x) :
 ∃ r h' n',DenR Γ G 136 [v, .mp k4 0 0, .mp k5 0 0, .mp k7 0 0] H n=some (r,h',n')/\IV cells pair k3 k4 k5 k7 e (s&&leafOk cells pair x) h' := by
 obtain ⟨i7,i4,i5,i3⟩:=hI
 simp only [lcV,decide_eq_true_eq] at hl
 obtain ⟨hn0,hop⟩:=hl
 have hop:=hop hk
 (refine denR_ofY Γ136 rfl ?_; dsimp only [f136])
 have yes : ∀ h',h' = H->leafOk cells pair x=true->IV cells pair k3 k4 k5 k7 e (s&&leafOk cells pair x) h' := fun h' he hh=>by
  rw [hh,Bool.and_true,he]; exact ⟨i7,i4,i5,i3⟩
 have no : ∀ h',h' = updC H k7 (some (.rows 1 [[vb false]] false))->leafOk cells pair x=false->IV cells pair k3 k4 k5 k7 e (s&&leafOk cells pair x) h' := fun h' he hh=>by
  rw [hh,Bool.and_false,he]
  refine ⟨by simp [updC_at],by simp [updC_at,h4,i4],by simp [updC_at,h5,i5],by simp [updC_at,h3,i3]⟩
 rcases hc:cells[x.n.toNat]? with _ | c
 ·have hge:x.n>=(cells.length:Int):=by rw [List.getElem?_eq_none_iff] at hc; omega
  rcases hs with rfl | ⟨k,fz,rfl,hkk⟩
  ·rcases hop with ho | ho | ho
   all_goals (
    simp -dsimp -implicitDefEqProofs [go_sem,i7,i4,i5,ho,hge]
    repeat' (refine csplit (fun h => ?_) (fun h => ?_) <;> (try simp only [bools] at h) <;> (try simp -dsimp -implicitDefEqProofs [go_sem, *]))
    all_goals (first | exact no _ (by simp -dsimp -implicitDefEqProofs [go_sem]) (by simp [leafOk,ho,hc]) | exact yes _ rfl (by simp [leafOk,ho,hc])))
  ·rcases hop with ho | ho | ho
   all_goals (
    simp -dsimp -implicitDefEqProofs [go_sem,i7,i4,i5,ho,hge,hkk]
    repeat' (refine csplit (fun h => ?_) (fun h => ?_) <;> (try simp only [bools] at h) <;> (try simp -dsimp -implicitDefEqProofs [go_sem, *]))
    all_goals (first | exact no _ (by simp -dsimp -implicitDefEqProofs [go_sem]) (by simp [leafOk,ho,hc]) | exact yes _ rfl (by simp [leafOk,ho,hc])))
 ·have hge : ¬ x.n>=(cells.length:Int):=by
   have:=(List.getElem?_eq_some_iff.1 hc).1; omega
  rcases hs with rfl | ⟨k,fz,rfl,hkk⟩
  ·rcases hop with ho | ho | ho
   all_goals (
    simp -dsimp -implicitDefEqProofs [go_sem,i7,i4,i5,ho,hge,hc,hn0]
    repeat' (refine csplit (fun h => ?_) (fun h => ?_) <;> (try simp only [bools] at h) <;> (try simp -dsimp -implicitDefEqProofs [go_sem, *]))
    all_goals (first | exact no _ (by simp -dsimp -implicitDefEqProofs [go_sem]) (by simp [leafOk, *]) | exact yes _ rfl (by simp [leafOk, *])))
  ·rcases hop with ho | ho | ho
   all_goals (
    simp -dsimp -implicitDefEqProofs [go_sem,i7,i4,i5,ho,hge,hc,hn0,hkk]
    repeat' (refine csplit (fun h => ?_) (fun h => ?_) <;> (try simp only [bools] at h) <;> (try simp -dsimp -implicitDefEqProofs [go_sem, *]))
    all_goals (first | exact no _ (by simp -dsimp -implicitDefEqProofs [go_sem]) (by simp [leafOk, *]) | exact yes _ rfl (by simp [leafOk, *])))
theorem foldl_and (p:Expr->Bool) : ∀ (l:List Expr) (s:Bool),l.foldl (fun s x=>s&&p x) s=(s&&l.all p)
 | [],s=>by simp
 | x::l,s=>by simp only [List.foldl_cons,foldl_and p l,List.all_cons,Bool.and_assoc]
theorem lv_all {p:Expr->Bool} (hp : ∀ x:Expr,x.kids≠[]->nodeOk x=true->p x=true) (d:Nat) : ∀ e:Expr,e.deep d=true->e.allE p=e.lv.all p:=by
 induction d with
 | zero=>intro e h; simp [Expr.deep] at h
 | succ d ih =>
   intro e h
   rw [Expr.allE_eq,Expr.lv_eq]
   split
   ·rename_i hk; rw [hk]; simp
   ·rename_i hk
    rw [hp e hk (deep_node h),Bool.true_and]
    have : ∀ k∈e.kids,k.allE p=k.lv.all p:=fun k hk=>ih k (deep_kid h hk)
    generalize e.kids=ks at this
    induction ks with
    | nil=>rfl
    | cons k ks ih2 =>
      simp only [List.all_cons,List.flatMap_cons,List.all_append]
      rw [this k (by simp),ih2 (fun x hx=>this x (by simp [hx]))]
theorem kids_op {x:Expr} (hk:x.kids≠[]) (h:nodeOk x=true):4<=x.op:=by
 have ha:=node_arity h
 have:0<x.kids.length:=List.length_pos_iff.2 hk
 unfold arity at ha; grind
theorem leafOk_kids (cells:List Cell) (pair:Bool) {x:Expr} (hk:x.kids≠[]) (h:nodeOk x=true):leafOk cells pair x=true:=by
 have:=kids_op hk h
 unfold leafOk
 rw [if_neg (by omega),if_neg (by omega)]
theorem deep_lc (d:Nat) : ∀ e:Expr,e.deep d=true->e.allE (fun x=>lcV x&&decide (x.kids.length<=3))=true:=by
 induction d with
 | zero=>intro e h; simp [Expr.deep] at h
 | succ d ih =>
   intro e h
   rw [Expr.allE_eq]
   have hn:=deep_node h
   simp only [Bool.and_eq_true,List.all_eq_true,decide_eq_true_eq,lcV]
   refine ⟨⟨⟨nodeOk_n hn,fun hk => ?_⟩,nodeOk_len hn⟩,fun k hk => ?_⟩
   ·have ha:=node_arity hn
    rw [hk] at ha
    rcases op_cases e.op with hh | hh | hh | hh | hh | hh | hh | hh | hh | hh | hh | hh | hh | hh | hop
    ·exact .inl hh
    ·exact .inr (.inl hh)
    ·exact .inr (.inr hh)
    all_goals (try (rw [hh] at ha; simp [arity] at ha; done))
    rw [arity_bad hop] at ha; simp at ha
   ·have:=ih k (deep_kid h hk)
    simpa only [lcV] using this
theorem validP_den (e:Expr) (cells:List Cell) (pair:Bool):Den Γ G 107 [(.agg [.t (ti (e).op), .t (ti (e).w), .t (ti (e).n), .t (.sl ((e).kids.map (Expr.enc)))]), .t (.sl (cells.map Cell.enc)),vb pair]=some (vb (e.valid cells pair)):=by
 (refine den_ofY Γ107 rfl ?_; dsimp only [f107])
 have h1:=wellFormed_den e
 by_cases hf:e.formed=true
 ·simp -dsimp -implicitDefEqProofs [go_sem,h1,hf]
  have hd:=formed_deep hf
  refine rawK_of (leaves_den 136 _ (IV cells pair 0 1 2 7 e) (fun s x=>s&&leafOk cells pair x) lcV (valid1_den cells pair 0 1 2 7 e (by decide) (by decide) (by decide)) e _ true _ _ (deep_lc 40 e hd) ⟨by simp -dsimp -implicitDefEqProofs [go_sem],by simp -dsimp -implicitDefEqProofs [go_sem],by simp -dsimp -implicitDefEqProofs [go_sem],by simp -dsimp -implicitDefEqProofs [go_sem]⟩ (fun s h hI => .inr ⟨0,false,rfl,hI.2.2.2⟩)) ?_
  rintro r h' n' ⟨i7,_⟩
  simp -dsimp -implicitDefEqProofs [go_sem,i7]
  rw [foldl_and,Expr.valid,hf,lv_all (fun x=>leafOk_kids cells pair) 40 e hd]
 ·have hf:e.formed=false:=by simpa using hf
  simp -dsimp -implicitDefEqProofs [go_sem,h1,hf]
  simp [Expr.valid,hf]
end Rg
end
section
-- APPS
namespace Rg
open Go
def Own (h:Nat->Option O) (x:Nat) (v:V) (sz:Nat) (rows:List (List V)):Prop :=
 (v = .t .nils/\rows=[]) \/ ∃ k,v = .ms k 0 rows.length/\k<x/\h k=some (.rows sz rows false)
theorem mapM_some_of {α β:Type} (f:α->Option β) : ∀ (l:List α) (r:List β),(∀ i:Nat, ∀ a,l[i]? = some a -> ∃ b,r[i]? = some b/\f a=some b)->l.length=r.length->l.mapM f=some r
 | [],[],_,_=>rfl
 | [],_::_,_,h=>by simp at h
 | _::_,[],_,h=>by simp at h
 | a::l,b::r,h,hl=>by
   rw [List.mapM_cons]
   obtain ⟨b',hb,hf⟩:=h 0 a rfl
   simp at hb; subst hb
   rw [hf,mapM_some_of f l r (fun i a' ha=>by simpa using h (i+1) a' (by simpa using ha)) (by simpa using hl)]
   rfl
theorem rows_toT (h:Nat->Option O) (d:Nat) (es:List (List T)) (hn : ∀ e∈es, ∀ t∈e,T.norm t=t) :
 (es.map (·.map V.t)).mapM (fun row=>row.mapM (toT h d))=some es:=by
 refine mapM_some_of _ _ _ (fun i a ha => ?_) (by simp)
 rw [List.getElem?_map] at ha
 cases he:es[i]? with
 | none=>rw [he] at ha; simp at ha
 | some e =>
   rw [he] at ha
   simp only [Option.map_some,Option.some.injEq] at ha
   subst ha
   refine ⟨e,rfl, ?_⟩
   refine mapM_some_of _ _ _ (fun j b hb => ?_) (by simp)
   rw [List.getElem?_map] at hb
   cases ht:e[j]? with
   | none=>rw [ht] at hb; simp at hb
   | some t =>
     rw [ht] at hb
     simp only [Option.map_some,Option.some.injEq] at hb
     subst hb
     have:=hn e (List.mem_of_getElem? he) t (List.mem_of_getElem? ht)
     refine ⟨t,rfl, ?_⟩
     cases d <;> simp [toT,this]
theorem own_reify {h:Nat->Option O} {x:Nat} {v:V} {sz:Nat} {es:List (List T)} (ho:Own h x v sz (es.map (·.map V.t))) (hn : ∀ e∈es, ∀ t∈e,T.norm t=t) :
 toT h 1000 v=some (.sl es):=by
 rcases ho with ⟨rfl,he⟩ | ⟨k,rfl,hk,hh⟩
 ·have:es=[]:=by simpa using he
  subst this; rfl
 ·rw [toT,hh]
  simp only [rd,Nat.zero_add,Nat.le_refl,if_true,List.drop_zero,List.take_length,Option.bind_eq_bind,Option.bind_some]
  rw [rows_toT h 999 es hn]; rfl
theorem ints_norm (l:List Int) : ∀ e∈(l.map fun n=>[ti n]), ∀ t∈e,T.norm t=t:=by
 intro e he t ht
 obtain ⟨n,_,rfl⟩:=List.mem_map.1 he
 simp at ht; subst ht; rfl
def marked (l:List Bool) (i:Nat):List Int:=((List.range i).filter fun j=>l.getD j false).map fun j:Nat=>(j:Int)
theorem marked_succ (l:List Bool) (i:Nat):marked l (i+1)=marked l i++if l.getD i false then [(i:Int)] else []:=by
 unfold marked
 rw [List.range_succ,List.filter_append,List.map_append]
 cases h:l.getD i false <;> simp only [List.filter_cons,List.filter_nil,h,if_true,if_false,Bool.false_eq_true,List.map_nil,List.map_cons]
def rowsI (l:List Int):List (List V):=(l.map fun n=>[ti n]).map (·.map V.t)
theorem rowsI_len (l:List Int):(rowsI l).length=l.length:=by simp [rowsI]
theorem rowsI_app (l:List Int) (n:Int):rowsI (l++[n])=rowsI l++[[vi n]]:=by simp [rowsI]
theorem rowsI_all (l:List Int):((rowsI l).all fun r=>decide (r.length=1))=true:=by simp [rowsI]
theorem ne_add {k x:Nat} (h:k<x) (j:Nat) : ¬ k=x+j:=by omega
theorem ne_add2 {k x:Nat} (h:k<x) (j j' : Nat) : ¬ k=x+j+j' := by omega
theorem ne_add3 {k x:Nat} (h:k<x) (j j' j'' : Nat) : ¬ k=x+j+j' + j'' := by omega
end Rg
end
section
-- FULL
namespace Rg
open Go
theorem ghost_den (p:Prog) (c:Int) (x:Cell) (h0:0<=c) (hc:p.cells[c.toNat]? = some x):Den Γ G 163 [(.agg [.t (.sl ((p).cells.map (Cell.enc))), .t (.sl ((p).modules.map (Contract.enc))), .t (.sl ((p).locks.map (Lock.enc))), .t (.sl ((p).threads.map (Thread.enc)))]),vi c]=some (vb x.ghost):=by
 (refine den_ofY Γ163 rfl ?_; dsimp only [f163])
 simp -dsimp -implicitDefEqProofs [go_sem,h0,hc]
def ofThread (p:Prog) (t c:Int):Bool:=decide (0<=c)&&match p.cells[c.toNat]? with
 | some x=>decide (x.thread=t)
 | none=>false
theorem cell_in {p:Prog} {c:Int} (h:inR c p.cells.length=true):0<=c /\ ∃ x,p.cells[c.toNat]? = some x:=by
 simp only [inR,decide_eq_true_eq] at h
 exact ⟨h.1,_,List.getElem?_eq_getElem (by omega)⟩
theorem ofThread_out {p:Prog} {t c:Int} (h:inR c p.cells.length=false):ofThread p t c=false:=by
 simp only [inR,decide_eq_false_iff_not] at h
 unfold ofThread
 by_cases h0:0<=c
 ·have:p.cells[c.toNat]? = none:=List.getElem?_eq_none_iff.2 (by omega)
  simp [this]
 ·simp [h0]
theorem sharedP_den (p:Prog) (c:Int):Den Γ G 100 [(.agg [.t (.sl ((p).cells.map (Cell.enc))), .t (.sl ((p).modules.map (Contract.enc))), .t (.sl ((p).locks.map (Lock.enc))), .t (.sl ((p).threads.map (Thread.enc)))]),vi c]=some (vb (ofThread p (-1) c)):=by
 (refine den_ofY Γ100 rfl ?_; dsimp only [f100])
 have hb:=below_den c p.cells.length
 simp -dsimp -implicitDefEqProofs [go_sem,hb]
 refine csplit (fun h => ?_) (fun h => ?_) <;> (try simp only [bools] at h) <;> (try simp -dsimp -implicitDefEqProofs [go_sem, *])
 ·obtain ⟨h0,x,hx⟩:=cell_in h
  simp -dsimp -implicitDefEqProofs [go_sem,h0,hx,h]
  simp [ofThread,h0,hx]
 ·rw [ofThread_out h]
theorem ownP_den (p:Prog) (t c:Int):Den Γ G 146 [vi c, .t (.ip [.sl (p.cells.map Cell.enc), .sl (p.modules.map Contract.enc), .sl (p.locks.map Lock.enc), .sl (p.threads.map Thread.enc)]), .t (.ip [ti t])]=some (vb (ofThread p t c)):=by
 (refine den_ofY Γ146 rfl ?_; dsimp only [f146])
 have hb:=below_den c p.cells.length
 simp -dsimp -implicitDefEqProofs [go_sem,hb]
 refine csplit (fun h => ?_) (fun h => ?_) <;> (try simp only [bools] at h) <;> (try simp -dsimp -implicitDefEqProofs [go_sem, *])
 ·obtain ⟨h0,x,hx⟩:=cell_in h
  simp -dsimp -implicitDefEqProofs [go_sem,h0,hx,h]
  simp [ofThread,h0,hx]
 ·rw [ofThread_out h]
end Rg
end
section
namespace Rg
open Go
theorem toT1_trees (h:Nat->Option O) : ∀ c:List T,(∀ t∈c,T.norm t=t)->(c.map V.t).mapM (toT1 h)=some (c.map V.t)
 | [],_=>rfl
 | t::c,hn=>by
   rw [List.map_cons,List.mapM_cons,toT1_trees h c fun x hx=>hn x (by simp [hx])]
   have:toT1 h (.t t)=some (.t t):=by simp [toT1,toT,hn t (by simp)]
   rw [this]; rfl
theorem trees_all (c:List T):(c.map V.t).all V.tree=true:=by
 rw [List.all_eq_true]; intro v hv; obtain ⟨t,_,rfl⟩:=List.mem_map.1 hv; rfl
def IsP (g:Nat) (c:List T) (P:Int->Bool):Prop:=(∀ t∈c,T.norm t=t) /\ ∀ n:Int,Den Γ G g (vi n::c.map V.t)=some (vb (P n))
def IsF (F:T) (P:Int->Bool):Prop:=T.norm F=F /\ ∃ g a b,fnOf (.t F)=some (g,a,b)/\(∀ (h:Nat->Option O) (n:Int),(a++[vi n]++b).mapM (toT1 h)=some (a++[vi n]++b)) /\
 (∀ n:Int,(a++[vi n]++b).all V.tree=true) /\ ∀ n:Int,Den Γ G g (a++[vi n]++b)=some (vb (P n))
theorem fnK_of {v:V} {g:Nat} {a b:List V} (hf:fnOf v=some (g,a,b)) (K:Nat->List V->List V->Prop) (w:WK K):fnK (some v) K w=K g a b:=by
 simp only [fnK,hf]
theorem IsP.isF {g:Nat} {c:List T} {P:Int->Bool} (h:IsP g c P):IsF (.fn g [] c) P:=by
 refine ⟨rfl,g,[],c.map V.t,rfl,fun hh n => ?_,fun n => ?_,fun n => ?_⟩
 ·have:=toT1_trees hh (ti n::c) (fun t ht=>(List.mem_cons.1 ht).elim (fun e=>by rw [e]; rfl) (h.1 t))
  exact this
 ·exact trees_all (ti n::c)
 ·exact h.2 n
theorem isF_fa {g:Nat} {c:List T} {P:Int->Bool} (hn : ∀ t∈c,T.norm t=t) (hd : ∀ n:Int,Den Γ G g [.agg (c.map V.t),vi n]=some (vb (P n))):IsF (.fa g c) P:=by
 refine ⟨rfl,g,[.agg (c.map V.t)],[],rfl,fun hh n => ?_,fun n => ?_,fun n=>hd n⟩
 ·clear hd
  have h1:toT1 hh (.agg (c.map V.t))=some (.agg (c.map V.t)):=by
   have:(c.map V.t).mapM (toT hh 1000)=some c:=by
    induction c with
    | nil=>rfl
    | cons t c ih=>rw [List.map_cons,List.mapM_cons,ih fun x hx=>hn x (by simp [hx])]; simp [toT,hn t (by simp)]
   simp [toT1,this]
  rw [List.append_nil,List.cons_append,List.nil_append,List.mapM_cons,List.mapM_cons,h1]; rfl
 ·simp [V.tree]
theorem index_den (F:T) (P:Int->Bool) (hP:IsF F P) (l:List Int) (hl:l.length<2^50) :
 Den Γ G 145 [.t (ints l), .t F]=some (vi (match l.findIdx? P with | some i=>i | none => -1)):=by
 (refine den_ofY Γ145 rfl ?_; dsimp only [f145])
 obtain ⟨_,g,a,b,hf,hm,ha,hd⟩:=hP
 have hK:=fnK_of hf
 simp -dsimp -implicitDefEqProofs only [go_sem,seval]
 refine loopY 524080 l.length (fun i f=>(f 8).v=vi i /\ ∀ x∈l.take i,P x=false) rfl rfl ⟨by simp -dsimp -implicitDefEqProofs only [go_sem,seval],by simp⟩ ?_
 rintro i f u kk bb hi ⟨h8,hall⟩
 have hw:=wrapS i (by omega)
 simp -dsimp -implicitDefEqProofs only [go_sem,seval,h8]
 refine csplit (fun h => ?_) (fun h => ?_) <;> (try simp only [bools] at h) <;> (try simp -dsimp -implicitDefEqProofs only [go_sem,seval, *])
 ·obtain ⟨y,hy,hm'⟩:=get_of ‹i<l.length›
  simp -dsimp -implicitDefEqProofs only [go_sem,seval,h8,hy,hK,hm,ha,hd]
  refine csplit (fun h => ?_) (fun h => ?_) <;> (try simp only [bools] at h) <;> (try simp -dsimp -implicitDefEqProofs only [go_sem,seval, *])
  ·have:l.findIdx? P=some i:=by
    rw [List.findIdx?_eq_some_iff_getElem]
    have hlt:i<l.length := ‹i<l.length›
    have hyl:l[i]=y:=by rw [List.getElem?_eq_getElem hlt] at hy; exact Option.some.inj hy
    refine ⟨hlt,by rw [hyl]; exact h,fun j hj => ?_⟩
    have:=hall l[j] (by rw [List.mem_take_iff_getElem]; exact ⟨j,by omega,rfl⟩)
    simp [this]
   rw [this]
  ·refine ⟨by omega,by simp -dsimp -implicitDefEqProofs only [go_sem,seval,hw],fun x hx => ?_⟩
   rw [take_succ_of hy] at hx
   rcases List.mem_append.1 hx with hx | hx
   ·exact hall x hx
   ·rw [List.mem_singleton.1 hx]; exact h
 ·have:i=l.length:=by omega
  subst this
  rw [List.take_length] at hall
  have:l.findIdx? P=none:=by rw [List.findIdx?_eq_none_iff]; exact hall
  rw [this]
theorem contains_den (F:T) (P:Int->Bool) (hP:IsF F P) (l:List Int) (hl:l.length<2^50) :
 Den Γ G 131 [.t (ints l), .t F]=some (vb (l.any P)):=by
 (refine den_ofY Γ131 rfl ?_; dsimp only [f131])
 have hd:=index_den F P hP l hl
 have hn:=hP.1
 simp only [T.norm] at hn
 simp -dsimp -implicitDefEqProofs only [go_sem,seval,hd,hn]
 cases h:l.findIdx? P with
 | none =>
   rw [List.findIdx?_eq_none_iff] at h
   have:l.any P=false:=by rw [List.any_eq_false]; intro x hx; simp [h x hx]
   simp [this]
 | some i =>
   have:l.any P=true:=by
    rw [List.findIdx?_eq_some_iff_getElem] at h
    obtain ⟨hi,hp,_⟩:=h
    rw [List.any_eq_true]; exact ⟨_,List.getElem_mem hi,hp⟩
   simp [this]
theorem within1_den (F:T) (P:Int->Bool) (hP:IsF F P):IsP 132 [.ip [F]] (fun n => !P n):=by
 refine ⟨by simp [T.norm],fun n => ?_⟩
 (refine den_ofY Γ132 rfl ?_; dsimp only [f132])
 obtain ⟨_,g,a,b,hf,hm,ha,hd⟩:=hP
 have hK:=fnK_of hf
 simp -dsimp -implicitDefEqProofs only [go_sem,seval,hK,hm,ha,hd]
theorem within_den (F:T) (P:Int->Bool) (hP:IsF F P) (l:List Int) (hl:l.length<2^50) :
 Den Γ G 102 [.t (ints l), .t F]=some (vb (l.all P)):=by
 (refine den_ofY Γ102 rfl ?_; dsimp only [f102])
 have hn:=hP.1
 simp only [T.norm] at hn
 have hd:=contains_den _ _ (within1_den F P hP).isF l hl
 simp -dsimp -implicitDefEqProofs only [go_sem,seval,hd,hn]
 rw [List.all_eq_not_any_not]
end Rg
end
section
-- FULL
namespace Rg
open Go
def progT (p:Prog):T:=.ip [.sl (p.cells.map Cell.enc), .sl (p.modules.map Contract.enc), .sl (p.locks.map Lock.enc), .sl (p.threads.map Thread.enc)]
theorem ownIs (p:Prog) (t:Int):IsP 146 [progT p, .ip [ti t]] (ofThread p t):=⟨by simp [progT,T.norm],fun n=>ownP_den p t n⟩
theorem own_den (p:Prog) (t:Int):Den Γ G 133 [(.agg [.t (.sl ((p).cells.map (Cell.enc))), .t (.sl ((p).modules.map (Contract.enc))), .t (.sl ((p).locks.map (Lock.enc))), .t (.sl ((p).threads.map (Thread.enc)))]),vi t]=some (.t (.fn 146 [] [progT p, .ip [ti t]])):=by
 (refine den_ofY Γ133 rfl ?_; dsimp only [f133])
 simp -dsimp -implicitDefEqProofs [go_sem]
 rfl
def sees (p:Prog) (t c:Int):Bool:=ofThread p (-1) c||ofThread p t c
theorem visible_den (p:Prog) (t:Int):Den Γ G 104 [(.agg [.t (.sl ((p).cells.map (Cell.enc))), .t (.sl ((p).modules.map (Contract.enc))), .t (.sl ((p).locks.map (Lock.enc))), .t (.sl ((p).threads.map (Thread.enc)))]),vi t]=some (.t (.fn 134 [] [progT p, .ip [.fn 146 [] [progT p, .ip [ti t]]]])):=by
 (refine den_ofY Γ104 rfl ?_; dsimp only [f104])
 have h1:=own_den p t
 simp -dsimp -implicitDefEqProofs [go_sem,h1]
 rfl
theorem visibleIs (p:Prog) (t:Int):IsP 134 [progT p, .ip [.fn 146 [] [progT p, .ip [ti t]]]] (sees p t):=by
 refine ⟨by simp [progT,T.norm],fun n => ?_⟩
 (refine den_ofY Γ134 rfl ?_; dsimp only [f134])
 have h1:=sharedP_den p n
 have h2:=ownP_den p t n
 simp -dsimp -implicitDefEqProofs [go_sem,h1,progT]
 refine csplit (fun h => ?_) (fun h => ?_) <;> (try simp only [bools] at h) <;> (try simp -dsimp -implicitDefEqProofs [go_sem,progT, *])
 ·simp [sees,h]
 ·simp [sees,h]
end Rg
end
section
-- APPS
namespace Rg
open Go
theorem ne_add4 {k x:Nat} (h:k<x) (a b c d:Nat) : ¬ k=x+a+b+c+d:=by omega
theorem members_den (l:List Bool) (hl:l.length=32) : ∃ r h' n',DenR Γ G 78 [.agg (l.map fun b=>vb b)] (fun _=>none) 0=some (r,h',n')/\Own h' n' r 1 (rowsI (marked l 32)):=by
 (refine denR_ofY Γ78 rfl ?_; dsimp only [f78])
 have hlm:(l.map fun b=>vb b).length=32:=by simp [hl]
 have htk:List.take 32 (l.map fun b=>vb b)=l.map fun b=>vb b:=List.take_of_length_le (by omega)
 simp -dsimp -implicitDefEqProofs only [go_sem,seval,appS,hl,htk]
 refine loopYH 131000 32 (fun i f h x=>(f 7).v=vi i/\Own h x (f 3).v 1 (rowsI (marked l i))) rfl ⟨by simp -dsimp -implicitDefEqProofs only [go_sem,seval,appS], .inl ⟨by simp -dsimp -implicitDefEqProofs only [go_sem,seval,appS],rfl⟩⟩ ?_
 rintro i f u H x bs hi ⟨h4,hown⟩
 have hw:=wrapS i (by omega)
 have hi0:(0:Int)<=(i:Int):=by omega
 simp -dsimp -implicitDefEqProofs only [go_sem,seval,appS,h4]
 refine csplit (fun h => ?_) (fun h => ?_) <;> (try simp only [bools] at h) <;> (try simp -dsimp -implicitDefEqProofs only [go_sem,seval,appS, *])
 ·have hlt:i<32:=by omega
  have hx:l[i]? = some (l[i]'(by omega)):=List.getElem?_eq_getElem (by omega)
  generalize hb:l[i]'(by omega)=b at hx
  have gx:l.getD i false=b:=by simp [List.getD,hx]
  have hdt:List.take 1 (List.drop (i*1) (l.map fun b=>vb b))=[vb b]:=by
   rw [Nat.mul_one, <- List.map_drop, <- List.map_take]
   have:(l.drop i).take 1=[b]:=by
    rw [List.drop_eq_getElem_cons (by omega),hb]; rfl
   rw [this]; rfl
  have hle1:i*1<=31:=by omega
  simp -dsimp -implicitDefEqProofs only [go_sem,seval,appS,h4,hdt,hl,hle1]
  refine csplit (fun h => ?_) (fun h => ?_) <;> (try simp only [bools] at h) <;> (try simp -dsimp -implicitDefEqProofs only [go_sem,seval,appS, *])
  ·have hms:marked l (i+1)=marked l i++[(i:Int)]:=by rw [marked_succ,gx,h]; rfl
   have hml:(marked l i).length<=i:=by
    unfold marked
    rw [List.length_map]
    exact Nat.le_trans (List.length_filter_le _ _) (by simp)
   rcases hown with ⟨hv,he⟩ | ⟨k,hv,hk,hh⟩
   ·have he' : marked l i=[]:=by simpa [rowsI] using he
    simp -dsimp -implicitDefEqProofs only [go_sem,seval,appS,h4,hv]
    refine ⟨by omega,by simp -dsimp -implicitDefEqProofs only [go_sem,seval,appS,hw], ?_⟩
    simp -dsimp -implicitDefEqProofs only [go_sem,seval,appS,hms,he',rowsI]
    exact .inr ⟨_,rfl,by omega,by simp -dsimp -implicitDefEqProofs only [go_sem,seval,appS]⟩
   ·have n1:=ne_add hk
    have n2:=ne_add2 hk
    have n3:=ne_add3 hk
    have n4:=ne_add4 hk
    have hra:=rowsI_all (marked l i)
    have hrl:=rowsI_len (marked l i)
    have hle:(rowsI (marked l i)).length<=4294967295:=by omega
    simp -dsimp -implicitDefEqProofs only [go_sem,seval,appS,h4,hv,hh,n1,n2,n3,n4,hra,Nat.le_refl,List.take_length,hle]
    refine ⟨by omega,by simp -dsimp -implicitDefEqProofs only [go_sem,seval,appS,hw], ?_⟩
    simp -dsimp -implicitDefEqProofs only [go_sem,seval,appS,hms,rowsI_app]
    exact .inr ⟨_,(by rw [List.length_append]; rfl),by omega,by simp -dsimp -implicitDefEqProofs only [go_sem,seval,appS]⟩
  ·have hms:marked l (i+1)=marked l i:=by rw [marked_succ,gx,h]; simp
   refine ⟨by omega,by simp -dsimp -implicitDefEqProofs only [go_sem,seval,appS,hw], ?_⟩
   simp -dsimp -implicitDefEqProofs only [go_sem,seval,appS,hms]
   rcases hown with ⟨hv,he⟩ | ⟨k,hv,hk,hh⟩
   ·exact .inl ⟨hv,he⟩
   ·exact .inr ⟨k,hv,by omega,hh⟩
 ·have:i=32:=by omega
  subst this
  rcases hown with ⟨hv,he⟩ | ⟨k,hv,hk,hh⟩
  ·simp -dsimp -implicitDefEqProofs only [go_sem,seval,appS,hv]
   exact .inl ⟨rfl,he⟩
  ·simp -dsimp -implicitDefEqProofs only [go_sem,seval,appS,hv]
   exact .inr ⟨k,rfl,Nat.lt_of_lt_of_le hk (by first | omega | exact Nat.le_trans (addC_le _ _) (addC_le _ _) | exact addC_le _ _),hh⟩
def vbs (l:List Bool):List V:=l.map fun b=>vb b
theorem wr_vbs {l:List Bool} {i:Nat} (h:i<l.length):wr (vbs l) i [vb true]=some (vbs (l.set i true)):=by
 unfold wr vbs
 rw [if_pos (by simp; omega)]
 congr 1
 rw [List.map_set,List.set_eq_take_append_cons_drop,if_pos (by simpa using h)]
 simp
def markS (op:Int) (s:List Bool) (x:Expr):List Bool:=if x.op=op then s.set x.n.toNat true else s
theorem markS_len (op:Int) (s:List Bool) (x:Expr):(markS op s x).length=s.length:=by unfold markS; split <;> simp
def lcS (x:Expr):Bool:=decide (0<=x.n/\(x.kids=[]->x.op=1\/((x.op=2\/x.op=3)/\x.n<32)))
def IS (k1 k4 k5:Nat) (e:Expr) (s:List Bool×List Bool) (h:Nat->Option O):Prop :=
 s.1.length=32/\s.2.length=32/\h k4=some (.rows 32 [vbs s.1] false)/\h k5=some (.rows 32 [vbs s.2] false) /\
 h k1=some (.rows 4 [[.t (ti e.op), .t (ti e.w), .t (ti e.n), .t (.sl (e.kids.map Expr.enc))]] false)
theorem support1_den (k1 k4 k5:Nat) (e:Expr) (h45:k4≠k5) (h14:k1≠k4) (h15:k1≠k5) (s:List Bool×List Bool) (H:Nat->Option O) (n:Nat) (v:V) (x:Expr)
 (hI:IS k1 k4 k5 e s H) (hk:x.kids=[]) (hl:lcS x=true) (hs:Sh H v x) :
 ∃ r h' n',DenR Γ G 77 [v, .mp k4 0 0, .mp k5 0 0] H n=some (r,h',n')/\IS k1 k4 k5 e (markS 3 s.1 x,markS 2 s.2 x) h' /\ ∀ k,k≠k4->k≠k5->h' k=H k:=by
 obtain ⟨l1,l2,i4,i5,i1⟩:=hI
 simp only [lcS,decide_eq_true_eq] at hl
 obtain ⟨hn0,hop⟩:=hl
 have hop:=hop hk
 (refine denR_ofY Γ77 rfl ?_; dsimp only [f77])
 have hsh : ∃ fz,v = .t (.ip [ti x.op,ti x.w,ti x.n, .sl (x.kids.map Expr.enc)]) \/ ∃ k,v = .mp k 0 0/\H k=some (.rows 4 [[.t (ti x.op), .t (ti x.w), .t (ti x.n), .t (.sl (x.kids.map Expr.enc))]] fz):=by
  rcases hs with h | ⟨k,fz,h1,h2⟩
  ·exact ⟨false, .inl h⟩
  ·exact ⟨fz, .inr ⟨k,h1,h2⟩⟩
 obtain ⟨fz,hsh⟩:=hsh
 rcases hop with ho | ⟨ho,hlt⟩
 ·have m1:markS 3 s.1 x=s.1:=by simp [markS,ho]
  have m2:markS 2 s.2 x=s.2:=by simp [markS,ho]
  rcases hsh with rfl | ⟨k,rfl,hkk⟩
  ·simp -dsimp -implicitDefEqProofs only [go_sem,seval,ho]
   rw [m1,m2]; exact ⟨⟨l1,l2,i4,i5,i1⟩,fun _ _ _=>rfl⟩
  ·simp -dsimp -implicitDefEqProofs only [go_sem,seval,ho,hkk]
   rw [m1,m2]; exact ⟨⟨l1,l2,i4,i5,i1⟩,fun _ _ _=>rfl⟩
 ·have hn:0<=x.n/\x.n<32:=⟨hn0,hlt⟩
  have hlt' : x.n.toNat<32:=by omega
  have v1:(vbs s.1).length=32:=by simp [vbs,l1]
  have v2:(vbs s.2).length=32:=by simp [vbs,l2]
  have c1:x.n.toNat*1<=31:=by omega
  have w1:=wr_vbs (l:=s.1) (i:=x.n.toNat) (by omega)
  have w2:=wr_vbs (l:=s.2) (i:=x.n.toNat) (by omega)
  unfold wr at w1 w2
  rw [if_pos (by rw [v1]; simp; omega)] at w1
  rw [if_pos (by rw [v2]; simp; omega)] at w2
  simp only [Option.some.injEq,List.length_cons,List.length_nil,Nat.zero_add,List.append_assoc,List.cons_append,List.nil_append] at w1 w2
  rcases ho with ho | ho
  ·have m1:markS 3 s.1 x=s.1:=by simp [markS,ho]
   have m2:markS 2 s.2 x=s.2.set x.n.toNat true:=by simp [markS,ho]
   rw [m1,m2]
   rcases hsh with rfl | ⟨k,rfl,hkk⟩
   ·simp -dsimp -implicitDefEqProofs only [go_sem,seval,ho,hn,i5,v2,c1]
    refine ⟨⟨l1,by simp [l2],by simp -dsimp -implicitDefEqProofs only [go_sem,seval,h45,i4], ?_,by simp -dsimp -implicitDefEqProofs only [go_sem,seval,h15,i1]⟩,fun q _ hq=>by simp -dsimp -implicitDefEqProofs only [go_sem,seval,hq]⟩
    simp -dsimp -implicitDefEqProofs only [go_sem,seval,Nat.mul_one,List.append_assoc,w2]
   ·simp -dsimp -implicitDefEqProofs only [go_sem,seval,ho,hn,i5,v2,c1,hkk]
    refine ⟨⟨l1,by simp [l2],by simp -dsimp -implicitDefEqProofs only [go_sem,seval,h45,i4], ?_,by simp -dsimp -implicitDefEqProofs only [go_sem,seval,h15,i1]⟩,fun q _ hq=>by simp -dsimp -implicitDefEqProofs only [go_sem,seval,hq]⟩
    simp -dsimp -implicitDefEqProofs only [go_sem,seval,Nat.mul_one,List.append_assoc,w2]
  ·have m1:markS 3 s.1 x=s.1.set x.n.toNat true:=by simp [markS,ho]
   have m2:markS 2 s.2 x=s.2:=by simp [markS,ho]
   rw [m1,m2]
   rcases hsh with rfl | ⟨k,rfl,hkk⟩
   ·simp -dsimp -implicitDefEqProofs only [go_sem,seval,ho,hn,i4,v1,c1]
    refine ⟨⟨by simp [l1],l2, ?_,by simp -dsimp -implicitDefEqProofs only [go_sem,seval,Ne.symm h45,i5],by simp -dsimp -implicitDefEqProofs only [go_sem,seval,h14,i1]⟩,fun q hq _=>by simp -dsimp -implicitDefEqProofs only [go_sem,seval,hq]⟩
    simp -dsimp -implicitDefEqProofs only [go_sem,seval,Nat.mul_one,List.append_assoc,w1]
   ·simp -dsimp -implicitDefEqProofs only [go_sem,seval,ho,hn,i4,v1,c1,hkk]
    refine ⟨⟨by simp [l1],l2, ?_,by simp -dsimp -implicitDefEqProofs only [go_sem,seval,Ne.symm h45,i5],by simp -dsimp -implicitDefEqProofs only [go_sem,seval,h14,i1]⟩,fun q hq _=>by simp -dsimp -implicitDefEqProofs only [go_sem,seval,hq]⟩
    simp -dsimp -implicitDefEqProofs only [go_sem,seval,Nat.mul_one,List.append_assoc,w1]
end Rg
end
section
-- FULL
namespace Rg
open Go
theorem foldl_pair {α β γ:Type} (f:α->γ->α) (g:β->γ->β) : ∀ (l:List γ) (a:α) (b:β),l.foldl (fun s x=>(f s.1 x,g s.2 x)) (a,b)=(l.foldl f a,l.foldl g b)
 | [],a,b=>rfl
 | x::l,a,b=>by simp only [List.foldl_cons]; exact foldl_pair f g l _ _
def Expr.occ (op:Int) (e:Expr):List Bool:=e.lv.foldl (markS op) (List.replicate 32 false)
def Expr.sup (op:Int) (e:Expr):List Int:=if e.formed then marked (e.occ op) 32 else []
theorem occ_len (op:Int) (e:Expr):(e.occ op).length=32:=by
 unfold Expr.occ
 generalize e.lv=l
 have : ∀ (l:List Expr) (s:List Bool),(l.foldl (markS op) s).length=s.length:=by
  intro l
  induction l with
  | nil=>intro s; rfl
  | cons x l ih=>intro s; rw [List.foldl_cons,ih,markS_len]
 rw [this]; simp
theorem deep_lcS (d:Nat) : ∀ e:Expr,e.deep d=true->e.allE (fun x=>lcS x&&decide (x.kids.length<=3))=true:=by
 induction d with
 | zero=>intro e h; simp [Expr.deep] at h
 | succ d ih =>
   intro e h
   rw [Expr.allE_eq]
   have hn:=deep_node h
   simp only [Bool.and_eq_true,List.all_eq_true,decide_eq_true_eq,lcS]
   refine ⟨⟨⟨nodeOk_n hn,fun hk => ?_⟩,nodeOk_len hn⟩,fun k hk => ?_⟩
   ·have ha:=node_arity hn
    have hw:=node_w hn
    rw [hk] at ha
    obtain ⟨op,w,n,ks⟩:=e
    simp only [go_sem] at *
    rcases op_cases op with hh | hh | hh | hh | hh | hh | hh | hh | hh | hh | hh | hh | hh | hh | hop
    ·exact .inl hh
    ·refine .inr ⟨.inl hh, ?_⟩
     rw [nodeOk_leaf (by omega) hw] at hn
     simp [hh] at hn; omega
    ·refine .inr ⟨.inr hh, ?_⟩
     rw [nodeOk_leaf (by omega) hw] at hn
     simp [hh] at hn; omega
    all_goals (try (rw [hh] at ha; simp [arity] at ha; done))
    rw [arity_bad hop] at ha; simp at ha
   ·have:=ih k (deep_kid h hk)
    simpa only [lcS] using this
end Rg
end
section
namespace Rg
open Go
namespace Expr
mutual
def beq:Expr->Expr->Bool
 | .mk o w n k, .mk o' w' n' k' => decide (o=o' /\ w=w' /\ n=n')&&beqs k k'
def beqs:List Expr->List Expr->Bool
 | [],[]=>true
 | e::r,e' :: r' => beq e e' && beqs r r'
 | _,_=>false
end
end Expr
abbrev num (z:Int):List UInt8:=Go.Lib.itoa z
def Bld (h:Nat->Option O) (k:Nat) (l:List UInt8):Prop :=
 (h k=some (.raw (.bld none))/\l=[]) \/ ∃ g,h k=some (.raw (.bld (some g)))/\h g=some (.raw (.buf l))/\l≠[]
def KeepR (h h' : Nat->Option O):Prop := ∀ k o,h k=some o->(∀ x,o ≠ .raw x)->h' k=some o
theorem KeepR.refl (h:Nat->Option O):KeepR h h:=fun _ _ h _=>h
theorem KeepR.trans {a b c:Nat->Option O} (h1:KeepR a b) (h2:KeepR b c):KeepR a c:=fun k o h ho=>h2 k o (h1 k o h ho) ho
def Fresh (h:Nat->Option O) (n:Nat):Prop := ∀ q,n<=q->h q=none
theorem Fresh.upd {h:Nat->Option O} {n k:Nat} {o:O} (hf:Fresh h n) (hk:k<n):Fresh (updC h k (some o)) n:=by
 intro q hq
 rw [updC_at,if_neg (by omega)]; exact hf q hq
theorem Fresh.mono {h:Nat->Option O} {n m:Nat} (hf:Fresh h n) (hm:n<=m):Fresh h m:=fun q hq=>hf q (by omega)
def opName (op:Int):List UInt8 :=
 if op=4 then [110,111,116] else if op=5 then [97,110,100] else if op=6 then [111,114] else if op=7 then [120,111,114] else if op=8 then [97,100,100]
 else if op=9 then [115,117,98] else if op=10 then [109,117,108] else if op=11 then [101,113] else if op=12 then [108,116] else if op=13 then [108,101] else [105,116,101]
def letter (op:Int):List UInt8:=if op=2 then [99] else if op=3 then [111] else []
def commas:List (List UInt8)->List UInt8
 | []=>[]
 | [x]=>x
 | x::r=>x++44::commas r
namespace Expr
mutual
def txt:Expr->List UInt8
 | .mk op w n ks=>if op=1\/op=2\/op=3 then letter op++num n++[58]++num w else opName op++[40]++commas (txts ks)++[41]
def txts:List Expr->List (List UInt8)
 | []=>[]
 | e::r=>txt e::txts r
end
end Expr
end Rg
end
section
set_option maxRecDepth 100000
namespace Rg
open Go
def Expr.text (e:Expr):List UInt8:=if e.formed then e.txt else []
end Rg
end
section
set_option maxRecDepth 100000
namespace Rg
open Go
end Rg
end
section
namespace Rg
open Go
def OwnB (h:Nat->Option O) (x:Nat) (v:V) (sz:Nat) (rows:List (List V)):Prop :=
 (v = .t .nils/\rows=[]) \/ ∃ k,v = .ms k 0 rows.length/\k<x/\h k=some (.rows sz rows false)
theorem OwnB.rowsS {h:Nat->Option O} {x:Nat} {v:V} {sz:Nat} {rows:List (List V)} (o:OwnB h x v sz rows):rowsS h v=some rows:=by
 rcases o with ⟨rfl,rfl⟩ | ⟨k,rfl,_,hk⟩
 ·rfl
 ·simp [Rg.rowsS,hk,rd]
theorem OwnB.lenS {h:Nat->Option O} {x:Nat} {v:V} {sz:Nat} {rows:List (List V)} (o:OwnB h x v sz rows):lenS h v=some rows.length:=by
 rcases o with ⟨rfl,rfl⟩ | ⟨k,rfl,_,hk⟩
 ·rfl
 ·simp [Rg.lenS,hk]
theorem OwnB.valOf {h:Nat->Option O} {x:Nat} {v:V} {sz:Nat} {rows:List (List V)} (o:OwnB h x v sz rows):valOf v=some v:=by
 rcases o with ⟨rfl,rfl⟩ | ⟨k,rfl,_,hk⟩ <;> rfl
theorem putA_app {h:Nat->Option O} {x q sz bytes:Nat} {u:V} {a b:List (List V)} {K:V->List (Nat×O)->Prop} {w:WK K}
 (ho:OwnB h x u sz a) (hx:x<=q) (hlen:a.length+b.length<=2^32) (hby:bytes<=2^12) (hb:(b.all fun r=>decide (r.length=sz))=true) (ha:(a.all fun r=>decide (r.length=sz))=true)
 (hK : ∀ v hp,OwnB (hpC h hp) (q+1) v sz (a++b)->(∀ j,j<q->(∀ i n,u ≠ .ms j i n)->hpC h hp j=h j)->(∀ j,q<j->hpC h hp j=h j)->K v hp) :
 putA false (appS h q sz bytes u a b) K w:=by
 unfold appS
 rw [if_pos ⟨⟨hlen,hby⟩,hb,ha⟩]
 cases b with
 | nil =>
   simp only [List.isEmpty_nil,if_true,putA_some]
   refine hK _ _ ?_ (fun j _ _=>by rw [hpC_nil]) (fun j _=>by rw [hpC_nil])
   rw [hpC_nil,List.append_nil]
   rcases ho with h1 | ⟨k,h1,h2,h3⟩
   ·exact .inl h1
   ·exact .inr ⟨k,h1,by omega,h3⟩
 | cons r b =>
   simp only [List.isEmpty_cons,Bool.false_eq_true,if_false]
   rcases ho with ⟨rfl,rfl⟩ | ⟨k,rfl,hk,hh⟩
   ·simp only [putA_some]
    refine hK _ _ (.inr ⟨q,rfl,by omega, ?_⟩) (fun j hj _ => ?_) (fun j hj => ?_)
    ·simp [hpC_cons,hpC_nil,updC_at]
    ·have:j≠q:=by omega
     simp [hpC_cons,hpC_nil,updC_at,this]
    ·have:j≠q:=by omega
     simp [hpC_cons,hpC_nil,updC_at,this]
   ·simp only [hh,and_self,if_true,putA_some,appRows_self]
    refine hK _ _ (.inr ⟨q,by rw [List.length_append],by omega, ?_⟩) (fun j hj hne => ?_) (fun j hj => ?_)
    ·simp [hpC_cons,hpC_nil,updC_at]
    ·have h1:j≠q:=by omega
     have h2:j≠k:=by rintro rfl; exact hne 0 _ rfl
     simp [hpC_cons,hpC_nil,updC_at,h1,h2]
    ·have h1:j≠q:=by omega
     have h2:j≠k:=by omega
     simp [hpC_cons,hpC_nil,updC_at,h1,h2]
theorem sup_len (op:Int) (e:Expr):(e.sup op).length<=32:=by
 unfold Expr.sup
 split
 ·unfold marked; rw [List.length_map]; exact Nat.le_trans (List.length_filter_le _ _) (by simp)
 ·simp
theorem OwnB.upd {h:Nat->Option O} {x:Nat} {v:V} {sz:Nat} {rows:List (List V)} (o:OwnB h x v sz rows) {q:Nat} (hq:x<=q) (b:Option O):OwnB (updC h q b) (q+1) v sz rows:=by
 rcases o with o | ⟨k,h1,h2,h3⟩
 ·exact .inl o
 ·exact .inr ⟨k,h1,by omega,by rw [updC_at,if_neg (by omega)]; exact h3⟩
theorem OwnB.le {h:Nat->Option O} {x y:Nat} {v:V} {sz:Nat} {rows:List (List V)} (o:OwnB h x v sz rows) (hq:x<=y):OwnB h y v sz rows:=by
 rcases o with o | ⟨k,h1,h2,h3⟩
 ·exact .inl o
 ·exact .inr ⟨k,h1,by omega,h3⟩
theorem OwnB.r1 {h:Nat->Option O} {x:Nat} {v:V} {sz:Nat} {rows:List (List V)} (o:OwnB h x v sz rows) (a:Nat) (b:Option O):Rg.rowsS (updC h (x+a) b) v=some rows:=(o.upd (by omega) b).rowsS
theorem OwnB.r2 {h:Nat->Option O} {x:Nat} {v:V} {sz:Nat} {rows:List (List V)} (o:OwnB h x v sz rows) (a c:Nat) (b:Option O):Rg.rowsS (updC h (x+a+c) b) v=some rows:=(o.upd (by omega) b).rowsS
theorem OwnB.r3 {h:Nat->Option O} {x:Nat} {v:V} {sz:Nat} {rows:List (List V)} (o:OwnB h x v sz rows) (a c d:Nat) (b:Option O):Rg.rowsS (updC h (x+a+c+d) b) v=some rows:=(o.upd (by omega) b).rowsS
theorem OwnB.r4 {h:Nat->Option O} {x:Nat} {v:V} {sz:Nat} {rows:List (List V)} (o:OwnB h x v sz rows) (a c d e:Nat) (b:Option O):Rg.rowsS (updC h (x+a+c+d+e) b) v=some rows:=(o.upd (by omega) b).rowsS
theorem OwnB.r5 {h:Nat->Option O} {x:Nat} {v:V} {sz:Nat} {rows:List (List V)} (o:OwnB h x v sz rows) (a c d e f:Nat) (b:Option O):Rg.rowsS (updC h (x+a+c+d+e+f) b) v=some rows:=(o.upd (by omega) b).rowsS
theorem OwnB.reify {h:Nat->Option O} {x:Nat} {v:V} {sz:Nat} {es:List (List T)} (o:OwnB h x v sz (es.map (·.map V.t))) (hn : ∀ e∈es, ∀ t∈e,T.norm t=t):Rg.reify h v=some (.t (.sl es)):=by
 have:=own_reify o hn
 rcases o with ⟨rfl,he⟩ | ⟨k,rfl,_,_⟩
 ·have:es=[]:=by simpa using he
  subst this; rfl
 ·simp only [Rg.reify,toT1,this,Option.map_some]
theorem OwnB.one {h:Nat->Option O} {x:Nat} {v:V} {sz:Nat} {rows:List (List V)} (o:OwnB h x v sz rows):v.one=true:=by
 rcases o with ⟨rfl,_⟩ | ⟨k,rfl,_,_⟩ <;> rfl
theorem OwnB.resVal {h:Nat->Option O} {x:Nat} {v:V} {sz:Nat} {rows:List (List V)} (o:OwnB h x v sz rows):Rg.resVal v=some v:=by
 rcases o with ⟨rfl,_⟩ | ⟨k,rfl,_,_⟩ <;> rfl
def offK (v:V) (k:Nat):Prop := ∀ i n,v ≠ .ms k i n
theorem offK_ms {q k:Nat} (h:k≠q) (i n:Nat):offK (.ms q i n) k:=by
 intro i' n' he; cases he; exact h rfl
theorem OwnB.off {h:Nat->Option O} {x:Nat} {v:V} {sz:Nat} {rows:List (List V)} (o:OwnB h x v sz rows) {k:Nat} (hk:x<=k):offK v k:=by
 rcases o with ⟨rfl,_⟩ | ⟨k',rfl,h2,_⟩
 ·intro i n he; cases he
 ·exact offK_ms (by omega) _ _
theorem putA_app1 {h:Nat->Option O} {x q sz bytes:Nat} {u:V} {a:List (List V)} {r:List V} {K:V->List (Nat×O)->Prop} {w:WK K}
 (ho:OwnB h x u sz a) (hx:x<=q) (hlen:a.length<2^32) (hby:bytes<=2^12) (hb:r.length=sz) (ha:(a.all fun r=>decide (r.length=sz))=true)
 (hK : ∀ v hp,OwnB (hpC h hp) (q+1) v sz (a++[r])->(∀ j,j<x->offK v j)->(∀ j,j<x->offK u j->hpC h hp j=h j)->K v hp) :
 putA false (appS h q sz bytes u a [r]) K w:=by
 unfold appS
 rw [if_pos ⟨⟨by simp; omega,hby⟩,by simp [hb],ha⟩]
 simp only [List.isEmpty_cons,Bool.false_eq_true,if_false]
 rcases ho with ⟨rfl,rfl⟩ | ⟨k,rfl,hk,hh⟩
 ·simp only [putA_some]
  refine hK _ _ (.inr ⟨q,rfl,by omega, ?_⟩) (fun j hj=>offK_ms (by omega) _ _) (fun j hj _ => ?_)
  ·simp [hpC_cons,hpC_nil,updC_at]
  ·have:j≠q:=by omega
   simp [hpC_cons,hpC_nil,updC_at,this]
 ·simp only [hh,and_self,if_true,putA_some,appRows_self]
  refine hK _ [(k, .dead),(q, .rows sz (a++[r]) false)] (.inr ⟨q,by rw [List.length_append],by omega,by simp [hpC_cons,hpC_nil,updC_at]⟩) (fun j hj=>offK_ms (by omega) _ _) (fun j hj hne => ?_)
  have h1:j≠q:=by omega
  have h2:j≠k:=by rintro rfl; exact hne 0 _ rfl
  simp [hpC_cons,hpC_nil,updC_at,h1,h2]
theorem OwnB.keep {h h' : Nat->Option O} {x y:Nat} {v:V} {sz:Nat} {rows:List (List V)} (o:OwnB h x v sz rows) (hxy:x<=y) (hh : ∀ k,k<x -> ¬ offK v k->h' k=h k):OwnB h' y v sz rows:=by
 rcases o with o | ⟨k,rfl,h2,h3⟩
 ·exact .inl o
 ·exact .inr ⟨k,rfl,by omega,by rw [hh k h2 (fun h0=>h0 _ _ rfl)]; exact h3⟩
theorem freK_of {h:Nat->Option O} {key g sz:Nat} {vs rs:List V} {es:List (List T)} {K:V->List (Nat×O)->Prop} {w:WK K} (ht:vs.all V.tree=true) (hrs:vs.mapM (toT1 h)=some rs)
 (hd : ∃ r h' n',DenR Γ G g rs (fun _=>none) 0=some (r,h',n')/\OwnB h' n' r sz (es.map (·.map V.t)))
 (hK : ∀ v hp,OwnB (hpC h hp) (key+1) v sz (es.map (·.map V.t))->(∀ j,j≠key->hpC h hp j=h j)->(∀ j,j≠key->offK v j)->K v hp):freK (Γ:=Γ) (G:=G) false h key g vs K w:=by
 obtain ⟨r,h',n',hden,hown⟩:=hd
 have hreach:vs.flatMap (reach1 h)=[]:=by
  simp only [List.flatMap_eq_nil_iff]
  intro v hv
  exact reach_tree (List.all_eq_true.1 ht v hv)
 refine ⟨rfl,hreach,rs,hrs,r,h',n',hden, ?_⟩
 rcases hown with ⟨rfl,he⟩ | ⟨k,rfl,hk,hh⟩
 ·refine ⟨{ val:=.t .nils },rfl,hK _ _ (.inl ⟨rfl,he⟩) (fun j _=>by rw [hpC_nil]) (fun j _ i n h=>by cases h)⟩
 ·have hall:(es.map (·.map V.t)).all (fun row=>row.all V.isTr)=true:=by
   simp [V.isTr]
  refine ⟨{ val:=.ms key 0 (es.map (·.map V.t)).length,hp:=[(key, .rows sz (es.map (·.map V.t)) false)] }, ?_,hK _ _ (.inr ⟨key,rfl,by omega,by simp [hpC_cons,hpC_nil,updC_at]⟩) (fun j hj=>by simp [hpC_cons,hpC_nil,updC_at,hj]) (fun j hj=>offK_ms (by omega) _ _)⟩
  simp only [ownR,hh]
  rw [if_pos ⟨trivial,trivial,hall⟩]
def NxtLe:Task->Out->Prop
 | .code _ s, .code _ s' => s.nxt<=s'.nxt
 | .loop _ s, .code _ s' => s.nxt<=s'.nxt
 | .ops _ _ _ s, .ops s' => s.nxt<=s'.nxt
 | .rcall _ _ _ n, .vals _ _ n' => n<=n'
 | _,_=>True
theorem big_nxt {Γ:Nat->Option F} {G:Nat->List T} {t:Task} {o:Out} (h:Big Γ G t o):NxtLe t o:=by
 induction h with
 | rext hg hr hb h=>exact (ext_frame h).1
 | opsYield hw hf ho hfv hkk hvs hlen hca hk1 hcb hk2 h iha ihb ih =>
   simp only [NxtLe,St.apply,roundSt] at *
   omega
 | _=>simp_all [NxtLe,St.begin,St.apply,St.init] <;> omega
theorem denR_nxt {Γ:Nat->Option F} {G:Nat->List T} {g:Nat} {args:List V} {h h' : Nat->Option O} {n n' : Nat} {r:V} (hd:DenR Γ G g args h n=some (r,h',n')):n<=n' := big_nxt (denR_iff.1 hd)
theorem nxt_of {Γ:Nat->Option F} {G:Nat->List T} {g:Nat} {args:List V} {h:Nat->Option O} {n:Nat} {P:V->(Nat->Option O)->Nat->Prop} (hd : ∃ r h' n',DenR Γ G g args h n=some (r,h',n')/\P r h' n') :
 ∃ r h' n',DenR Γ G g args h n=some (r,h',n')/\(P r h' n' /\ n<=n') :=
 let ⟨r,h',n',h1,h2⟩:=hd
 ⟨r,h',n',h1,h2,denR_nxt h1⟩
theorem supportP_den (e:Expr) (H0:Nat->Option O) (n0:Nat) :
 ∃ r h' n',DenR Γ G 60 [(.agg [.t (ti (e).op), .t (ti (e).w), .t (ti (e).n), .t (.sl ((e).kids.map (Expr.enc)))])] H0 n0=some (r,h',n') /\ ∃ v3 v2,r = .tup [v3,v2]/\OwnB h' n' v3 1 (rowsI (e.sup 3))/\OwnB h' n' v2 1 (rowsI (e.sup 2))/\n0<=n' /\ ∀ k,k<n0->h' k=H0 k/\offK v3 k/\offK v2 k:=by
 (refine denR_ofY Γ60 rfl ?_; dsimp only [f60])
 have h1:=wellFormed_den e
 by_cases hf:e.formed=true
 ·simp -dsimp -implicitDefEqProofs only [go_sem,seval,h1,hf]
  have hd:=formed_deep hf
  refine rawK_of (nxt_of (leaves_den 77 _ (fun s h=>IS (n0+0) (n0+3+3+0) (n0+3+3+1) e s h /\ ∀ k,k<n0->h k=H0 k) (fun s x=>(markS 3 s.1 x,markS 2 s.2 x)) lcS ?_ e _ (List.replicate 32 false,List.replicate 32 false) _ _ (deep_lcS 40 e hd) ⟨⟨rfl,rfl, ?_, ?_, ?_⟩, ?_⟩ (fun s h hI => .inr ⟨n0+0,false,rfl,hI.1.2.2.2.2⟩))) ?_
  ·rintro s h n v x ⟨hI,hkp⟩ hk hl hs
   obtain ⟨r,h',n',hd,hI',hkp'⟩:=support1_den (n0+0) (n0+3+3+0) (n0+3+3+1) e (by omega) (by omega) (by omega) s h n v x hI hk hl hs
   exact ⟨r,h',n',hd,hI',fun k hk=>(hkp' k (by omega) (by omega)).trans (hkp k hk)⟩
  ·rw [updC_at,if_neg (by omega),updC_at,if_pos rfl]; rfl
  ·rw [updC_at,if_pos rfl]; rfl
  ·rw [updC_at,if_neg (by omega),updC_at,if_neg (by omega),updC_at,if_pos rfl]
  ·intro k hk
   rw [updC_at,if_neg (by omega),updC_at,if_neg (by omega),updC_at,if_neg (by omega)]
  rintro r h' n' ⟨⟨hI,hkp⟩,hnn⟩
  rw [foldl_pair] at hI
  obtain ⟨l1,l2,i4,i5,i1⟩:=hI
  change h' (n0+3+3+0)=some (.rows 32 [vbs (e.occ 3)] false) at i4
  change h' (n0+3+3+1)=some (.rows 32 [vbs (e.occ 2)] false) at i5
  have o3:=occ_len 3 e
  have o2:=occ_len 2 e
  have v3:(vbs (e.occ 3)).length=32:=by simp [vbs,o3]
  have v2:(vbs (e.occ 2)).length=32:=by simp [vbs,o2]
  have t3:List.take 32 (vbs (e.occ 3))=vbs (e.occ 3):=List.take_of_length_le (by omega)
  have t2:List.take 32 (vbs (e.occ 2))=vbs (e.occ 2):=List.take_of_length_le (by omega)
  have m3:=members_den (e.occ 3) o3
  have m2:=members_den (e.occ 2) o2
  change ∃ r h' n',DenR Γ G 78 [V.agg (vbs (e.occ 3))] (fun _=>none) 0=some (r,h',n')/\_ at m3
  change ∃ r h' n',DenR Γ G 78 [V.agg (vbs (e.occ 2))] (fun _=>none) 0=some (r,h',n')/\_ at m2
  have tr : ∀ l:List Bool,[V.agg (vbs l)].all V.tree=true:=fun l=>by
   simp only [List.all_cons,List.all_nil,Bool.and_true,V.tree,vbs,List.all_map,List.all_eq_true]; intros; rfl
  have mt : ∀ (g:Nat->Option O) (l:List Bool),[V.agg (vbs l)].mapM (toT1 g)=some [V.agg (vbs l)]:=fun g l=>by
   have:List.mapM (toT g 1000) (vbs l)=some (l.map fun b=>tb b):=by
    refine mapM_some_of _ _ _ (fun i a ha => ?_) (by simp [vbs])
    rw [vbs,List.getElem?_map] at ha
    rw [List.getElem?_map]
    cases hb:l[i]? with
    | none=>rw [hb] at ha; simp at ha
    | some x=>rw [hb] at ha; simp at ha; subst ha; exact ⟨_,rfl,rfl⟩
   have h2:List.map V.t (l.map fun b=>tb b)=vbs l:=by simp [vbs]
   simp only [List.mapM_cons,List.mapM_nil,toT1,this,Option.map_some,h2]; rfl
  simp -dsimp -implicitDefEqProofs only [go_sem,seval,i4,v3,t3]
  refine freK_of (tr _) (mt _ _) m3 ?_
  intro w3 hp3 hO3 hk3 hf3
  have x3:=hO3.valOf
  have i5' := (hk3 (n0+3+3+1) (by omega)).trans i5
  simp -dsimp -implicitDefEqProofs only [go_sem,seval,i5',v2,t2,x3]
  refine freK_of (tr _) (mt _ _) m2 ?_
  intro w2 hp2 hO2 hk2 hf2
  have x2:=hO2.valOf
  have y3:=hO3.resVal
  have y2:=hO2.resVal
  simp only [Rg.resVal] at y3 y2
  simp -dsimp -implicitDefEqProofs only [go_sem,seval,x3,x2,y3,y2]
  have hs : ∀ op,marked (e.occ op) 32=e.sup op:=fun op=>by simp [Expr.sup,hf]
  have hO3' := hO3.keep (y:=n' + 6) (h' := hpC (hpC h' hp3) hp2) (by omega) (fun k hk _=>hk2 k (by omega))
  have ha : ∀ l:List ROp,l.length=6->addC n' l=n' + 6:=fun l hl=>by rw [addC_eq]; simp [hl]
  refine ⟨w3,w2,rfl, ?_, ?_, ?_,fun k hk=>⟨?_,hf3 k (by omega),hf2 k (by omega)⟩⟩
  ·rw [<- hs 3,ha _ rfl]; exact hO3'
  ·rw [<- hs 2,ha _ rfl]; exact hO2.le (by omega)
  ·rw [ha _ rfl]; omega
  ·rw [hk2 k (by omega),hk3 k (by omega)]; exact hkp k hk
 ·have hf:e.formed=false:=by simpa using hf
  simp -dsimp -implicitDefEqProofs only [go_sem,seval,h1,hf]
  have hs : ∀ op,e.sup op=[]:=fun op=>by simp [Expr.sup,hf]
  rw [hs,hs]
  exact ⟨_,_,rfl, .inl ⟨rfl,rfl⟩, .inl ⟨rfl,rfl⟩,Nat.le_trans (addC_le _ _) (Nat.le_trans (addC_le _ _) (addC_le _ _)),fun k hk=>⟨by rw [updC_at,if_neg (by omega)],(fun i n h=>by cases h),(fun i n h=>by cases h)⟩⟩
end Rg
end
