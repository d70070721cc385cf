/- Part of the proof of the laws of the package relyguardlaw07: an abstract machine for the program's functions, what they compute, and that the machine is the program's. No condition. (H34a H34b) -/
import Derived.Test.YtamaecmfhphpeaaGreatDoorPartAZ
import Derived.Test.YtamaecmfhphpeaaGreatDoorPartAY
set_option linter.unusedSimpArgs false
set_option linter.unusedVariables false
section
set_option maxRecDepth 100000
namespace Rg
open Go
theorem tw_inj {α:Type} (P:α->Bool) {y a b:List α} : ∀ {x:List α},(∀ c∈x,P c=true)->(∀ c∈y,P c=true)->(∀ c r,a=c::r->P c=false)->(∀ c r,b=c::r->P c=false)->x++a=y++b->x=y/\a=b:=by
 intro x
 induction x generalizing y with
 | nil =>
  intro hx hy ha hb h
  cases y with
  | nil=>exact ⟨rfl,h⟩
  | cons c y =>
   have h1:=ha c (y++b) (by simpa using h)
   rw [hy c (by simp)] at h1; cases h1
 | cons d x ih =>
  intro hx hy ha hb h
  cases y with
  | nil =>
   have h1:=hb d (x++a) (by simpa using h.symm)
   rw [hx d (by simp)] at h1; cases h1
  | cons c y =>
   simp only [List.cons_append,List.cons.injEq] at h
   obtain ⟨h1,h2⟩:=ih (fun c hc=>hx c (by simp [hc])) (fun c hc=>hy c (by simp [hc])) ha hb h.2
   exact ⟨by rw [h.1,h1],h2⟩
def isDig (c:UInt8):Bool:=decide (48<=c.toNat/\c.toNat<=57)
def valD (l:List UInt8):Nat:=l.foldl (fun a c=>10*a+(c.toNat-48)) 0
theorem dec_dig : ∀ (u:Nat), ∀ c∈Go.Lib.decDigits u,isDig c=true:=by
 intro u
 induction u using Nat.strongRecOn with
 | _ u ih =>
 intro c hc
 rw [Go.Lib.decDigits] at hc
 split at hc
 ·simp only [List.mem_singleton] at hc
  subst hc
  have:u<10:=by assumption
  simp only [isDig,decide_eq_true_eq,UInt8.toNat_ofNat']
  omega
 ·rcases List.mem_append.1 hc with hc | hc
  ·exact ih (u / 10) (by omega) c hc
  ·simp only [List.mem_singleton] at hc
   subst hc
   simp only [isDig,decide_eq_true_eq,UInt8.toNat_ofNat']
   omega
theorem dec_val : ∀ (u:Nat),valD (Go.Lib.decDigits u)=u:=by
 intro u
 induction u using Nat.strongRecOn with
 | _ u ih =>
 rw [Go.Lib.decDigits]
 split
 ·have:u<10:=by assumption
  simp only [valD,List.foldl_cons,List.foldl_nil,UInt8.toNat_ofNat']
  omega
 ·have h1:=ih (u / 10) (by omega)
  unfold valD at h1 ⊢
  rw [List.foldl_append,h1]
  simp only [List.foldl_cons,List.foldl_nil,UInt8.toNat_ofNat']
  omega
theorem num_ge (z:Int) : ∀ c∈num z,33<=c.toNat:=by
 intro c hc
 unfold num Go.Lib.itoa at hc
 split at hc
 ·rcases List.mem_cons.1 hc with rfl | hc
  ·decide
  ·have:=dec_dig _ c hc
   simp only [isDig,decide_eq_true_eq] at this; omega
 ·have:=dec_dig _ c hc
  simp only [isDig,decide_eq_true_eq] at this; omega
theorem num_dig {z:Int} (h:0<=z) : ∀ c∈num z,isDig c=true:=by
 intro c hc
 unfold num Go.Lib.itoa at hc
 rw [if_neg (by omega)] at hc
 exact dec_dig _ c hc
theorem num_inj {a b:Int} (h:num a=num b):a=b:=by
 unfold num Go.Lib.itoa at h
 have no : ∀ (u:Nat) (l:List UInt8),¬ Go.Lib.decDigits u=45::l:=fun u l h=>by
  have:=dec_dig u 45 (by rw [h]; simp)
  revert this; decide
 split at h <;> split at h
 ·simp only [List.cons.injEq,true_and] at h
  have:=congrArg valD h
  rw [dec_val,dec_val] at this; omega
 ·exact absurd h.symm (no _ _)
 ·exact absurd h (no _ _)
 ·have:=congrArg valD h
  rw [dec_val,dec_val] at this; omega
theorem byt_inj {a b:ByteArray} (h:byt a=byt b):a=b:=by
 rw [<- bs_of a, <- bs_of b]; unfold byt at h; rw [h]
theorem flagT_inj {a b:Bool} (h:flagT a=flagT b):a=b:=by
 cases a <;> cases b <;> first | rfl | (revert h; decide)
theorem label_ge {b:ByteArray} (h:isLabel b=true) : ∀ c∈byt b,33<=c.toNat:=by
 intro c hc
 simp only [isLabel,Bool.and_eq_true,List.all_eq_true] at h
 obtain ⟨i,hi,rfl⟩:=List.mem_iff_getElem.1 hc
 have hbl:(byt b).length=b.size:=by rw [Array.length_toList]; rfl
 have hi' : i<b.size:=by omega
 have h1:=h.2 i (List.mem_range.2 hi')
 unfold byteOk at h1
 have e:b[i]? = some b[i]:=by simp [hi']
 rw [e] at h1
 simp only [decide_eq_true_eq] at h1
 have e2:(byt b)[i]=b[i]:=by simp [ByteArray.getElem_eq_getElem_data]
 rw [e2]
 exact h1.1
theorem deep_all : ∀ (d:Nat) (e:Expr),e.deep d=true->e.allE nodeOk=true:=by
 intro d
 induction d with
 | zero=>intro e h; simp [Expr.deep] at h
 | succ d ih =>
  intro e h
  simp only [Expr.deep,Bool.and_eq_true,List.all_eq_true] at h
  rw [Expr.allE_eq]
  simp only [Bool.and_eq_true,List.all_eq_true]
  exact ⟨h.1,fun k hk=>ih k (h.2 k hk)⟩
theorem formed_all {e:Expr} (h:e.formed=true):e.allE nodeOk=true:=deep_all 40 e (formed_deep h)
theorem commas_mem {c:UInt8} : ∀ {l:List (List UInt8)},c∈commas l->c=44 \/ ∃ x∈l,c∈x
 | [],h=>by simp [commas] at h
 | [x],h => .inr ⟨x,by simp,by simpa [commas] using h⟩
 | x::y::r,h=>by
  rw [commas] at h
  ·rcases List.mem_append.1 h with h | h
   ·exact .inr ⟨x,by simp,h⟩
   ·rcases List.mem_cons.1 h with h | h
    ·exact .inl h
    ·rcases commas_mem h with h | ⟨z,hz,hc⟩
     ·exact .inl h
     ·exact .inr ⟨z,by simp [List.mem_cons.1 hz],hc⟩
  ·simp
theorem opName_ge (op:Int) : ∀ c∈opName op,97<=c.toNat/\c.toNat<=122:=by
 intro c hc
 unfold opName at hc
 repeat' (split at hc)
 all_goals (simp only [List.mem_cons,List.not_mem_nil,or_false] at hc; rcases hc with rfl | rfl | rfl <;> decide)
theorem letter_ge (op:Int) : ∀ c∈letter op,97<=c.toNat/\c.toNat<=122:=by
 intro c hc
 unfold letter at hc
 repeat' (split at hc)
 all_goals (first | (simp only [List.mem_cons,List.not_mem_nil,or_false] at hc; subst hc; decide) | simp at hc)
theorem txt_ge (e:Expr) : ∀ c∈e.txt,33<=c.toNat:=by
 induction e using Expr.ind with
 | _ e ih =>
 intro c hc
 rw [Expr.txt_eq] at hc
 split at hc
 ·simp only [List.mem_append,List.mem_singleton] at hc
  rcases hc with ((hc | hc) | rfl) | hc
  ·have:=letter_ge _ c hc; omega
  ·exact num_ge _ c hc
  ·decide
  ·exact num_ge _ c hc
 ·simp only [List.mem_append,List.mem_singleton] at hc
  rcases hc with ((hc | rfl) | hc) | rfl
  ·have:=opName_ge _ c hc; omega
  ·decide
  ·rcases commas_mem hc with rfl | ⟨x,hx,hc⟩
   ·decide
   ·obtain ⟨k,hk,rfl⟩:=List.mem_map.1 hx
    exact ih k hk c hc
  ·decide
theorem text_ge (e:Expr) : ∀ c∈e.text,33<=c.toNat:=by
 unfold Expr.text
 split
 ·exact txt_ge e
 ·simp
theorem rely_ge (e:Expr) : ∀ c∈relyT e,33<=c.toNat:=by
 unfold relyT
 split
 ·decide
 ·exact text_ge e
def endsE (r:List UInt8):Prop := ∀ c t,r=c::t->c=44\/c=41
theorem opName_inj {a b:Int} (ha:4<=a/\a<=14) (hb:4<=b/\b<=14) (h:opName a=opName b):a=b:=by
 have c1:a=4\/a=5\/a=6\/a=7\/a=8\/a=9\/a=10\/a=11\/a=12\/a=13\/a=14:=by omega
 have c2:b=4\/b=5\/b=6\/b=7\/b=8\/b=9\/b=10\/b=11\/b=12\/b=13\/b=14:=by omega
 rcases c1 with rfl | rfl | rfl | rfl | rfl | rfl | rfl | rfl | rfl | rfl | rfl <;>
  rcases c2 with rfl | rfl | rfl | rfl | rfl | rfl | rfl | rfl | rfl | rfl | rfl <;> first | rfl | (exfalso; revert h; decide)
theorem node_op {e:Expr} (h:nodeOk e=true):1<=e.op/\e.op<=14/\arity e.op=e.kids.length:=by
 have ha:arity e.op=e.kids.length:=by
  unfold nodeOk at h
  split at h
  ·cases h
  ·rename_i h'; simp only [not_or,Decidable.not_not] at h'; exact h'.1
 refine ⟨?_, ?_,ha⟩ <;> (unfold arity at ha; repeat' (split at ha)) <;> omega
def isTok (c:UInt8):Bool := !(decide (c=40)||decide (c=58))
theorem tok_of {c:UInt8} (h:c.toNat≠40/\c.toNat≠58):isTok c=true:=by
 unfold isTok
 have h1:c≠40:=by rintro rfl; exact h.1 rfl
 have h2:c≠58:=by rintro rfl; exact h.2 rfl
 simp [h1,h2]
theorem opName_tok (op:Int) : ∀ c∈opName op,isTok c=true:=fun c hc=>tok_of (by have:=opName_ge op c hc; omega)
theorem leaf_tok (op:Int) {n:Int} (h:0<=n) : ∀ c∈letter op++num n,isTok c=true:=fun c hc=>by
 rcases List.mem_append.1 hc with hc | hc
 ·exact tok_of (by have:=letter_ge op c hc; omega)
 ·have:=num_dig h c hc
  simp only [isDig,decide_eq_true_eq] at this
  exact tok_of (by omega)
theorem leaf_inj {a b n m:Int} (ha:a=1\/a=2\/a=3) (hb:b=1\/b=2\/b=3) (hn:0<=n) (hm:0<=m) (h:letter a++num n=letter b++num m):a=b/\n=m:=by
 have no : ∀ (z:Int) (c:UInt8) (l:List UInt8),0<=z->isDig c=false -> ¬ num z=c::l:=fun z c l hz hc h0=>by
  have:=num_dig hz c (by rw [h0]; simp)
  rw [hc] at this; cases this
 have l1:letter 1=[]:=rfl
 have l2:letter 2=[99]:=rfl
 have l3:letter 3=[111]:=rfl
 rcases ha with rfl | rfl | rfl <;> rcases hb with rfl | rfl | rfl <;> simp only [l1,l2,l3,List.nil_append,List.cons_append] at h
 ·exact ⟨rfl,num_inj h⟩
 ·exact absurd h (no n 99 _ hn (by decide))
 ·exact absurd h (no n 111 _ hn (by decide))
 ·exact absurd h.symm (no m 99 _ hm (by decide))
 ·exact ⟨rfl,num_inj (by simpa using h)⟩
 ·simp at h
 ·exact absurd h.symm (no m 111 _ hm (by decide))
 ·simp at h
 ·exact ⟨rfl,num_inj (by simpa using h)⟩
theorem commas_cons2 (x y:List UInt8) (r:List (List UInt8)):commas (x::y::r)=x++44::commas (y::r):=by
 rw [commas]; simp
theorem kids_inj : ∀ (l l' : List Expr),l.length=l'.length->l≠[]->(∀ k∈l,k.allE nodeOk=true)->(∀ k∈l',k.allE nodeOk=true) ->
 (∀ k∈l, ∀ (e' : Expr) (r r' : List UInt8),e'.allE nodeOk=true->endsE r->endsE r' -> k.txt++r=e'.txt++r' -> k=e' /\ r=r') ->
 ∀ (r r' : List UInt8),endsE r->endsE r' -> commas (l.map Expr.txt)++r=commas (l'.map Expr.txt)++r' -> l=l' /\ r=r'
 | [],_,_,h0,_,_,_,_,_,_,_,_=>absurd rfl h0
 | [a],[b],_,_,ha,hb,ih,r,r',hr,hr',h=>by
  obtain ⟨h1,h2⟩:=ih a (by simp) b r r' (hb b (by simp)) hr hr' (by simpa [commas] using h)
  exact ⟨by rw [h1],h2⟩
 | [a],[],hl,_,_,_,_,_,_,_,_,_=>by simp at hl
 | [a],_::_::_,hl,_,_,_,_,_,_,_,_,_=>by simp at hl
 | _::_::_,[],hl,_,_,_,_,_,_,_,_,_=>by simp at hl
 | _::_::_,[_],hl,_,_,_,_,_,_,_,_,_=>by simp at hl
 | a::c::l,b::d::l',hl,_,ha,hb,ih,r,r',hr,hr',h=>by
  simp only [List.map_cons,commas_cons2,List.append_assoc,List.cons_append] at h
  obtain ⟨h1,h2⟩:=ih a (by simp) b _ _ (hb b (by simp)) (by intro c t h0; simp only [List.cons.injEq] at h0; exact .inl h0.1.symm) (by intro c t h0; simp only [List.cons.injEq] at h0; exact .inl h0.1.symm) h
  simp only [List.cons.injEq,true_and] at h2
  obtain ⟨h3,h4⟩:=kids_inj (c::l) (d::l') (by simpa using hl) (by simp) (fun k hk=>ha k (List.mem_cons_of_mem _ hk)) (fun k hk=>hb k (List.mem_cons_of_mem _ hk))
   (fun k hk=>ih k (List.mem_cons_of_mem _ hk)) r r' hr hr' (by simpa only [List.map_cons] using h2)
  exact ⟨by rw [h1,h3],h4⟩
theorem node_wn {a b:Expr} (ha:nodeOk a=true) (hb:nodeOk b=true) (ho:a.op=b.op) (h4:4<=a.op) (hk:a.kids=b.kids):a=b:=by
 obtain ⟨o,w,n,k⟩:=a
 obtain ⟨o',w',n',k'⟩:=b
 simp only [Expr.op,Expr.kids] at ho hk h4
 subst ho hk
 have e0 : ∀ (w n:Int) (i:Nat),(Expr.mk o w n k).kw i=(k.getD i (.mk 0 0 0 [])).w:=fun _ _ _=>rfl
 unfold nodeOk at ha hb
 simp only [e0,Expr.op,Expr.w,Expr.n,Expr.kids] at ha hb
 generalize (k.getD 0 (.mk 0 0 0 [])).w=k0 at ha hb
 generalize (k.getD 1 (.mk 0 0 0 [])).w=k1 at ha hb
 generalize (k.getD 2 (.mk 0 0 0 [])).w=k2 at ha hb
 split at ha
 ·cases ha
 ·split at hb
  ·cases hb
  ·have g1 : ¬ o=1:=by omega
   have g2 : ¬ (o=2\/o=3):=by omega
   simp only [g1,g2,if_false] at ha hb
   split at ha
   ·rename_i h0; simp only [h0,if_true,decide_eq_true_eq] at ha hb; rw [<- ha.2, <- hb.2,ha.1,hb.1]
   ·rename_i h0
    simp only [h0,if_false] at hb
    split at ha
    ·rename_i h1; simp only [h1,if_true,decide_eq_true_eq] at ha hb; rw [ha.1,hb.1,ha.2.1,hb.2.1]
    ·rename_i h1
     simp only [h1,if_false] at hb
     split at ha
     ·rename_i h2; simp only [h2,if_true,decide_eq_true_eq] at ha hb; rw [ha.1,hb.1, <- ha.2.2.1, <- hb.2.2.1]
     ·rename_i h2; simp only [h2,if_false,decide_eq_true_eq] at ha hb; rw [ha.1,hb.1, <- ha.2.1, <- hb.2.1]
theorem endsE_dig {r:List UInt8} (h:endsE r) : ∀ c t,r=c::t->isDig c=false:=fun c t h0=>by
 rcases h c t h0 with rfl | rfl <;> decide
theorem txt_inj (e:Expr) : ∀ (e' : Expr) (r r' : List UInt8),e.allE nodeOk=true->e'.allE nodeOk=true->endsE r->endsE r' -> e.txt++r=e'.txt++r' -> e=e' /\ r=r' := by
 induction e using Expr.ind with
 | _ e ih =>
 intro e' r r' he he' hr hr' h
 have n1:=Expr.allE_self he
 have n2:=Expr.allE_self he'
 obtain ⟨a1,a2,a3⟩:=node_op n1
 obtain ⟨b1,b2,b3⟩:=node_op n2
 have z1:=nodeOk_n n1
 have z2:=nodeOk_n n2
 have w1:1<=e.w/\1<=e'.w:=by
  unfold nodeOk at n1 n2
  split at n1
  ·cases n1
  ·split at n2
   ·cases n2
   ·omega
 rw [Expr.txt_eq,Expr.txt_eq] at h
 split at h <;> split at h
 ·rename_i g1 g2
  have h' : (letter e.op++num e.n)++(58::(num e.w++r))=(letter e'.op++num e'.n)++(58::(num e'.w++r')):=by simpa [List.append_assoc] using h
  obtain ⟨q1,q2⟩:=tw_inj isTok (leaf_tok _ z1) (leaf_tok _ z2) (fun c t h0=>by simp only [List.cons.injEq] at h0; rw [<- h0.1]; decide) (fun c t h0=>by simp only [List.cons.injEq] at h0; rw [<- h0.1]; decide) h'
  obtain ⟨o1,o2⟩:=leaf_inj g1 g2 z1 z2 q1
  simp only [List.cons.injEq,true_and] at q2
  obtain ⟨v1,v2⟩:=tw_inj isDig (num_dig (by omega)) (num_dig (by omega)) (endsE_dig hr) (endsE_dig hr') q2
  have v3:=num_inj v1
  have kz : ∀ x:Expr,(x.op=1\/x.op=2\/x.op=3)->arity x.op=x.kids.length->x.kids=[]:=fun x hx ha=>by
   have:arity x.op=0:=by unfold arity; rw [if_pos (by omega)]
   rw [this] at ha
   exact List.length_eq_zero_iff.1 (by omega)
  have k1:=kz e g1 a3
  have k2:=kz e' g2 b3
  refine ⟨?_,v2⟩
  obtain ⟨o,w,n,k⟩:=e
  obtain ⟨o',w',n',k'⟩:=e'
  simp only [Expr.op,Expr.w,Expr.n,Expr.kids] at o1 o2 v3 k1 k2
  rw [o1,o2,v3,k1,k2]
 ·rename_i g1 g2
  exfalso
  have h' : (letter e.op++num e.n)++(58::(num e.w++r))=opName e'.op++(40::(commas (e'.kids.map Expr.txt)++41::r')):=by simpa [List.append_assoc] using h
  obtain ⟨q1,q2⟩:=tw_inj isTok (leaf_tok _ z1) (opName_tok _) (fun c t h0=>by simp only [List.cons.injEq] at h0; rw [<- h0.1]; decide) (fun c t h0=>by simp only [List.cons.injEq] at h0; rw [<- h0.1]; decide) h'
  simp at q2
 ·rename_i g1 g2
  exfalso
  have h' : opName e.op++(40::(commas (e.kids.map Expr.txt)++41::r))=(letter e'.op++num e'.n)++(58::(num e'.w++r')):=by simpa [List.append_assoc] using h
  obtain ⟨q1,q2⟩:=tw_inj isTok (opName_tok _) (leaf_tok _ z2) (fun c t h0=>by simp only [List.cons.injEq] at h0; rw [<- h0.1]; decide) (fun c t h0=>by simp only [List.cons.injEq] at h0; rw [<- h0.1]; decide) h'
  simp at q2
 ·rename_i g1 g2
  have h' : opName e.op++(40::(commas (e.kids.map Expr.txt)++41::r))=opName e'.op++(40::(commas (e'.kids.map Expr.txt)++41::r')):=by simpa [List.append_assoc] using h
  obtain ⟨q1,q2⟩:=tw_inj isTok (opName_tok _) (opName_tok _) (fun c t h0=>by simp only [List.cons.injEq] at h0; rw [<- h0.1]; decide) (fun c t h0=>by simp only [List.cons.injEq] at h0; rw [<- h0.1]; decide) h'
  have ho:=opName_inj (by omega) (by omega) q1
  simp only [List.cons.injEq,true_and] at q2
  have hne:e.kids≠[]:=by
   intro h0
   rw [h0] at a3
   unfold arity at a3
   simp only [List.length_nil] at a3
   repeat' (split at a3)
   all_goals omega
  obtain ⟨u1,u2⟩:=kids_inj e.kids e'.kids (by rw [ho] at a3; omega) hne (fun k hk=>Expr.allE_kid he hk) (fun k hk=>Expr.allE_kid he' hk)
   (fun k hk e1 r1 r1' he1 hr1 hr1' => ih k hk e1 r1 r1' (Expr.allE_kid he hk) he1 hr1 hr1') (41::r) (41::r') (by intro c t h0; simp only [List.cons.injEq] at h0; exact .inr h0.1.symm) (by intro c t h0; simp only [List.cons.injEq] at h0; exact .inr h0.1.symm) q2
  simp only [List.cons.injEq,true_and] at u2
  exact ⟨node_wn n1 n2 ho (by omega) u1,u2⟩
theorem text_inj {a b:Expr} (ha:a.formed=true) (hb:b.formed=true) (h:a.text=b.text):a=b:=by
 unfold Expr.text at h
 rw [if_pos ha,if_pos hb] at h
 exact (txt_inj a b [] [] (formed_all ha) (formed_all hb) (by intro c t h0; cases h0) (by intro c t h0; cases h0) (by simpa using h)).1
theorem txt_none {e:Expr}:e.txt≠[110,111,110,101]:=by
 intro h
 rw [Expr.txt_eq] at h
 split at h
 ·have:(58:UInt8)∈([110,111,110,101]:List UInt8):=by rw [<- h]; simp
  revert this; decide
 ·have:(40:UInt8)∈([110,111,110,101]:List UInt8):=by rw [<- h]; simp
  revert this; decide
theorem absent_eq {a b:Expr} (ha:a.absent=true) (hb:b.absent=true):a=b:=by
 obtain ⟨a1,a2,a3,a4⟩:=of_decide_eq_true ha
 obtain ⟨b1,b2,b3,b4⟩:=of_decide_eq_true hb
 obtain ⟨o,w,n,k⟩:=a
 obtain ⟨o',w',n',k'⟩:=b
 simp only [Expr.op,Expr.w,Expr.n,Expr.kids] at a1 a2 a3 a4 b1 b2 b3 b4
 rw [a1,a2,a3,a4,b1,b2,b3,b4]
theorem rely_inj {a b:Expr} (ha:a.absent=true\/a.formed=true) (hb:b.absent=true\/b.formed=true) (h:relyT a=relyT b):a=b:=by
 unfold relyT at h
 split at h <;> split at h
 ·exact absent_eq ‹_› ‹_›
 ·rename_i g1 g2
  have hf:b.formed=true:=hb.resolve_left (by simpa using g2)
  unfold Expr.text at h
  rw [if_pos hf] at h
  exact absurd h.symm txt_none
 ·rename_i g1 g2
  have hf:a.formed=true:=ha.resolve_left (by simpa using g1)
  unfold Expr.text at h
  rw [if_pos hf] at h
  exact absurd h txt_none
 ·rename_i g1 g2
  exact text_inj (ha.resolve_left (by simpa using g1)) (hb.resolve_left (by simpa using g2)) h
theorem parts_inj (s:UInt8) : ∀ (A B:List (List UInt8)),(∀ x∈A,s ∉ x)->(∀ x∈B,s ∉ x)->A.flatMap (fun x=>x++[s])=B.flatMap (fun x=>x++[s])->A=B
 | [],[],_,_,_=>rfl
 | [],b::B,_,_,h=>by simp at h
 | a::A,[],_,_,h=>by simp at h
 | a::A,b::B,ha,hb,h=>by
  simp only [List.flatMap_cons,List.append_assoc,List.singleton_append] at h
  obtain ⟨h1,h2⟩:=tw_inj (fun c => !decide (c=s)) (x:=a) (y:=b) (fun c hc=>by have:=ha a (by simp); simp; rintro rfl; exact this hc) (fun c hc=>by have:=hb b (by simp); simp; rintro rfl; exact this hc)
   (fun c t h0=>by simp only [List.cons.injEq] at h0; simp [h0.1]) (fun c t h0=>by simp only [List.cons.injEq] at h0; simp [h0.1]) h
  simp only [List.cons.injEq,true_and] at h2
  rw [h1,parts_inj s A B (fun x hx=>ha x (by simp [hx])) (fun x hx=>hb x (by simp [hx])) h2]
theorem join_parts (ws:List (List UInt8)) (h:ws≠[]):Go.Lib.join ws [32]++[32]=ws.flatMap fun x=>x++[32]:=by
 induction ws with
 | nil=>exact absurd rfl h
 | cons w r ih =>
  cases r with
  | nil=>rw [Go.Lib.join_one]; simp
  | cons v r =>
   have:=ih (by simp)
   rw [List.flatMap_cons, <- this,Go.Lib.join_cons,Go.Lib.join_cons]
   simp [Go.Lib.joinTail]
def wordsOk (ws:List (List UInt8)):Prop:=ws≠[] /\ ∀ w∈ws, ∀ c∈w,33<=c.toNat
theorem join_mem {ws:List (List UInt8)} (h:wordsOk ws) : ∀ c∈Go.Lib.join ws [32],32<=c.toNat:=by
 intro c hc
 have:c∈ws.flatMap fun x=>x++[32]:=by rw [<- join_parts ws h.1]; simp [hc]
 obtain ⟨x,hx,hc⟩:=List.mem_flatMap.1 this
 rcases List.mem_append.1 hc with hc | hc
 ·have:=h.2 x hx c hc; omega
 ·simp only [List.mem_singleton] at hc; subst hc; decide
theorem join_inj {a b:List (List UInt8)} (ha:wordsOk a) (hb:wordsOk b) (h:Go.Lib.join a [32]=Go.Lib.join b [32]):a=b:=by
 refine parts_inj 32 a b (fun x hx h0 => ?_) (fun x hx h0 => ?_) (by rw [<- join_parts a ha.1, <- join_parts b hb.1,h])
 ·have:=ha.2 x hx 32 h0; revert this; decide
 ·have:=hb.2 x hx 32 h0; revert this; decide
theorem map_inj {α β:Type} {f:α->β} : ∀ {A B:List α},(∀ a∈A, ∀ b∈B,f a=f b->a=b)->A.map f=B.map f->A=B
 | [],[],_,_=>rfl
 | [],b::B,_,h=>by simp at h
 | a::A,[],_,h=>by simp at h
 | a::A,b::B,hf,h=>by
  simp only [List.map_cons,List.cons.injEq] at h
  rw [hf a (by simp) b (by simp) h.1,map_inj (fun a ha b hb=>hf a (by simp [ha]) b (by simp [hb])) h.2]
theorem lines_inj {A B:List (List (List UInt8))} (ha : ∀ x∈A,wordsOk x) (hb : ∀ x∈B,wordsOk x) (h:A.flatMap lineT=B.flatMap lineT):A=B:=by
 have e : ∀ L:List (List (List UInt8)),L.flatMap lineT=(L.map fun ws=>Go.Lib.join ws [32]).flatMap fun x=>x++[10]:=fun L=>by
  rw [List.flatMap_map]; rfl
 rw [e,e] at h
 have no : ∀ {L:List (List (List UInt8))},(∀ x∈L,wordsOk x) -> ∀ x∈(L.map fun ws=>Go.Lib.join ws [32]),(10:UInt8) ∉ x:=fun hL x hx h0=>by
  obtain ⟨ws,hws,rfl⟩:=List.mem_map.1 hx
  have:=join_mem (hL ws hws) 10 h0
  revert this; decide
 exact map_inj (fun a h1 b h2=>join_inj (ha a h1) (hb b h2)) (parts_inj 10 _ _ (no ha) (no hb) h)
theorem lines_count {A:List (List (List UInt8))} (ha : ∀ x∈A,wordsOk x):(A.flatMap lineT).countP (fun c=>decide (c.toNat=10))=A.length:=by
 induction A with
 | nil=>rfl
 | cons a A ih =>
  have h0:=ha a (by simp)
  rw [List.flatMap_cons,List.countP_append,ih fun x hx=>ha x (by simp [hx]),lineT,List.countP_append]
  have:(Go.Lib.join a [32]).countP (fun c=>decide (c.toNat=10))=0:=by
   rw [List.countP_eq_zero]
   intro c hc
   have:=join_mem h0 c hc
   simp; omega
  rw [this]
  simp [Nat.add_comm]
end Rg
end
section
set_option maxRecDepth 100000
namespace Rg
open Go
def modL (m:Contract):List (List UInt8):=modW m++m.frame.map num
def stepL (s:Step):List (List UInt8):=stepW s++s.set.flatMap setW
def loopL (l:Loop):List (List UInt8):=loopW l++l.body.map num
def restL (x:Thread):List (List (List UInt8)):=(x.modules.zip x.asserts).map pointW++x.steps.map stepL++x.loops.map loopL
def threadL (x:Thread):List (List (List UInt8)):=headW x::restL x
def linesM (p:Prog):List (List (List UInt8)):=p.cells.map cellW++p.modules.map modL++p.locks.map lockW++p.threads.flatMap threadL
theorem textM_lines (p:Prog):textM p=(linesM p).flatMap lineT:=by
 have h1 : ∀ x:Thread,threadT x=(threadL x).flatMap lineT:=fun x=>by
  simp only [threadT,threadL,restL,List.flatMap_cons,List.flatMap_append,List.flatMap_map,List.append_assoc]
  rfl
 simp only [textM,linesM,List.flatMap_append,List.flatMap_map,List.flatMap_assoc]
 simp only [<- h1]
 rfl
structure ShownP (p:Prog):Prop where
 cells : ∀ c∈p.cells,isLabel c.name=true
 mods : ∀ m∈p.modules,(isLabel m.name=true/\isLabel m.owner=true)/\(m.rely.absent=true\/m.rely.formed=true)/\m.guar.formed=true
 locks : ∀ l∈p.locks,l.inv.formed=true
 thr : ∀ x∈p.threads,isLabel x.name=true/\(x.points=x.asserts.length/\x.modules.length=x.asserts.length)/\(∀ e∈x.asserts,e.formed=true) /\
  (∀ s∈x.steps,s.guard.formed=true /\ ∀ a∈s.set,a.to.formed=true) /\ ∀ l∈x.loops,l.variant.formed=true
theorem valid_formed {c:List Cell} {e:Expr} {b:Bool} (h:e.valid c b=true):e.formed=true:=by
 simp only [Expr.valid,Bool.and_eq_true] at h; exact h.1
theorem truth_formed {p:Prog} {e:Expr} {b:Bool} {t:Int} (h:truthOk p e b t=true):e.formed=true:=by
 unfold truthOk at h
 simp only [Bool.and_eq_true] at h
 exact valid_formed h.1.1
theorem shown_of {p:Prog} (h:p.ok):ShownP p:=by
 obtain ⟨hl,hc,hm,hk,ht⟩:=ok_iff.1 h
 refine ⟨fun c hcm => ?_,fun m hmm => ?_,fun l hlm => ?_,fun x hxm => ?_⟩
 ·obtain ⟨i,hi,rfl⟩:=List.mem_iff_getElem.1 hcm
  exact (cellBad_parts (cellErr_iff.1 (hc i _ (List.getElem?_eq_getElem hi))).1).1
 ·obtain ⟨i,hi,rfl⟩:=List.mem_iff_getElem.1 hmm
  obtain ⟨b1,_,b3,_⟩:=modErr_iff.1 (hm i _ (List.getElem?_eq_getElem hi))
  exact ⟨b1,b3.1.imp id truth_formed,truth_formed b3.2⟩
 ·obtain ⟨i,hi,rfl⟩:=List.mem_iff_getElem.1 hlm
  exact truth_formed (lockErr_iff.1 (hk i _ (List.getElem?_eq_getElem hi))).2.2
 ·obtain ⟨i,hi,rfl⟩:=List.mem_iff_getElem.1 hxm
  obtain ⟨b1,_,b3,b4,b5,b6,b7⟩:=threadErr_iff.1 (ht i _ (List.getElem?_eq_getElem hi))
  refine ⟨b1,by omega,fun e he=>truth_formed (List.all_eq_true.1 b5 e he),fun s hs => ?_,fun l hl => ?_⟩
  ·obtain ⟨j,hj,rfl⟩:=List.mem_iff_getElem.1 hs
   obtain ⟨c1,c2,c3,c4⟩:=stepErr_iff.1 (b6 j _ (List.getElem?_eq_getElem hj))
   refine ⟨valid_formed c2.1,fun a ha => ?_⟩
   obtain ⟨q,hq,rfl⟩:=List.mem_iff_getElem.1 ha
   exact valid_formed (setErr_iff.1 (c3 q _ (List.getElem?_eq_getElem hq))).2.1
  ·obtain ⟨j,hj,rfl⟩:=List.mem_iff_getElem.1 hl
   exact valid_formed (loopErr_iff.1 (b7 j _ (List.getElem?_eq_getElem hj))).2.1
theorem flagT_ge (b:Bool) : ∀ c∈flagT b,33<=c.toNat:=by cases b <;> decide
theorem nums_ge {l:List Int} : ∀ w∈l.map num, ∀ c∈w,33<=c.toNat:=fun w hw=>by
 obtain ⟨z,_,rfl⟩:=List.mem_map.1 hw
 exact num_ge z
theorem cellW_ok {c:Cell} (h:isLabel c.name=true):wordsOk (cellW c):=by
 refine ⟨by simp [cellW], ?_⟩
 simp only [cellW,List.forall_mem_cons]
 exact ⟨by decide,label_ge h,num_ge _,num_ge _,num_ge _,flagT_ge _,num_ge _,by simp⟩
theorem modL_ok {m:Contract} (h:isLabel m.name=true/\isLabel m.owner=true):wordsOk (modL m):=by
 refine ⟨by simp [modL,modW], ?_⟩
 simp only [modL,modW,List.cons_append,List.nil_append,List.forall_mem_cons]
 exact ⟨by decide,label_ge h.1,label_ge h.2,rely_ge _,text_ge _,nums_ge⟩
theorem lockW_ok (l:Lock):wordsOk (lockW l):=by
 refine ⟨by simp [lockW], ?_⟩
 simp only [lockW,List.forall_mem_cons]
 exact ⟨by decide,num_ge _,text_ge _,num_ge _,by simp⟩
theorem headW_ok {x:Thread} (h:isLabel x.name=true):wordsOk (headW x):=by
 refine ⟨by simp [headW], ?_⟩
 simp only [headW,List.forall_mem_cons]
 exact ⟨by decide,label_ge h,flagT_ge _,by simp⟩
theorem pointW_ok (q:Int×Expr):wordsOk (pointW q):=by
 refine ⟨by simp [pointW], ?_⟩
 simp only [pointW,List.forall_mem_cons]
 exact ⟨by decide,num_ge _,text_ge _,by simp⟩
theorem stepL_ok (s:Step):wordsOk (stepL s):=by
 refine ⟨by simp [stepL,stepW], ?_⟩
 simp only [stepL,stepW,List.cons_append,List.nil_append,List.forall_mem_cons]
 refine ⟨by decide,num_ge _,num_ge _,num_ge _,text_ge _,flagT_ge _,num_ge _,num_ge _,fun w hw => ?_⟩
 obtain ⟨a,_,ha⟩:=List.mem_flatMap.1 hw
 simp only [setW,List.mem_cons,List.not_mem_nil,or_false] at ha
 rcases ha with rfl | rfl
 ·exact num_ge _
 ·exact text_ge _
theorem loopL_ok (l:Loop):wordsOk (loopL l):=by
 refine ⟨by simp [loopL,loopW], ?_⟩
 simp only [loopL,loopW,List.cons_append,List.nil_append,List.forall_mem_cons]
 exact ⟨by decide,num_ge _,text_ge _,nums_ge⟩
theorem linesM_ok {p:Prog} (h:ShownP p) : ∀ ws∈linesM p,wordsOk ws:=by
 intro ws hw
 simp only [linesM,List.mem_append,List.mem_map,List.mem_flatMap,or_assoc] at hw
 rcases hw with ⟨c,hc,rfl⟩ | ⟨m,hm,rfl⟩ | ⟨l,hl,rfl⟩ | ⟨x,hx,hw⟩
 ·exact cellW_ok (h.cells c hc)
 ·exact modL_ok (h.mods m hm).1
 ·exact lockW_ok l
 ·simp only [threadL,restL,List.mem_cons,List.mem_append,List.mem_map,or_assoc] at hw
  rcases hw with rfl | ⟨q,_,rfl⟩ | ⟨s,_,rfl⟩ | ⟨l,_,rfl⟩
  ·exact headW_ok (h.thr x hx).1
  ·exact pointW_ok q
  ·exact stepL_ok s
  ·exact loopL_ok l
def kw1 (ws:List (List UInt8)):List UInt8:=ws.headD []
theorem app_inj {α:Type} (P:α->Bool) {A A' B B' : List α} (h1 : ∀ a∈A,P a=true) (h2 : ∀ a∈A',P a=true) (h3 : ∀ a∈B,P a=false) (h4 : ∀ a∈B',P a=false) (h:A++B=A' ++ B'):A=A' /\ B=B' :=
 tw_inj P h1 h2 (fun c r h0=>h3 c (by rw [h0]; simp)) (fun c r h0=>h4 c (by rw [h0]; simp)) h
theorem blocks_inj {α β:Type} (P:β->Bool) (f:α->β) (g:α->List β) : ∀ {A B:List α},(∀ a∈A,P (f a)=true /\ ∀ y∈g a,P y=false)->(∀ a∈B,P (f a)=true /\ ∀ y∈g a,P y=false) ->
 A.flatMap (fun a=>f a::g a)=B.flatMap (fun a=>f a::g a)->(A.map fun a=>(f a,g a))=B.map fun a=>(f a,g a)
 | [],[],_,_,_=>rfl
 | [],b::B,_,_,h=>by simp at h
 | a::A,[],_,_,h=>by simp at h
 | a::A,b::B,ha,hb,h=>by
  simp only [List.flatMap_cons,List.cons_append,List.cons.injEq] at h
  have st : ∀ (L:List α),(∀ a∈L,P (f a)=true /\ ∀ y∈g a,P y=false) -> ∀ c r,L.flatMap (fun a=>f a::g a)=c::r->(!P c)=false:=fun L hL c r h0=>by
   cases L with
   | nil=>simp at h0
   | cons z L =>
    simp only [List.flatMap_cons,List.cons_append,List.cons.injEq] at h0
    rw [<- h0.1,(hL z (by simp)).1]; rfl
  obtain ⟨h1,h2⟩:=tw_inj (fun y => !P y) (x:=g a) (y:=g b) (fun c hc=>by simp [(ha a (by simp)).2 c hc]) (fun c hc=>by simp [(hb b (by simp)).2 c hc])
   (st A fun a h=>ha a (by simp [h])) (st B fun a h=>hb a (by simp [h])) h.2
  rw [List.map_cons,List.map_cons,h.1,h1,blocks_inj P f g (fun a h=>ha a (by simp [h])) (fun a h=>hb a (by simp [h])) h2]
theorem cellW_inj {a b:Cell} (h:cellW a=cellW b):a=b:=by
 obtain ⟨n,w,i,t,g,m⟩:=a
 obtain ⟨n',w',i',t',g',m'⟩:=b
 simp only [cellW,List.cons.injEq,true_and,and_true] at h
 obtain ⟨h1,h2,h3,h4,h5,h6⟩:=h
 rw [byt_inj h1,num_inj h2,num_inj h3,num_inj h4,flagT_inj h5,num_inj h6]
theorem nums_inj {a b:List Int} (h:a.map num=b.map num):a=b:=map_inj (fun _ _ _ _=>num_inj) h
theorem modL_inj {a b:Contract} (ha:(a.rely.absent=true\/a.rely.formed=true)/\a.guar.formed=true) (hb:(b.rely.absent=true\/b.rely.formed=true)/\b.guar.formed=true) (h:modL a=modL b):a=b:=by
 obtain ⟨n,o,r,g,f⟩:=a
 obtain ⟨n',o',r',g',f'⟩:=b
 dsimp only at ha hb
 simp only [modL,modW,List.cons_append,List.nil_append,List.cons.injEq,true_and] at h
 obtain ⟨h1,h2,h3,h4,h5⟩:=h
 rw [byt_inj h1,byt_inj h2,rely_inj ha.1 hb.1 h3,text_inj ha.2 hb.2 h4,nums_inj h5]
theorem lockW_inj {a b:Lock} (ha:a.inv.formed=true) (hb:b.inv.formed=true) (h:lockW a=lockW b):a=b:=by
 obtain ⟨c,i,m⟩:=a
 obtain ⟨c',i',m'⟩:=b
 dsimp only at ha hb
 simp only [lockW,List.cons.injEq,true_and,and_true] at h
 rw [num_inj h.1,text_inj ha hb h.2.1,num_inj h.2.2]
theorem pointW_inj {a b:Int×Expr} (ha:a.2.formed=true) (hb:b.2.formed=true) (h:pointW a=pointW b):a=b:=by
 obtain ⟨c,i⟩:=a
 obtain ⟨c',i'⟩:=b
 dsimp only at ha hb
 simp only [pointW,List.cons.injEq,true_and,and_true] at h
 rw [num_inj h.1,text_inj ha hb h.2]
theorem sets_inj : ∀ {a b:List Assign},(∀ x∈a,x.to.formed=true)->(∀ x∈b,x.to.formed=true)->a.flatMap setW=b.flatMap setW->a=b
 | [],[],_,_,_=>rfl
 | [],b::B,_,_,h=>by simp [setW] at h
 | a::A,[],_,_,h=>by simp [setW] at h
 | a::A,b::B,ha,hb,h=>by
  simp only [List.flatMap_cons,setW,List.cons_append,List.nil_append,List.cons.injEq] at h
  have h1:=num_inj h.1
  have h2:=text_inj (ha a (by simp)) (hb b (by simp)) h.2.1
  have h3:=sets_inj (a:=A) (b:=B) (fun x hx=>ha x (by simp [hx])) (fun x hx=>hb x (by simp [hx])) h.2.2
  obtain ⟨c,e⟩:=a
  obtain ⟨c',e'⟩:=b
  simp only at h1 h2
  rw [h1,h2,h3]
theorem stepL_inj {a b:Step} (ha:a.guard.formed=true /\ ∀ x∈a.set,x.to.formed=true) (hb:b.guard.formed=true /\ ∀ x∈b.set,x.to.formed=true) (h:stepL a=stepL b):a=b:=by
 obtain ⟨k,f,t,g,s,r,tg,m⟩:=a
 obtain ⟨k',f',t',g',s',r',tg',m'⟩:=b
 dsimp only at ha hb
 simp only [stepL,stepW,List.cons_append,List.nil_append,List.cons.injEq,true_and] at h
 obtain ⟨h1,h2,h3,h4,h5,h6,h7,h8⟩:=h
 rw [num_inj h1,num_inj h2,num_inj h3,text_inj ha.1 hb.1 h4,flagT_inj h5,num_inj h6,num_inj h7,sets_inj ha.2 hb.2 h8]
theorem loopL_inj {a b:Loop} (ha:a.variant.formed=true) (hb:b.variant.formed=true) (h:loopL a=loopL b):a=b:=by
 obtain ⟨k,f,t⟩:=a
 obtain ⟨k',f',t'⟩:=b
 dsimp only at ha hb
 simp only [loopL,loopW,List.cons_append,List.nil_append,List.cons.injEq,true_and] at h
 rw [num_inj h.1,text_inj ha hb h.2.1,nums_inj h.2.2]
theorem zip_inj {a a' : List Int} {b b' : List Expr} (h1:a.length=b.length) (h2:a'.length=b'.length) (h:a.zip b=a'.zip b'):a=a' /\ b=b' := by
 have e1:=List.map_fst_zip (l₁:=a) (l₂:=b) (by omega)
 have e2:=List.map_fst_zip (l₁:=a') (l₂:=b') (by omega)
 have e3:=List.map_snd_zip (l₁:=a) (l₂:=b) (by omega)
 have e4:=List.map_snd_zip (l₁:=a') (l₂:=b') (by omega)
 exact ⟨by rw [<- e1, <- e2,h],by rw [<- e3, <- e4,h]⟩
def isW (k:List UInt8) (ws:List (List UInt8)):Bool:=decide (kw1 ws=k)
theorem thread_inj {a b:Thread} (ha:(a.points=a.asserts.length/\a.modules.length=a.asserts.length)/\(∀ e∈a.asserts,e.formed=true) /\
 (∀ s∈a.steps,s.guard.formed=true /\ ∀ x∈s.set,x.to.formed=true) /\ ∀ l∈a.loops,l.variant.formed=true)
 (hb:(b.points=b.asserts.length/\b.modules.length=b.asserts.length)/\(∀ e∈b.asserts,e.formed=true) /\
 (∀ s∈b.steps,s.guard.formed=true /\ ∀ x∈s.set,x.to.formed=true) /\ ∀ l∈b.loops,l.variant.formed=true)
 (h1:headW a=headW b) (h2:restL a=restL b):a=b:=by
 obtain ⟨n,pt,az,ms,st,lp,sl⟩:=a
 obtain ⟨n',pt',az',ms',st',lp',sl'⟩:=b
 obtain ⟨⟨ha1,ha2⟩,ha3,ha4,ha5⟩:=ha
 obtain ⟨⟨hb1,hb2⟩,hb3,hb4,hb5⟩:=hb
 simp only [headW,List.cons.injEq,true_and,and_true] at h1
 simp only [restL,List.append_assoc] at h2
 simp only at ha1 ha2 ha3 ha4 ha5 hb1 hb2 hb3 hb4 hb5
 have kp : ∀ (l:List (Int×Expr)), ∀ w∈l.map pointW,kw1 w=[112,111,105,110,116]:=fun l w hw=>by obtain ⟨q,_,rfl⟩:=List.mem_map.1 hw; rfl
 have ks : ∀ (l:List Step), ∀ w∈l.map stepL,kw1 w=[115,116,101,112]:=fun l w hw=>by obtain ⟨q,_,rfl⟩:=List.mem_map.1 hw; rfl
 have kl : ∀ (l:List Loop), ∀ w∈l.map loopL,kw1 w=[108,111,111,112]:=fun l w hw=>by obtain ⟨q,_,rfl⟩:=List.mem_map.1 hw; rfl
 have ksl : ∀ (l:List Step) (m:List Loop), ∀ w∈l.map stepL++m.map loopL,isW [112,111,105,110,116] w=false:=fun l m w hw=>by
  unfold isW
  rcases List.mem_append.1 hw with hw | hw
  ·rw [ks l w hw]; decide
  ·rw [kl m w hw]; decide
 obtain ⟨g1,g2⟩:=app_inj (isW [112,111,105,110,116]) (fun w hw=>by unfold isW; rw [kp _ w hw]; decide) (fun w hw=>by unfold isW; rw [kp _ w hw]; decide) (ksl _ _) (ksl _ _) h2
 obtain ⟨g3,g4⟩:=app_inj (isW [115,116,101,112]) (fun w hw=>by unfold isW; rw [ks _ w hw]; decide) (fun w hw=>by unfold isW; rw [ks _ w hw]; decide)
  (fun w hw=>by unfold isW; rw [kl _ w hw]; decide) (fun w hw=>by unfold isW; rw [kl _ w hw]; decide) g2
 have q1:=map_inj (fun q hq q' hq' => pointW_inj (ha3 _ (List.of_mem_zip hq).2) (hb3 _ (List.of_mem_zip hq').2)) g1
 obtain ⟨q2,q3⟩:=zip_inj ha2 hb2 q1
 have q4:=map_inj (fun s hs s' hs' => stepL_inj (ha4 s hs) (hb4 s' hs')) g3
 have q5:=map_inj (fun s hs s' hs' => loopL_inj (ha5 s hs) (hb5 s' hs')) g4
 subst q2 q3
 rw [byt_inj h1.1,flagT_inj h1.2,q4,q5,ha1,hb1]
theorem linesM_inj {p q:Prog} (hp:ShownP p) (hq:ShownP q) (h:linesM p=linesM q):p=q:=by
 obtain ⟨pc,pm,pl,pt⟩:=p
 obtain ⟨qc,qm,ql,qt⟩:=q
 simp only [linesM,List.append_assoc] at h
 have kc : ∀ (l:List Cell), ∀ w∈l.map cellW,kw1 w=[99,101,108,108]:=fun l w hw=>by obtain ⟨q,_,rfl⟩:=List.mem_map.1 hw; rfl
 have km : ∀ (l:List Contract), ∀ w∈l.map modL,kw1 w=[109,111,100,117,108,101]:=fun l w hw=>by obtain ⟨q,_,rfl⟩:=List.mem_map.1 hw; rfl
 have kl : ∀ (l:List Lock), ∀ w∈l.map lockW,kw1 w=[108,111,99,107]:=fun l w hw=>by obtain ⟨q,_,rfl⟩:=List.mem_map.1 hw; rfl
 have kr : ∀ (x:Thread), ∀ w∈restL x,kw1 w=[112,111,105,110,116]\/kw1 w=[115,116,101,112]\/kw1 w=[108,111,111,112]:=fun x w hw=>by
  simp only [restL,List.mem_append,List.mem_map,or_assoc] at hw
  rcases hw with ⟨q,_,rfl⟩ | ⟨q,_,rfl⟩ | ⟨q,_,rfl⟩
  ·exact .inl rfl
  ·exact .inr (.inl rfl)
  ·exact .inr (.inr rfl)
 have kt : ∀ (l:List Thread), ∀ w∈l.flatMap threadL,kw1 w=[116,104,114,101,97,100]\/kw1 w=[112,111,105,110,116]\/kw1 w=[115,116,101,112]\/kw1 w=[108,111,111,112]:=fun l w hw=>by
  obtain ⟨x,_,hw⟩:=List.mem_flatMap.1 hw
  rcases List.mem_cons.1 hw with rfl | hw
  ·exact .inl rfl
  ·exact .inr (kr x w hw)
 have n3 : ∀ (l:List Thread), ∀ w∈l.flatMap threadL,isW [108,111,99,107] w=false:=fun l w hw=>by
  unfold isW
  rcases kt l w hw with h | h | h | h <;> rw [h] <;> decide
 have n2 : ∀ (a:List Lock) (l:List Thread), ∀ w∈a.map lockW++l.flatMap threadL,isW [109,111,100,117,108,101] w=false:=fun a l w hw=>by
  unfold isW
  rcases List.mem_append.1 hw with hw | hw
  ·rw [kl a w hw]; decide
  ·rcases kt l w hw with h | h | h | h <;> rw [h] <;> decide
 have n1 : ∀ (b:List Contract) (a:List Lock) (l:List Thread), ∀ w∈b.map modL++(a.map lockW++l.flatMap threadL),isW [99,101,108,108] w=false:=fun b a l w hw=>by
  unfold isW
  rcases List.mem_append.1 hw with hw | hw
  ·rw [km b w hw]; decide
  rcases List.mem_append.1 hw with hw | hw
  ·rw [kl a w hw]; decide
  ·rcases kt l w hw with h | h | h | h <;> rw [h] <;> decide
 obtain ⟨g1,h⟩:=app_inj (isW [99,101,108,108]) (fun w hw=>by unfold isW; rw [kc _ w hw]; decide) (fun w hw=>by unfold isW; rw [kc _ w hw]; decide) (n1 _ _ _) (n1 _ _ _) h
 obtain ⟨g2,h⟩:=app_inj (isW [109,111,100,117,108,101]) (fun w hw=>by unfold isW; rw [km _ w hw]; decide) (fun w hw=>by unfold isW; rw [km _ w hw]; decide) (n2 _ _) (n2 _ _) h
 obtain ⟨g3,h⟩:=app_inj (isW [108,111,99,107]) (fun w hw=>by unfold isW; rw [kl _ w hw]; decide) (fun w hw=>by unfold isW; rw [kl _ w hw]; decide) (n3 _) (n3 _) h
 have bl : ∀ (x:Thread),isW [116,104,114,101,97,100] (headW x)=true /\ ∀ y∈restL x,isW [116,104,114,101,97,100] y=false:=fun x=>⟨rfl,fun y hy=>by
  unfold isW
  rcases kr x y hy with h | h | h <;> rw [h] <;> decide⟩
 have g4:=blocks_inj (isW [116,104,114,101,97,100]) headW restL (fun x _=>bl x) (fun x _=>bl x) h
 have e1:=map_inj (fun a _ b _=>cellW_inj) g1
 have e2:=map_inj (fun a ha b hb=>modL_inj (hp.mods a ha).2 (hq.mods b hb).2) g2
 have e3:=map_inj (fun a ha b hb=>lockW_inj (hp.locks a ha) (hq.locks b hb)) g3
 have e4:=map_inj (fun a ha b hb hab=>thread_inj (hp.thr a ha).2 (hq.thr b hb).2 (congrArg Prod.fst hab) (congrArg Prod.snd hab)) g4
 subst e1 e2 e3 e4
 rfl
theorem textM_inj {p q:Prog} (hp:p.ok) (hq:q.ok):textM p=textM q<->p=q:=by
 constructor
 ·intro h
  have sp:=shown_of hp
  have sq:=shown_of hq
  rw [textM_lines,textM_lines] at h
  exact linesM_inj sp sq (lines_inj (linesM_ok sp) (linesM_ok sq) h)
 ·rintro rfl; rfl
theorem textM_count {p:Prog} (hp:p.ok):(textM p).countP (fun c=>decide (c.toNat=10))=p.cells.length+p.modules.length+p.locks.length+(p.threads.map fun x=>1+x.asserts.length+x.steps.length+x.loops.length).sum:=by
 have sp:=shown_of hp
 rw [textM_lines,lines_count (linesM_ok sp)]
 have e : ∀ l:List Thread,(∀ x∈l,x.modules.length=x.asserts.length)->(l.flatMap threadL).length=(l.map fun x=>1+x.asserts.length+x.steps.length+x.loops.length).sum:=by
  intro l
  induction l with
  | nil=>intro _; rfl
  | cons x l ih =>
   intro h
   rw [List.flatMap_cons,List.length_append,ih fun y hy=>h y (by simp [hy]),List.map_cons,List.sum_cons]
   have:=h x (by simp)
   simp only [threadL,restL,List.length_cons,List.length_append,List.length_map,List.length_zip]
   omega
 simp only [linesM,List.length_append,List.length_map]
 rw [e p.threads fun x hx=>(sp.thr x hx).2.1.2]
end Rg
end
