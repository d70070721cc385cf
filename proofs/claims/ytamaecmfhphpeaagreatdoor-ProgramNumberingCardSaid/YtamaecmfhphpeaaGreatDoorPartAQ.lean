/- Part of the proof of the laws of the package relyguardlaw07: an abstract machine for the program's functions, what they compute, and that the machine is the program's. No condition. (RgBn LayR3 SeatR3) -/
import Derived.Shelf.Strings.OnBuilder
import Derived.Shelf.Strconv.Itoa3
import Derived.Test.YtamaecmfhphpeaaGreatDoorPartAP
import Derived.Shelf.LaysM
import Derived.Shelf.Sort.Plain
import Derived.Shelf.Slices.In.SortNone
import Derived.Shelf.Slices.CompactI
import Derived.Test.YtamaecmfhphpeaaGreatDoorRows
import Derived.KernelRfl
set_option linter.unusedVariables false
section
namespace Rg
open Go Go.Proofs Go.Lib Go.Shelf Go.RowKit Go.Sort
variable {N:Nam} {c:Ctx} {A:Nat->Prop} {μ lam:Nat->Nat} {w:World} {H:Nat->Option O} {n:Nat}
theorem Rel.changeB (R:Rel N c 0 A μ lam (.init [] H n) bareAct w) {k:Nat} {x:Bx} {w' : World} (hk:H k=some (.raw x)) (hx : ∀ l,x ≠ .buf l)
 (hsz:w.heap.size<=w'.heap.size) {gb:Option Nat} (hgb : ∀ g,gb=some g->Orphan c A μ lam (.init [] H n) g) (hoth : ∀ r,r<w.heap.size->r≠μ k->some r≠gb->w'.heap[r]? = w.heap[r]?)
 (hs : ∀ r x,w.shape? r=some x->w'.shape? r=some x) (ho : ∃ p v,w'.heap[μ k]? = some (.cells #[p,v] N.tB (0,0))) (hov:w'.os=w.os/\w'.output=w.output) :
 Rel N c 0 A μ lam (.init [] (upd H k (some (.raw .mid))) n) bareAct w' := by
 have hl:(O.raw x).live=true:=rfl
 have hm : ∀ sz rs,O.raw x ≠ .rows sz rs true:=by intro sz rs h; cases h
 have hgA : ∀ r,A r->some r≠gb:=fun r h e=>(hgb r e.symm).a h
 have hA : ∀ r,A r->w'.heap[r]? = w.heap[r]? := fun r h=>hoth r (R.alt r h) (fun e=>R.aH r h ⟨k,_,hk,hm,hl,e.symm⟩) (hgA r h)
 have hle:O.le (.raw x) (.raw .mid):=by cases x <;> first | trivial | exact absurd rfl (hx _)
 have hlive : ∀ k1 o1,H k1=some o1->o1.live=true->k1≠k->w'.heap[μ k1]? = w.heap[μ k1]? := fun k1 o1 h l1 hne=>hoth _ (R.lt_live h l1) (fun e=>hne (R.hinj k1 k o1 _ h hk l1 hl e)) (fun e=>(hgb _ e.symm).h k1 o1 h l1 rfl)
 have E:Evo w A μ H w' A μ (upd H k (some (.raw .mid))):=by
  refine ⟨hA,fun _ h=>h,fun k1 o1 h => ?_,hs⟩
  by_cases e:k1=k
  ·subst e; rw [hk] at h; cases h; exact ⟨_,by simp,hle,fun _=>rfl⟩
  ·exact ⟨o1,by rw [upd_other _ _ e]; exact h,O.le_refl o1,fun _=>rfl⟩
 have hsplit : ∀ k1 o1,(upd H k (some (.raw .mid))) k1=some o1->(k1=k/\o1 = .raw .mid)\/(k1≠k/\H k1=some o1):=by
  intro k1 o1 h
  by_cases e:k1=k
  ·subst e; simp at h; exact .inl ⟨rfl,h.symm⟩
  ·rw [upd_other _ _ e] at h; exact .inr ⟨e,h⟩
 have hback : ∀ k1 o1,(upd H k (some (.raw .mid))) k1=some o1->o1.live=true -> ∃ o2,H k1=some o2/\o2.live=true:=by
  intro k1 o1 h hl1
  rcases hsplit k1 o1 h with ⟨rfl,rfl⟩ | ⟨_,h⟩
  ·exact ⟨_,hk,hl⟩
  ·exact ⟨o1,h,hl1⟩
 exact {
  size:=rfl
  defers:=Marks.nil _ _ _
  env:=fun t=>by simp [St.init,initEnv,bareAct,RepV]
  loc:=fun t cs h=>by simp [St.init] at h
  adr:=fun t b o h=>by simp [St.init] at h
  heap:=fun k1 o1 h=>by
   rcases hsplit k1 o1 h with ⟨rfl,rfl⟩ | ⟨e,h⟩
   ·exact ho
   ·cases hl1:o1.live with
    | false=>cases o1 <;> simp_all [O.live]; trivial
    | true=>exact (R.heap k1 o1 h).evo E (hlive k1 o1 h hl1 e)
  hinj:=fun k1 k2 o1 o2 h1 h2 l1 l2 he=>by
   obtain ⟨p1,q1,m1⟩:=hback k1 o1 h1 l1
   obtain ⟨p2,q2,m2⟩:=hback k2 o2 h2 l2
   exact R.hinj k1 k2 p1 p2 q1 q2 m1 m2 he
  linj:=fun t t' h=>by simp [St.init] at h
  lh:=fun t k o h=>by simp [St.init] at h
  aH:=fun r hAr hmb=>by
   obtain ⟨k1,o1,h,hmm,hl1,he⟩:=hmb
   rcases hsplit k1 o1 h with ⟨rfl,rfl⟩ | ⟨e,h⟩
   ·exact R.aH r hAr ⟨k1,_,hk,hm,hl,he⟩
   ·exact R.aH r hAr ⟨k1,o1,h,hmm,hl1,he⟩
  aL:=fun r _ hmb=>by obtain ⟨t,h,_⟩:=hmb; simp [St.init] at h
  alt:=fun r h=>Nat.lt_of_lt_of_le (R.alt r h) hsz
  afz:=fun k1 sz rs h=>by
   rcases hsplit k1 _ h with ⟨rfl,g⟩ | ⟨e,h⟩
   ·cases g
   ·exact R.afz k1 sz rs h
  fresh:=fun k1 h=>by
   have:k1≠k:=by rintro rfl; have:=R.fresh k1 h; simp only [St.init,hk] at this; cases this
   show upd H k _ k1=none
   rw [upd_other _ _ this]; exact R.fresh k1 h
  glob:=fun g j y h=>by
   obtain ⟨h1,⟨te,hte⟩,v,hv,hr⟩:=R.glob g j y h
   exact ⟨h1,⟨te,hs _ _ hte⟩,v,by rw [cell?_eq (hA _ h1)]; exact hv,hr.mono E.blk E.sub⟩
  cout:=⟨hov.1.trans R.cout.1,hov.2.trans R.cout.2⟩
  csize:=Nat.le_trans R.csize hsz
  ckeep:=fun r h1 h2=>by
   rw [hoth r (Nat.lt_of_lt_of_le h1 R.csize) ?_ ?_]
   ·exact R.ckeep r h1 h2
   ·rintro rfl
    rcases R.clive _ ⟨k,_,hk,hm,hl,rfl⟩ with h | h
    ·exact h2 h
    ·omega
   ·intro e
    rcases (hgb r e.symm).x with h | h
    ·exact h2 h
    ·omega
  cshp:=fun r y h=>hs r y (R.cshp r y h)
  csub:=R.csub
  canew:=R.canew
  clive:=fun r hmb=>by
   obtain ⟨k1,o1,h,hmm,hl1,he⟩:=hmb
   rcases hsplit k1 o1 h with ⟨rfl,rfl⟩ | ⟨e,h⟩
   ·exact R.clive r ⟨k1,_,hk,hm,hl,he⟩
   ·exact R.clive r ⟨k1,o1,h,hmm,hl1,he⟩
  cloc:=fun t h=>by simp [St.init] at h
  chp:=fun k1 o1 h=>by
   obtain ⟨o2,h2,h3,h4⟩:=R.chp k1 o1 h
   by_cases e:k1=k
   ·subst e
    have h2' : H k1=some o2:=h2
    rw [hk] at h2'; cases h2'
    exact ⟨.raw .mid,by simp [St.init],O.le_trans h3 hle,fun _=>h4 hl⟩
   ·exact ⟨o2,by simp only [St.init,upd_other _ _ e]; exact h2,h3,h4⟩ }
theorem upd_upd {H:Nat->Option O} (k:Nat) (a b:Option O):upd (upd H k a) k b=upd H k b:=by
 funext j; unfold upd; split <;> rfl
theorem upd_swap {H:Nat->Option O} {k j:Nat} (h:k≠j) (a b:Option O):upd (upd H k a) j b=upd (upd H j b) k a:=by
 funext q; unfold upd
 by_cases h1:q=j
 ·subst h1; rw [if_pos rfl,if_neg (Ne.symm h),if_pos rfl]
 ·rw [if_neg h1]; split <;> simp
theorem bld_block (R:Rel N c 0 A μ lam (.init [] H n) bareAct w) {k:Nat} {g:Option Nat} (hk:H k=some (.raw (.bld g))) (hg : ∀ q,g=some q -> ∃ l,H q=some (.raw (.buf l))) :
 ∃ p v l,w.heap[μ k]? = some (.cells #[p,v] N.tB (0,0))/\(p = .pointer none\/p = .pointer (some ⟨μ k,0,none⟩))/\w.ownsRow 0 N.tU 1 v l.length (Lib.byteCells l)/\v.ownBlock=g.map μ/\(g=none->l=[]/\v = .slice none 0 0)/\(∀ q,g=some q->H q=some (.raw (.buf l))/\l≠[] /\ ∃ cap,v = .slice (some ⟨μ q,0,none⟩) l.length cap):=by
 cases g with
 | none =>
  obtain ⟨p,h1,h2⟩:=R.heap k _ hk
  exact ⟨p,_,[],h1,h2,World.ownsRow_nil _ _ _ _,rfl,fun _=>⟨rfl,rfl⟩,fun q h=>by cases h⟩
 | some q =>
  obtain ⟨l,hl⟩:=hg q rfl
  obtain ⟨a,len,cap,h1,h2⟩:=R.heap k _ hk
  obtain ⟨cur,g1,g2,g3,g4,g5⟩:=R.heap q _ hl
  rcases h2 with h2 | ⟨l',h2,rfl,rfl,h5⟩
  ·have h2' : H q=some .dead:=h2
   rw [hl] at h2'; cases h2'
  ·have h2' : H q=some (.raw (.buf l')):=h2
   rw [hl] at h2'; cases h2'
   simp only [World.shape?,g1,Option.some.injEq,Prod.mk.injEq,true_and] at h5
   subst h5
   refine ⟨_,_,l,h1, .inr rfl,⟨by simp [Lib.byteCells], .inr ⟨μ q,cur.size,cur,rfl,Nat.zero_le _,g1,g3,g4,by simp, ?_⟩⟩,rfl,(fun h=>by cases h),(fun q' h=>by cases h; exact ⟨hl,g2,_,rfl⟩)⟩
   rw [Nat.mul_one]; exact g5
theorem rel_add (R:Rel N c 0 A μ lam (.init [] H n) bareAct w) {k n' : Nat} {new:List UInt8} {H' : Nat->Option O} (h:bldAdd H n k new=some (H',n')) :
 ∃ p v m xs,w.heap[μ k]? = some (.cells #[p,v] N.tB (0,0))/\(p = .pointer none\/p = .pointer (some ⟨μ k,0,none⟩))/\w.ownsRow 0 N.tU 1 v m xs/\m+new.length<=140737488355328 /\
  ∀ w' v',Wrote w (μ k) v m xs (Lib.byteCells new) N.tB N.tU v' w' -> ∃ μ',Rel N c 0 A μ' lam (.init [] H' n') bareAct w' := by
 -- a builder whose row is given up (if it has one),written
 have main : ∀ {H0:Nat->Option O} (g:Option Nat) (p v:Value) (l:List UInt8),Rel N c 0 A μ lam (.init [] H0 n) bareAct w->H0 k=some (.raw (.bld g))->(∀ q,v.ownBlock=some q->Orphan c A μ lam (.init [] H0 n) q) ->
  w.heap[μ k]? = some (.cells #[p,v] N.tB (0,0))->v.ownBlock≠some (μ k) -> ∀ w' v',Wrote w (μ k) v l.length (Lib.byteCells l) (Lib.byteCells new) N.tB N.tU v' w' -> l++new≠[] ->
  ∃ μ',Rel N c 0 A μ' lam (.init [] (upd (upd H0 n (some (.raw (.buf (l++new))))) k (some (.raw (.bld (some n))))) (n+1)) bareAct w' := by
  intro H0 g p v l R0 hk hor hb hvb w' v' hw hne
  have R1:=R0.changeB hk (by intro l h; cases h) hw.size (gb:=v.ownBlock) hor hw.oth hw.shp ⟨_,_,hw.blk⟩ hw.out
  have R2:=R1.more (Nat.le_succ n)
  obtain ⟨g',cap,cur,rfl,_,hg',hc1,hc2,hc3,hc4⟩ : ∃ g cap cur,v' = .slice (some ⟨g,0,none⟩) (l.length+(Lib.byteCells new).length) cap/\0<=g/\w'.heap[g]? = some (.cells cur N.tU (0,0))/\l.length+(Lib.byteCells new).length<=cap/\cap<=maxLen/\cur.size=cap*1/\cur.toList.take ((l.length+(Lib.byteCells new).length)*1)=Lib.byteCells l++Lib.byteCells new:=by
   rcases hw.own.2 with ⟨_,h0⟩ | h
   ·exfalso
    apply hne
    have:l.length=0/\new.length=0:=by
     rw [Lib.byteCells_length] at h0; omega
    rw [List.eq_nil_of_length_eq_zero this.1,List.eq_nil_of_length_eq_zero this.2]; rfl
   ·exact h
  rw [Lib.byteCells_length] at hc1 hc4
  have hkn:k≠n:=by
   rintro rfl
   have:=R0.fresh k (Nat.le_refl _)
   simp [St.init,hk] at this
  have hHn:(upd H0 k (some (.raw .mid))) n=none:=by
   rw [upd_other _ _ (Ne.symm hkn)]
   exact R0.fresh n (Nat.le_refl _)
  -- the row
  have horp:Orphan c A μ lam (.init [] (upd H0 k (some (.raw .mid))) (n+1)) g' := by
   rcases hw.new with hsame | ⟨g2,hg2,hge⟩
   ·have hq:=hor g' (by rw [<- hsame]; rfl)
    refine ⟨hq.a,fun t ht=>by simp [St.init] at ht,fun k1 o1 h1 l1 e => ?_,hq.x⟩
    by_cases e1:k1=k
    ·subst e1
     exact hvb (by rw [<- hsame]; simp [Value.ownBlock,e])
    ·exact hq.h k1 o1 (by simpa only [St.init,upd_other _ _ e1] using h1) l1 e
   ·simp only [Value.ownBlock,Option.some.injEq] at hg2
    subst hg2
    refine ⟨fun h => ?_,fun t ht=>by simp [St.init] at ht,fun k1 o1 h1 l1 e => ?_, .inr (Nat.le_trans R0.csize hge)⟩
    ·have:=R0.alt _ h; omega
    ·by_cases e1:k1=k
     ·subst e1
      have:=R0.lt_live hk rfl; omega
     ·have:=R0.lt_live (k:=k1) (o:=o1) (by simpa only [St.init,upd_other _ _ e1] using h1) l1
      omega
  have R3:=R2.adoptH (k:=n) (r:=g') (o:=.raw (.buf (l++new))) hHn (Nat.lt_succ_self n) horp ⟨cur,hg',hne,by simp; omega,by omega,by
   rw [List.length_append, <- Nat.mul_one (l.length+new.length),hc4,List.map_append]; rfl⟩ (by simp)
  have hk3:(upd (upd H0 k (some (.raw .mid))) n (some (.raw (.buf (l++new))))) k=some (.raw .mid):=by rw [upd_other _ _ hkn,upd_same]
  have hμk:upd μ n g' k=μ k:=upd_other _ _ hkn
  have R4:=R3.changeH (k:=k) (o:=.raw .mid) (o' := .raw (.bld (some n))) (w' := w') hk3 trivial rfl (by simp) (by simp) rfl rfl (fun _ _=>rfl) (fun _ _ h=>h) (fun _=>by
   refine ⟨some ⟨g',0,none⟩,l.length+(Lib.byteCells new).length,cap,by rw [hμk]; exact hw.blk, .inr ⟨l++new, ?_, ?_, ?_, ?_⟩⟩
   ·show upd (upd _ n _) k _ n=_
    rw [upd_other _ _ (Ne.symm hkn),upd_same]
   ·rw [upd_same]
   ·rw [List.length_append,Lib.byteCells_length]
   ·rw [upd_same]
    simp only [World.shape?,hg',Option.some.injEq,Prod.mk.injEq,true_and]; omega) ⟨rfl,rfl⟩
  refine ⟨upd μ n g', ?_⟩
  have e:upd (upd H0 n (some (.raw (.buf (l++new))))) k (some (.raw (.bld (some n))))=upd (upd (upd H0 k (some (.raw .mid))) n (some (.raw (.buf (l++new))))) k (some (.raw (.bld (some n)))):=by
   rw [upd_swap hkn,upd_upd]
  rw [e]
  exact R4
 unfold bldAdd at h
 split at h
 ·rename_i hk
  split at h
  ·rename_i hlen
   obtain ⟨p,v,l,h1,h2,h3,h4,h5,_⟩:=bld_block R hk (by intro q h; cases h)
   obtain ⟨rfl,rfl⟩:=h5 rfl
   refine ⟨p,_,0,[],h1,h2,h3,by simpa using hlen,fun w' v' hw => ?_⟩
   split at h
   ·rename_i hnew
    cases h
    subst hnew
    have hv' := hw.nil.2 ⟨rfl,rfl⟩
    subst hv'
    have R1:=R.changeB hk (by intro l h; cases h) hw.size (gb:=none) (by intro g h; cases h) (fun r hr hrk _=>hw.oth r hr hrk (by simp [Value.ownBlock])) hw.shp ⟨_,_,hw.blk⟩ hw.out
    have R2:=R1.changeH (k:=k) (o:=.raw .mid) (o' := .raw (.bld none)) (w' := w') (upd_same _ _ _) trivial rfl (by simp) (by simp) rfl rfl (fun _ _=>rfl) (fun _ _ h=>h) (fun _=>⟨_,hw.blk, .inr rfl⟩) ⟨rfl,rfl⟩
    refine ⟨μ, ?_⟩
    simp only [St.init,upd_upd,upd_id hk] at R2
    exact R2
   ·rename_i hnew
    cases h
    simpa using main none p _ [] R hk (by intro q h; simp [Value.ownBlock] at h) h1 (by simp [Value.ownBlock]) w' v' hw (by simpa using hnew)
  ·cases h
 ·rename_i g hk
  split at h
  ·rename_i l hg
   split at h
   ·rename_i hlen
    cases h
    obtain ⟨p,v,l',h1,h2,h3,h4,_,h6⟩:=bld_block R hk (fun q h=>by cases h; exact ⟨l,hg⟩)
    obtain ⟨h7,h8,_⟩:=h6 g rfl
    rw [hg] at h7; cases h7
    have hgk:g≠k:=by rintro rfl; rw [hg] at hk; cases hk
    refine ⟨p,v,l.length,_,h1,h2,h3,hlen,fun w' v' hw => ?_⟩
    have hvq : ∀ q,v.ownBlock=some q->q=μ g:=by intro q hq; rw [h4] at hq; simpa using hq.symm
    exact main (some g) p v l (R.kill hg) (by simp only [upd_other _ _ (Ne.symm hgk)]; exact hk) (fun q hq=>by rw [hvq q hq]; exact R.orphan_kill hg rfl (by simp)) h1 (by
     intro hq
     exact hgk (R.hinj g k _ _ hg hk rfl rfl (hvq _ hq).symm)) w' v' hw (by simp [h8])
   ·cases h
  ·cases h
 ·cases h
theorem two_args {w:World} {A:Nat->Prop} {nm μ:Nat->Nat} {H:Nat->Option O} {vs:Array Value} {x y:V} (h:RepArgs w A nm μ H vs [x,y]) : ∃ u v,vs = #[u,v]/\RepV w A nm μ H u x/\RepV w A nm μ H v y:=by
 obtain ⟨h1,h2⟩:=h
 obtain ⟨u,hu,hr⟩:=h2 0 x rfl
 obtain ⟨v,hv,hs⟩:=h2 1 y rfl
 refine ⟨u,v, ?_,hr,hs⟩
 apply Array.ext_getElem?
 intro i
 match i with
 | 0=>simpa using hu
 | 1=>simpa using hv
 | i+2=>rw [Array.getElem?_eq_none (by simp at h1; omega),Array.getElem?_eq_none (by simp)]
theorem bld_ptr {w:World} {A:Nat->Prop} {nm μ:Nat->Nat} {H:Nat->Option O} {v:Value} {k:Nat} {x:Bx} (h:RepV w A nm μ H v (.mp k 0 0)) (hk:H k=some (.raw x)):v = .pointer (some ⟨μ k,0,none⟩):=by
 cases (h:RepC w A nm μ H v (.mp k 0 0)) with
 | mp _ _ _ _ _ _ hk' => rw [hk] at hk'; cases hk'
 | mb _ _ _=>rfl
 | dmp _ _ _ hk' => rw [hk] at hk'; cases hk'
theorem bldAdd_raw {k n' : Nat} {new:List UInt8} {H' : Nat->Option O} (h:bldAdd H n k new=some (H',n')) : ∃ x,H k=some (.raw x):=by
 unfold bldAdd at h
 split at h
 ·rename_i hk; exact ⟨_,hk⟩
 ·rename_i g hk; exact ⟨_,hk⟩
 ·cases h
theorem ext_bldS {P:Program} {g:Nat} {ρ:Ren} (Ly:Lays.n166 P ρ) (X:Builder.Extra P ρ) (hf:ρ.f 166=N.nm g) (hB:ρ.t 72=N.tB) (hU:ρ.t 5=N.tU) {rf:Func} (hr:Real P (N.nm g) rf):ExtOK P N g .bldS:=by
 refine ⟨⟨rf,hr⟩,fun args H n r H' n' h c A μ lam w vs R ha => ?_,fun _ _ h=>by simp [extPure] at h⟩
 rw [<- hf]
 unfold extSem at h
 split at h
 all_goals (try contradiction)
 rename_i k s _
 simp only [Option.map_eq_some_iff,Prod.exists,Prod.mk.injEq] at h
 obtain ⟨H2,n2,hadd,rfl,rfl,rfl⟩:=h
 obtain ⟨u1,u2,rfl,hv1,hv2⟩:=two_args ha
 cases hv2.str_inv
 obtain ⟨x,hk⟩:=bldAdd_raw hadd
 cases bld_ptr hv1 hk
 obtain ⟨p,v,m,xs,h1,h2,h3,h4,h5⟩:=rel_add R hadd
 rw [<- hB] at h1
 rw [<- hU] at h3
 have hsz:s.data.toList.length=s.size:=by rw [Array.length_toList]; rfl
 refine (wrote_string Ly X (μ k) p v m xs s w h1 h2 h3 (by omega)).mono ?_
 rintro e w' ⟨rfl,v',hw⟩
 rw [hB,hU] at hw
 obtain ⟨μ',R'⟩:=h5 w' v' hw
 refine ⟨_,A,μ',lam,rfl,R',⟨_,rfl,rfl,fun i x hi => ?_⟩⟩
 match i,hi with
 | 0,hi=>simp at hi; subst hi; exact ⟨_,rfl,RepC.t (.int _ _)⟩
 | 1,hi=>simp at hi; subst hi; exact ⟨_,rfl,RepC.t .nili⟩
theorem ext_bldB {P:Program} {g:Nat} {ρ:Ren} (Ly:Lays.n167 P ρ) (X:Builder.Extra P ρ) (hf:ρ.f 167=N.nm g) (hB:ρ.t 72=N.tB) (hU:ρ.t 5=N.tU) {rf:Func} (hr:Real P (N.nm g) rf):ExtOK P N g .bldB:=by
 refine ⟨⟨rf,hr⟩,fun args H n r H' n' h c A μ lam w vs R ha => ?_,fun _ _ h=>by simp [extPure] at h⟩
 rw [<- hf]
 unfold extSem at h
 split at h
 all_goals (try contradiction)
 rename_i k z _
 split at h
 ·rename_i hz
  simp only [Option.map_eq_some_iff,Prod.exists,Prod.mk.injEq] at h
  obtain ⟨H2,n2,hadd,rfl,rfl,rfl⟩:=h
  obtain ⟨u1,u2,rfl,hv1,hv2⟩:=two_args ha
  cases hv2.int_inv
  obtain ⟨x,hk⟩:=bldAdd_raw hadd
  cases bld_ptr hv1 hk
  obtain ⟨p,v,m,xs,h1,h2,h3,h4,h5⟩:=rel_add R hadd
  rw [<- hB] at h1
  rw [<- hU] at h3
  refine (wrote_byte Ly X (μ k) p v m xs z w h1 h2 h3 (by simpa using h4)).mono ?_
  rintro e w' ⟨rfl,v',hw⟩
  rw [hB,hU] at hw
  have hzz:Lib.byteCells [UInt8.ofNat z.toNat]=[.int .u8 z]:=by
   have:((UInt8.ofNat z.toNat).toNat:Int)=z:=by
    rw [UInt8.toNat_ofNat',Nat.mod_eq_of_lt (by omega)]; omega
   simp only [Lib.byteCells,List.map_cons,List.map_nil,this]
  obtain ⟨μ',R'⟩:=h5 w' v' (by rw [hzz]; exact hw)
  exact ⟨_,A,μ',lam,rfl,R',(RepC.t .nili).toV⟩
 ·cases h
theorem rel_took (R:Rel N c 0 A μ lam (.init [] H n) bareAct w) {w' : World} {gb:Option Nat} (ht:Took w gb w') (hgb : ∀ g,gb=some g->Orphan c A μ lam (.init [] H n) g):Rel N c 0 A μ lam (.init [] H n) bareAct w' := by
 refine R.world (by rw [ht.size]; exact Nat.le_refl _) ?_ ?_ ht.shp (Marks.nil _ _ _) ht.out
 ·rintro r (h | h | ⟨k,o,hk,hl,rfl⟩)
  ·exact ht.oth r (fun e=>(hgb r e.symm).a h)
  ·obtain ⟨t,ht,_⟩:=h
   simp [St.init] at ht
  ·exact ht.oth _ (fun e=>(hgb _ e.symm).h k o hk hl rfl)
 ·intro r hr hx
  refine ht.oth r (fun e => ?_)
  rcases (hgb r e.symm).x with h | h
  ·exact hx h
  ·omega
theorem ext_bldG {P:Program} {g:Nat} {ρ:Ren} (Ly:Lays.n169 P ρ) (X:Builder.Extra P ρ) (hf:ρ.f 169=N.nm g) (hB:ρ.t 72=N.tB) (hU:ρ.t 5=N.tU) {rf:Func} (hr:Real P (N.nm g) rf):ExtOK P N g .bldG:=by
 refine ⟨⟨rf,hr⟩,fun args H n r H' n' h c A μ lam w vs R ha => ?_,fun _ _ h=>by simp [extPure] at h⟩
 rw [<- hf]
 unfold extSem at h
 split at h
 all_goals (try contradiction)
 rename_i k _
 obtain ⟨u1,rfl,hv1⟩:=one_arg ha
 split at h
 ·rename_i hk
  cases h
  cases bld_ptr hv1 hk
  obtain ⟨p,v,l,h1,h2,h3,h4,h5,_⟩:=bld_block R hk (by intro q h; cases h)
  obtain ⟨rfl,rfl⟩:=h5 rfl
  rw [<- hB] at h1
  refine (took_empty Ly X (μ k) p w h1).mono ?_
  rintro e w' ⟨rfl,ht⟩
  exact ⟨_,A,μ,lam,rfl,rel_took (R.kill hk) ht (by intro g h; cases h),(RepC.t (.str _)).toV⟩
 ·rename_i q hk
  split at h
  ·rename_i l hq
   cases h
   cases bld_ptr hv1 hk
   obtain ⟨p,v,l',h1,h2,h3,h4,_,h6⟩:=bld_block R hk (fun q' h=>by cases h; exact ⟨l,hq⟩)
   obtain ⟨h7,h8,cap,rfl⟩:=h6 q rfl
   rw [hq] at h7; cases h7
   rw [<- hB] at h1
   rw [<- hU] at h3
   have hqk:q≠k:=by rintro rfl; rw [hq] at hk; cases hk
   refine (took_string Ly X (μ k) p (μ q) cap l w h1 h3 h8).mono ?_
   rintro e w' ⟨rfl,ht⟩
   have R1:Rel N c 0 A μ lam (.init [] (upd (upd H q (some .dead)) k (some .dead)) n) bareAct w:=(R.kill hq).kill (k:=k) (o:=.raw (.bld (some q))) (by simp only [upd_other _ _ (Ne.symm hqk)]; exact hk)
   have hor:=R.orphan_kill hq rfl (by simp)
   refine ⟨_,A,μ,lam,rfl,rel_took R1 ht ?_,(RepC.t (.str _)).toV⟩
   intro g2 hg2
   cases hg2
   refine ⟨hor.a,fun t ht=>by simp [St.init] at ht,fun k1 o1 hk1 l1 => ?_,hor.x⟩
   have hk1' : upd (upd H q (some .dead)) k (some .dead) k1=some o1:=hk1
   by_cases e:k1=k
   ·subst e; rw [upd_same] at hk1'; cases hk1'; cases l1
   ·rw [upd_other _ _ e] at hk1'; exact hor.h k1 o1 hk1' l1
  ·cases h
 ·cases h
theorem ext_itoa {P : Program} {g q j : Nat} {ρ : Ren} (Ly : LaysM.n171 P ρ) (hf : ρ.f 171 = N.nm g) (hq : P.globalNamed "internal/strconv.uint64pow10" = some q) (hgm : N.gm j = q) (hG : N.G j = Lib.pow10Tab.map (T.int .u64))
 {rf:Func} (hr:Real P (N.nm g) rf):ExtOK P N g .itoa:=by
 refine ⟨⟨rf,hr⟩,fun args H n r H' n' h=>by simp [extSem] at h,fun args r h => ?_⟩
 intro A w vs hA hgl ha
 rw [<- hf]
 unfold extPure at h
 split at h
 all_goals (try contradiction)
 rename_i z _
 split at h
 ·rename_i hz
  cases h
  obtain ⟨u1,rfl,hv1⟩:=one_arg ha
  cases hv1.int_inv
  have htab : Lib.TabIs P w "internal/strconv.uint64pow10" .u64 Lib.pow10Tab := by
   have h0:=hgl j 0 (.int .u64 1) (by rw [hG]; rfl)
   obtain ⟨_,⟨e0,hsh⟩,_⟩:=h0
   rw [hgm] at hsh
   unfold World.shape? at hsh
   unfold Lib.TabIs World.var?
   rw [hq]
   cases hb:w.heap[q]? with
   | none=>rw [hb] at hsh; cases hsh
   | some o =>
    rw [hb] at hsh
    cases o with
    | cells cs e z0 =>
     simp only [Option.some.injEq,Prod.mk.injEq] at hsh
     simp only [Option.bind_some,hb,Option.some.injEq]
     apply Array.ext_getElem?
     intro i
     by_cases hi:i<Lib.pow10Tab.length
     ·obtain ⟨_,_,v,hv,hrep⟩:=hgl j i (.int .u64 Lib.pow10Tab[i]) (by rw [hG,List.getElem?_map,List.getElem?_eq_getElem hi]; rfl)
      rw [hgm,Lib.cell_of_heap hb] at hv
      cases hrep
      rw [hv]; simp [hi]
     ·rw [Array.getElem?_eq_none (by rw [hsh.2,hG]; simp; omega),Array.getElem?_eq_none (by simp; omega)]
    | _=>cases hsh
  refine (Any.strconv_Itoa Ly z hz.1 hz.2 w htab).mono ?_
  rintro e w' ⟨rfl,k,os,rfl⟩
  have hget : ∀ r,r<w.heap.size->(grow (w.drewN k) os).heap[r]? = w.heap[r]? := fun r hr=>by
   simp [grow,Array.getElem?_append,hr]
  refine ⟨_,rfl,⟨?_, ?_⟩, ?_,hget,(RepC.t (.str _)).toV⟩
  ·rfl
  ·rfl
  ·simp [grow]
 ·cases h
theorem strsOf_get : ∀ {es:List (List T)} {l:List ByteArray},strsOf es=some l->es.length=l.length /\ ∀ (i:Nat) (s:ByteArray),l[i]? = some s->es[i]? = some [.str s]
 | [],l,h=>by simp only [strsOf,Option.some.injEq] at h; subst h; simp
 | e::es,l,h=>by
  unfold strsOf at h
  split at h
  ·rename_i h0; cases h0
  ·rename_i s r' h0
   cases h0
   rw [Option.map_eq_some_iff] at h
   obtain ⟨l',hl,rfl⟩:=h
   obtain ⟨h1,h2⟩:=strsOf_get hl
   refine ⟨by simp [h1],fun i s' hi => ?_⟩
   cases i with
   | zero=>simp at hi; subst hi; rfl
   | succ i=>simpa using h2 i s' (by simpa using hi)
  ·cases h
theorem ext_join {P:Program} {g:Nat} {ρ:Ren} (Ly:Lays.n156 P ρ) (X:Builder.Extra P ρ) (hf:ρ.f 156=N.nm g) {rf:Func} (hr:Real P (N.nm g) rf):ExtOK P N g .joinS:=by
 refine ⟨⟨rf,hr⟩,fun args H n r H' n' h=>by simp [extSem] at h,fun args r h => ?_⟩
 intro A w vs hA hgl ha
 rw [<- hf]
 unfold extPure at h
 split at h
 all_goals (try contradiction)
 rename_i es sep _
 simp only [Option.bind_eq_some_iff] at h
 obtain ⟨l,hl,h⟩:=h
 split at h
 ·rename_i hb
  cases h
  obtain ⟨u1,u2,rfl,hv1,hv2⟩:=two_args ha
  cases hv2.str_inv
  obtain ⟨h1,h2⟩:=strsOf_get hl
  have hjs:(Lib.join (l.map (·.data.toList)) sep.data.toList).length<=140737488355328:=by
   have:=hb.2
   unfold joinB at this
   simpa [ByteArray.size] using this
  have fin : ∀ (e:Ending) (w' : World),(e = .returned (.string (joinB l sep))/\Below w.heap.size w w') -> ∃ v,e = .returned v/\(w'.os=w.os/\w'.output=w.output)/\w.heap.size<=w'.heap.size/\(∀ q,q<w.heap.size->w'.heap[q]? = w.heap[q]?) /\
   RepV w' (fun q=>A q\/(w.heap.size<=q/\q<w'.heap.size)) N.nm (fun _=>0) (fun _=>none) v (.t (.str (joinB l sep))):=by
   rintro e w' ⟨rfl,hbl⟩
   exact ⟨_,rfl,⟨hbl.os,hbl.output⟩,hbl.size,hbl.block,(RepC.t (.str _)).toV⟩
  cases hv1.t_inv with
  | sl0 a cap =>
   have:l=[]:=List.eq_nil_of_length_eq_zero (by simpa using h1.symm)
   subst this
   refine (Any.strings_Join_none Ly X a cap sep w).mono ?_
   rintro e w' ⟨rfl,rfl⟩
   exact fin _ _ ⟨rfl,Below.refl _ _⟩
  | sl r0 off cap sz es vf h0 hc hA0 hs hvv hrr =>
   have hcell : ∀ (j:Nat) (x:ByteArray),l[j]? = some x->w.cell? ⟨r0,off+j,none⟩=some (.string x):=by
    intro j x hj
    have hej:=h2 j x hj
    have g1:=hs j _ hej
    simp at g1
    subst g1
    have g2:=hvv j _ 0 _ hej rfl
    have g3:=hrr j _ 0 _ hej rfl
    cases g3' : vf j 0 <;> rw [g3'] at g3 <;> cases g3
    rw [g3'] at g2
    simpa using g2
   rw [h1]
   exact (Any.strings_Join Ly X r0 off cap l sep w hcell (hA r0 hA0) hb.1 (by omega) hjs).mono fin
 ·cases h
end Rg
end
section
namespace Go.Proofs
open Go.Shelf
def Tryz.lays189_ren:Go.Shelf.Ren:=⟨fun | 189=>116 | 125=>138 | 257=>137 | 128=>169 | 129=>170 | 294=>160 | 295=>161 | 296=>162 | 297=>163 | 298=>164 | 299=>165 | 216=>166 | 300=>167 | 301=>168 | 328=>181 | 329=>182 | 330=>183 | 331=>184 | 332=>185 | 215=>186 | 343=>190 | n=>n,fun | 28=>42 | 3=>3 | 46=>120 | 0=>0 | 51=>186 | 53=>169 | 4=>4 | 183=>179 | 182=>178 | 131=>183 | 5=>5 | 9=>9 | 218=>193 | 222=>197 | 228=>199 | 229=>200 | n=>n,fun | n=>n⟩
theorem Tryz.lays189:Go.Proofs.Lays.n189 Tryz.prog Tryz.lays189_ren:={
 mixed:=by kernel_rfl
 f125:=Tryz.func138.trans (congrArg some (by kernel_rfl))
 f128:=Tryz.func169.trans (congrArg some (by kernel_rfl))
 f129:=Tryz.func170.trans (congrArg some (by kernel_rfl))
 f189:=Tryz.func116.trans (congrArg some (by kernel_rfl))
 f215:=Tryz.func186.trans (congrArg some (by kernel_rfl))
 f216:=Tryz.func166.trans (congrArg some (by kernel_rfl))
 f257:=Tryz.func137.trans (congrArg some (by kernel_rfl))
 f294:=Tryz.func160.trans (congrArg some (by kernel_rfl))
 f295:=Tryz.func161.trans (congrArg some (by kernel_rfl))
 f296:=Tryz.func162.trans (congrArg some (by kernel_rfl))
 f297:=Tryz.func163.trans (congrArg some (by kernel_rfl))
 f298:=Tryz.func164.trans (congrArg some (by kernel_rfl))
 f299:=Tryz.func165.trans (congrArg some (by kernel_rfl))
 f300:=Tryz.func167.trans (congrArg some (by kernel_rfl))
 f301:=Tryz.func168.trans (congrArg some (by kernel_rfl))
 f328:=Tryz.func181.trans (congrArg some (by kernel_rfl))
 f329:=Tryz.func182.trans (congrArg some (by kernel_rfl))
 f330:=Tryz.func183.trans (congrArg some (by kernel_rfl))
 f331:=Tryz.func184.trans (congrArg some (by kernel_rfl))
 f332:=Tryz.func185.trans (congrArg some (by kernel_rfl))
 f343:=Tryz.func190.trans (congrArg some (by kernel_rfl))
 t0:=Tryz.underlying0
 a0:=Tryz.isAgg0
 z0:=Tryz.sizeOf0
 v0:=Tryz.zeroValue0
 t3:=Tryz.underlying3
 a3:=Tryz.isAgg3
 z3:=Tryz.sizeOf3
 v3:=Tryz.zeroValue3
 t4:=Tryz.underlying4
 a4:=Tryz.isAgg4
 z4:=Tryz.sizeOf4
 v4:=Tryz.zeroValue4
 t5:=Tryz.underlying5
 a5:=Tryz.isAgg5
 z5:=Tryz.sizeOf5
 v5:=Tryz.zeroValue5
 t9:=Tryz.underlying9
 a9:=Tryz.isAgg9
 z9:=Tryz.sizeOf9
 v9:=Tryz.zeroValue9
 t28:=Tryz.underlying42
 a28:=Tryz.isAgg42
 z28:=Tryz.sizeOf42
 v28:=Tryz.zeroValue42
 t46:=Tryz.underlying120
 a46:=Tryz.isAgg120
 z46:=Tryz.sizeOf120
 v46:=Tryz.zeroValue120
 t51:=Tryz.underlying186
 a51:=Tryz.isAgg186
 z51:=Tryz.sizeOf186
 v51:=Tryz.zeroValue186
 t53:=Tryz.underlying169
 a53:=Tryz.isAgg169
 z53:=Tryz.sizeOf169
 v53:=Tryz.zeroValue169
 t131:=Tryz.underlying183
 a131:=Tryz.isAgg183
 z131:=Tryz.sizeOf183
 v131:=Tryz.zeroValue183
 t182:=Tryz.underlying178
 a182:=Tryz.isAgg178
 z182:=Tryz.sizeOf178
 v182:=Tryz.zeroValue178
 t183:=Tryz.underlying179
 a183:=Tryz.isAgg179
 z183:=Tryz.sizeOf179
 v183:=Tryz.zeroValue179
 t218:=Tryz.underlying193
 a218:=Tryz.isAgg193
 z218:=Tryz.sizeOf193
 v218:=Tryz.zeroValue193
 t222:=Tryz.underlying197
 a222:=Tryz.isAgg197
 z222:=Tryz.sizeOf197
 v222:=Tryz.zeroValue197
 t228:=Tryz.underlying199
 a228:=Tryz.isAgg199
 z228:=Tryz.sizeOf199
 v228:=Tryz.zeroValue199
 t229:=Tryz.underlying200
 a229:=Tryz.isAgg200
 z229:=Tryz.sizeOf200
 v229:=Tryz.zeroValue200 }
def Tryz.lays2n20_ren:Go.Shelf.Ren:=⟨fun | 20=>117 | n=>n,fun | 22=>42 | 3=>3 | 4=>4 | 0=>0 | n=>n,fun | n=>n⟩
theorem Tryz.lays2n20:Go.Proofs.Lays2.n20 Tryz.prog Tryz.lays2n20_ren:={
 mixed:=by kernel_rfl
 f20:=Tryz.func117.trans (congrArg some (by kernel_rfl))
 t0:=Tryz.underlying0
 a0:=Tryz.isAgg0
 z0:=Tryz.sizeOf0
 v0:=Tryz.zeroValue0
 t3:=Tryz.underlying3
 a3:=Tryz.isAgg3
 z3:=Tryz.sizeOf3
 v3:=Tryz.zeroValue3
 t4:=Tryz.underlying4
 a4:=Tryz.isAgg4
 z4:=Tryz.sizeOf4
 v4:=Tryz.zeroValue4
 t22:=Tryz.underlying42
 a22:=Tryz.isAgg42
 z22:=Tryz.sizeOf42
 v22:=Tryz.zeroValue42
 i3:=by kernel_rfl }
def Tryz.laysM171_ren:Go.Shelf.Ren:=⟨fun | 171=>57 | 243=>107 | 246=>133 | 283=>153 | 284=>154 | 285=>155 | 286=>156 | 129=>170 | 317=>176 | 318=>177 | 319=>178 | 320=>179 | 337=>188 | 338=>189 | n=>n,fun | 3=>3 | 9=>9 | 2=>2 | 4=>4 | 171=>168 | 0=>0 | 53=>169 | 37=>57 | 5=>5 | 173=>172 | 212=>190 | 51=>186 | 20=>20 | 213=>191 | 46=>120 | 232=>202 | 233=>203 | n=>n,fun | 17=>2 | 18=>4 | 19=>5 | n=>n⟩
theorem Tryz.laysM171:Go.Proofs.LaysM.n171 Tryz.prog Tryz.laysM171_ren:={
 mixed:=by kernel_rfl
 f129:=Tryz.func170.trans (congrArg some (by kernel_rfl))
 f171:=Tryz.func57.trans (congrArg some (by kernel_rfl))
 f243:=Tryz.func107.trans (congrArg some (by kernel_rfl))
 f246:=Tryz.func133.trans (congrArg some (by kernel_rfl))
 f283:=Tryz.func153.trans (congrArg some (by kernel_rfl))
 f284:=Tryz.func154.trans (congrArg some (by kernel_rfl))
 f285:=Tryz.func155.trans (congrArg some (by kernel_rfl))
 f286:=Tryz.func156.trans (congrArg some (by kernel_rfl))
 f317:=Tryz.func176.trans (congrArg some (by kernel_rfl))
 f318:=Tryz.func177.trans (congrArg some (by kernel_rfl))
 f319:=Tryz.func178.trans (congrArg some (by kernel_rfl))
 f320:=Tryz.func179.trans (congrArg some (by kernel_rfl))
 f337:=Tryz.func188.trans (congrArg some (by kernel_rfl))
 f338:=Tryz.func189.trans (congrArg some (by kernel_rfl))
 t0:=Tryz.underlying0
 a0:=Tryz.isAgg0
 z0:=Tryz.sizeOf0
 v0:=Tryz.zeroValue0
 t2:=Tryz.underlying2
 a2:=Tryz.isAgg2
 z2:=Tryz.sizeOf2
 v2:=Tryz.zeroValue2
 t3:=Tryz.underlying3
 a3:=Tryz.isAgg3
 z3:=Tryz.sizeOf3
 v3:=Tryz.zeroValue3
 t4:=Tryz.underlying4
 a4:=Tryz.isAgg4
 z4:=Tryz.sizeOf4
 v4:=Tryz.zeroValue4
 t5:=Tryz.underlying5
 a5:=Tryz.isAgg5
 z5:=Tryz.sizeOf5
 v5:=Tryz.zeroValue5
 t9:=Tryz.underlying9
 a9:=Tryz.isAgg9
 z9:=Tryz.sizeOf9
 v9:=Tryz.zeroValue9
 t20:=Tryz.underlying20
 a20:=Tryz.isAgg20
 z20:=Tryz.sizeOf20
 v20:=Tryz.zeroValue20
 t37:=Tryz.underlying57
 a37:=Tryz.isAgg57
 z37:=Tryz.sizeOf57
 v37:=Tryz.zeroValue57
 t46:=Tryz.underlying120
 a46:=Tryz.isAgg120
 z46:=Tryz.sizeOf120
 v46:=Tryz.zeroValue120
 t51:=Tryz.underlying186
 a51:=Tryz.isAgg186
 z51:=Tryz.sizeOf186
 v51:=Tryz.zeroValue186
 t53:=Tryz.underlying169
 a53:=Tryz.isAgg169
 z53:=Tryz.sizeOf169
 v53:=Tryz.zeroValue169
 t171:=Tryz.underlying168
 a171:=Tryz.isAgg168
 z171:=Tryz.sizeOf168
 v171:=Tryz.zeroValue168
 t173:=Tryz.underlying172
 a173:=Tryz.isAgg172
 z173:=Tryz.sizeOf172
 v173:=Tryz.zeroValue172
 t212:=Tryz.underlying190
 a212:=Tryz.isAgg190
 z212:=Tryz.sizeOf190
 v212:=Tryz.zeroValue190
 t213:=Tryz.underlying191
 a213:=Tryz.isAgg191
 z213:=Tryz.sizeOf191
 t232:=Tryz.underlying202
 a232:=Tryz.isAgg202
 z232:=Tryz.sizeOf202
 v232:=Tryz.zeroValue202
 t233:=Tryz.underlying203
 a233:=Tryz.isAgg203
 z233:=Tryz.sizeOf203
 v233:=Tryz.zeroValue203
 g17:=by kernel_rfl
 g18:=by kernel_rfl
 g19:=by kernel_rfl
 i0:=by kernel_rfl
 i2:=by kernel_rfl
 i3:=by kernel_rfl
 i4:=by kernel_rfl
 i5:=by kernel_rfl
 i9:=by kernel_rfl
 i20:=by kernel_rfl
 i37:=by kernel_rfl
 i46:=by kernel_rfl
 i51:=by kernel_rfl
 i53:=by kernel_rfl
 i171:=by kernel_rfl
 i173:=by kernel_rfl
 i212:=by kernel_rfl
 i232:=by kernel_rfl
 i233:=by kernel_rfl
 m17:=by kernel_rfl
 m18:=by kernel_rfl
 m19:=by kernel_rfl }
def Tryz.lays156_ren:Go.Shelf.Ren:=⟨fun | 167=>110 | 156=>109 | 165=>135 | 166=>108 | 169=>64 | 240=>134 | 241=>158 | 276=>157 | 277=>180 | n=>n,fun | 31=>98 | 9=>9 | 3=>3 | 4=>4 | 0=>0 | 20=>20 | 72=>93 | 76=>137 | 70=>91 | 37=>57 | 75=>136 | 127=>142 | 164=>174 | 5=>5 | 80=>101 | n=>n,fun | n=>n⟩
theorem Tryz.lays156:Go.Proofs.Lays.n156 Tryz.prog Tryz.lays156_ren:={
 mixed:=by kernel_rfl
 f156:=Tryz.func109.trans (congrArg some (by kernel_rfl))
 f165:=Tryz.func135.trans (congrArg some (by kernel_rfl))
 f166:=Tryz.func108.trans (congrArg some (by kernel_rfl))
 f169:=Tryz.func64.trans (congrArg some (by kernel_rfl))
 f240:=Tryz.func134.trans (congrArg some (by kernel_rfl))
 f241:=Tryz.func158.trans (congrArg some (by kernel_rfl))
 f276:=Tryz.func157.trans (congrArg some (by kernel_rfl))
 f277:=Tryz.func180.trans (congrArg some (by kernel_rfl))
 t0:=Tryz.underlying0
 a0:=Tryz.isAgg0
 z0:=Tryz.sizeOf0
 v0:=Tryz.zeroValue0
 t3:=Tryz.underlying3
 a3:=Tryz.isAgg3
 z3:=Tryz.sizeOf3
 v3:=Tryz.zeroValue3
 t4:=Tryz.underlying4
 a4:=Tryz.isAgg4
 z4:=Tryz.sizeOf4
 v4:=Tryz.zeroValue4
 t9:=Tryz.underlying9
 a9:=Tryz.isAgg9
 z9:=Tryz.sizeOf9
 v9:=Tryz.zeroValue9
 t20:=Tryz.underlying20
 a20:=Tryz.isAgg20
 z20:=Tryz.sizeOf20
 v20:=Tryz.zeroValue20
 t31:=Tryz.underlying98
 a31:=Tryz.isAgg98
 z31:=Tryz.sizeOf98
 v31:=Tryz.zeroValue98
 t37:=Tryz.underlying57
 a37:=Tryz.isAgg57
 z37:=Tryz.sizeOf57
 v37:=Tryz.zeroValue57
 t70:=Tryz.underlying91
 a70:=Tryz.isAgg91
 z70:=Tryz.sizeOf91
 v70:=Tryz.zeroValue91
 t72:=Tryz.underlying93
 a72:=Tryz.isAgg93
 z72:=Tryz.sizeOf93
 v72:=Tryz.zeroValue93
 t75:=Tryz.underlying136
 a75:=Tryz.isAgg136
 z75:=Tryz.sizeOf136
 v75:=Tryz.zeroValue136
 t76:=Tryz.underlying137
 a76:=Tryz.isAgg137
 z76:=Tryz.sizeOf137
 v76:=Tryz.zeroValue137
 t127:=Tryz.underlying142
 a127:=Tryz.isAgg142
 z127:=Tryz.sizeOf142
 v127:=Tryz.zeroValue142
 t164:=Tryz.underlying174
 a164:=Tryz.isAgg174
 z164:=Tryz.sizeOf174
 v164:=Tryz.zeroValue174 }
theorem Tryz.bx156:Builder.Extra Tryz.prog Tryz.lays156_ren:={
 sizeBuilder:=by kernel_rfl
 liesBuilder:=by kernel_rfl
 t5:=Tryz.underlying5
 a5:=Tryz.isAgg5
 z5:=Tryz.sizeOf5
 v5:=Tryz.zeroValue5
 infoByte:=by kernel_rfl
 cellsByte:=by kernel_rfl
 sizeByte:=by kernel_rfl
 neB5:=by decide }
theorem Tryz.lays167:Go.Proofs.Lays.n167 Tryz.prog Tryz.lays156_ren:={ Tryz.lays156 with
 f167:=Tryz.func110.trans (congrArg some (by kernel_rfl))
 t5:=Tryz.underlying5
 a5:=Tryz.isAgg5
 z5:=Tryz.sizeOf5
 v5:=Tryz.zeroValue5 }
end Go.Proofs
end
section
set_option maxRecDepth 100000
namespace Rg
open Go Go.Proofs Go.Proofs.YtamaecmfhphpeaaGreatDoor
namespace Seat
def tbl:List Nat:=[2,1000001,1000002,1000003,1000004,1000005,1000006,1000007,1000008,1000009,1000010,1000011,1000012,1000013,1000014,1000015,1000016,1000017,1000018,1000019,1000020,1000021,1000022,45,105,1000025,1000026,38,21,1000029,1000030,19,1000032,100,1000034,1000035,1000036,1000037,1000038,1000039,1000040,1000041,1000042,1000043,1000044,1000045,1000046,81,37,132,1000050,83,1000052,1000053,1000054,1000055,84,71,1000058,1000059,70,42,87,43,14,15,1000066,1000067,82,1000069,122,123,124,125,116,117,85,114,115,47,48,49,50,51,52,53,54,55,56,121,1000090,140,141,137,138,88,74,89,60,90,91,92,93,94,95,96,97,40,98,99,75,101,102,103,104,106,139,1000117,1000118,1000119,160,161,162,163,164,165,166,167,168,169,170,126,127,128,129,130,86,131,72,181,182,183,184,185,186,142,143,144,145,146,147,148,149,150,151,152,78,35,118,119,190,171,172,173,174,175,187,216,1000168,1000169,1000170,1000171,1000172,1000173,1000174,1000175,32,1000177,1000178,1000179,1000180,1000181,1000182,1000183,1000184,1000185,1000186,1000187,1000188,1000189,1000190,1000191,1000192,1000193,1000194,1000195,1000196,1000197,1000198,1000199,1000200,1000201,1000202,1000203,1000204,1000205,1000206,1000207,3,4,5,6,7,8,9,10,11,12,13,16,17,18,20,22,23,24,25,26,27,28,29,30,31,33,34,36,39,41,44,46,57,58,59,61,62,63,64,65,66,67,68,69,73,76,77,79,80,107,108,109,110,111,112,113,120,133,134,135,136,153,154,155,156,158,159,176,177,178,179,188,189]
def I:Inv:=⟨fun f=>tbl.findIdx? (· == f),fun g=>if g=1 then some 0 else if g=0 then some 1 else if g=2 then some 2 else none,some 93⟩
def N:Nam:=⟨fun k=>tbl.getD k 0,fun k=>[1,0,2].getD k 0,G,CR Tryz.prog I,93,5⟩
def raws (s:List Nat):Raws:=⟨[52,53,54,57,60,70,74,75,76,77,83,93,97,120,121,122,123,124,125,127,128,136,139,141,142,143,158,160,199,200,202,203,236,241,244,245,246,258,260,261],s,[32,78,198]⟩
def Ent (q:Nat×F):Prop:=(∃ rf rw L raw,Tryz.prog.funcs[N.nm q.1]? = some rf/\compF Tryz.prog I rw L raw rf=some q.2) \/ ∃ e,q.2.body = .ext e/\ExtOK Tryz.prog N q.1 e
theorem e23:Ent (23,f23):=.inl ⟨Tryz.f45,raws [],[2],false,Tryz.func45,by kernel_rfl⟩
theorem e24:Ent (24,f24):=.inl ⟨Tryz.f105,raws [],[3],false,Tryz.func105,by kernel_rfl⟩
theorem e28:Ent (28,f28):=.inl ⟨Tryz.f21,raws [],[5,1],false,Tryz.func21,by kernel_rfl⟩
theorem e31:Ent (31,f31):=.inl ⟨Tryz.f19,raws [],[6,1],false,Tryz.func19,by kernel_rfl⟩
theorem e33:Ent (33,f33):=.inl ⟨Tryz.f100,raws [],[],false,Tryz.func100,by kernel_rfl⟩
theorem e47:Ent (47,f47):=.inl ⟨Tryz.f81,raws [],[2],false,Tryz.func81,by kernel_rfl⟩
theorem e48:Ent (48,f48):=.inl ⟨Tryz.f37,raws [],[1],false,Tryz.func37,by kernel_rfl⟩
theorem e49:Ent (49,f49):=.inl ⟨Tryz.f132,raws [],[3],false,Tryz.func132,by kernel_rfl⟩
theorem e51:Ent (51,f51):=.inl ⟨Tryz.f83,raws [7],[],false,Tryz.func83,by kernel_rfl⟩
theorem e57:Ent (57,f57):=.inl ⟨Tryz.f71,raws [],[],true,Tryz.func71,by kernel_rfl⟩
theorem e60:Ent (60,f60):=.inl ⟨Tryz.f70,raws [],[],true,Tryz.func70,by kernel_rfl⟩
theorem e61:Ent (61,f61):=.inl ⟨Tryz.f42,raws [],[4],false,Tryz.func42,by kernel_rfl⟩
theorem e62:Ent (62,f62):=.inl ⟨Tryz.f87,raws [],[4],false,Tryz.func87,by kernel_rfl⟩
theorem e63:Ent (63,f63):=.inl ⟨Tryz.f43,raws [],[8,7,6],false,Tryz.func43,by kernel_rfl⟩
theorem e64:Ent (64,f64):=.inl ⟨Tryz.f14,raws [],[13,5,1],false,Tryz.func14,by kernel_rfl⟩
theorem e65:Ent (65,f65):=.inl ⟨Tryz.f15,raws [],[1],false,Tryz.func15,by kernel_rfl⟩
theorem e68:Ent (68,f68):=.inl ⟨Tryz.f82,raws [],[2],false,Tryz.func82,by kernel_rfl⟩
theorem e70:Ent (70,f70):=.inl ⟨Tryz.f122,raws [38],[],true,Tryz.func122,by kernel_rfl⟩
theorem e71:Ent (71,f71):=.inl ⟨Tryz.f123,raws [],[],false,Tryz.func123,by kernel_rfl⟩
theorem e74:Ent (74,f74):=.inr ⟨.sortI,rfl,ext_sort Tryz.lays189 (by kernel_rfl) (rf:=Tryz.f116) ⟨Tryz.func116,by kernel_rfl,by kernel_rfl⟩⟩
theorem e75:Ent (75,f75):=.inr ⟨.compactI,rfl,ext_compact Tryz.lays2n20 (by kernel_rfl) (rf:=Tryz.f117) ⟨Tryz.func117,by kernel_rfl,by kernel_rfl⟩⟩
theorem e76:Ent (76,f76):=.inl ⟨Tryz.f85,raws [13],[],true,Tryz.func85,by kernel_rfl⟩
theorem e77:Ent (77,f77):=.inl ⟨Tryz.f114,raws [],[],true,Tryz.func114,by kernel_rfl⟩
theorem e78:Ent (78,f78):=.inl ⟨Tryz.f115,raws [],[1],true,Tryz.func115,by kernel_rfl⟩
theorem e79:Ent (79,f79):=.inl ⟨Tryz.f47,raws [],[6,4,1],false,Tryz.func47,by kernel_rfl⟩
theorem e80:Ent (80,f80):=.inl ⟨Tryz.f48,raws [],[5,1],false,Tryz.func48,by kernel_rfl⟩
theorem e81:Ent (81,f81):=.inl ⟨Tryz.f49,raws [],[5,1],false,Tryz.func49,by kernel_rfl⟩
theorem e82:Ent (82,f82):=.inl ⟨Tryz.f50,raws [],[6,5,1],false,Tryz.func50,by kernel_rfl⟩
theorem e83:Ent (83,f83):=.inl ⟨Tryz.f51,raws [],[14,12],true,Tryz.func51,by kernel_rfl⟩
theorem e84:Ent (84,f84):=.inl ⟨Tryz.f52,raws [],[5,1],false,Tryz.func52,by kernel_rfl⟩
theorem e85:Ent (85,f85):=.inl ⟨Tryz.f53,raws [],[4,1],false,Tryz.func53,by kernel_rfl⟩
theorem e86:Ent (86,f86):=.inl ⟨Tryz.f54,raws [],[4,1],false,Tryz.func54,by kernel_rfl⟩
theorem e87:Ent (87,f87):=.inl ⟨Tryz.f55,raws [],[4,1],false,Tryz.func55,by kernel_rfl⟩
theorem e88:Ent (88,f88):=.inl ⟨Tryz.f56,raws [],[13,6,2],false,Tryz.func56,by kernel_rfl⟩
theorem e89:Ent (89,f89):=.inl ⟨Tryz.f121,raws [],[1],false,Tryz.func121,by kernel_rfl⟩
theorem e91:Ent (91,f91):=.inl ⟨Tryz.f140,raws [],[],false,Tryz.func140,by kernel_rfl⟩
theorem e95:Ent (95,f95):=.inl ⟨Tryz.f88,raws [],[],false,Tryz.func88,by kernel_rfl⟩
theorem e96:Ent (96,f96):=.inl ⟨Tryz.f74,raws [],[],false,Tryz.func74,by kernel_rfl⟩
theorem e97:Ent (97,f97):=.inl ⟨Tryz.f89,raws [],[5],true,Tryz.func89,by kernel_rfl⟩
theorem e98:Ent (98,f98):=.inl ⟨Tryz.f60,raws [],[1],false,Tryz.func60,by kernel_rfl⟩
theorem e99:Ent (99,f99):=.inl ⟨Tryz.f90,raws [],[5,4],false,Tryz.func90,by kernel_rfl⟩
theorem e100:Ent (100,f100):=.inl ⟨Tryz.f91,raws [],[2],false,Tryz.func91,by kernel_rfl⟩
theorem e101:Ent (101,f101):=.inl ⟨Tryz.f92,raws [],[],false,Tryz.func92,by kernel_rfl⟩
theorem e102:Ent (102,f102):=.inl ⟨Tryz.f93,raws [],[],false,Tryz.func93,by kernel_rfl⟩
theorem e103:Ent (103,f103):=.inl ⟨Tryz.f94,raws [],[],false,Tryz.func94,by kernel_rfl⟩
theorem e104:Ent (104,f104):=.inl ⟨Tryz.f95,raws [],[],false,Tryz.func95,by kernel_rfl⟩
theorem e105:Ent (105,f105):=.inl ⟨Tryz.f96,raws [],[13,12,7,6,4],false,Tryz.func96,by kernel_rfl⟩
theorem e106:Ent (106,f106):=.inl ⟨Tryz.f97,raws [],[],false,Tryz.func97,by kernel_rfl⟩
theorem e107:Ent (107,f107):=.inl ⟨Tryz.f40,raws [],[],false,Tryz.func40,by kernel_rfl⟩
theorem e108:Ent (108,f108):=.inl ⟨Tryz.f98,raws [],[2],false,Tryz.func98,by kernel_rfl⟩
theorem e109:Ent (109,f109):=.inl ⟨Tryz.f99,raws [],[],false,Tryz.func99,by kernel_rfl⟩
theorem e110:Ent (110,f110):=.inl ⟨Tryz.f75,raws [],[],false,Tryz.func75,by kernel_rfl⟩
theorem e111:Ent (111,f111):=.inl ⟨Tryz.f101,raws [],[1],false,Tryz.func101,by kernel_rfl⟩
theorem e112:Ent (112,f112):=.inl ⟨Tryz.f102,raws [],[5,4],false,Tryz.func102,by kernel_rfl⟩
theorem e113:Ent (113,f113):=.inl ⟨Tryz.f103,raws [],[],false,Tryz.func103,by kernel_rfl⟩
theorem e114:Ent (114,f114):=.inl ⟨Tryz.f104,raws [],[5,3],false,Tryz.func104,by kernel_rfl⟩
theorem e115:Ent (115,f115):=.inl ⟨Tryz.f106,raws [],[5,4],false,Tryz.func106,by kernel_rfl⟩
theorem e116:Ent (116,f116):=.inl ⟨Tryz.f139,raws [],[],false,Tryz.func139,by kernel_rfl⟩
theorem e131:Ent (131,f131):=.inl ⟨Tryz.f126,raws [],[],false,Tryz.func126,by kernel_rfl⟩
theorem e132:Ent (132,f132):=.inl ⟨Tryz.f127,raws [],[],false,Tryz.func127,by kernel_rfl⟩
theorem e133:Ent (133,f133):=.inl ⟨Tryz.f128,raws [],[],false,Tryz.func128,by kernel_rfl⟩
theorem e134:Ent (134,f134):=.inl ⟨Tryz.f129,raws [],[],false,Tryz.func129,by kernel_rfl⟩
theorem e135:Ent (135,f135):=.inl ⟨Tryz.f130,raws [],[0],false,Tryz.func130,by kernel_rfl⟩
theorem e136:Ent (136,f136):=.inl ⟨Tryz.f86,raws [],[],true,Tryz.func86,by kernel_rfl⟩
theorem e137:Ent (137,f137):=.inl ⟨Tryz.f131,raws [],[12,5,3],false,Tryz.func131,by kernel_rfl⟩
theorem e138:Ent (138,f138):=.inl ⟨Tryz.f72,raws [],[1],false,Tryz.func72,by kernel_rfl⟩
theorem e145:Ent (145,f145):=.inl ⟨Tryz.f142,raws [],[],false,Tryz.func142,by kernel_rfl⟩
theorem e146:Ent (146,f146):=.inl ⟨Tryz.f143,raws [],[],false,Tryz.func143,by kernel_rfl⟩
theorem e147:Ent (147,f147):=.inl ⟨Tryz.f144,raws [],[5,3],false,Tryz.func144,by kernel_rfl⟩
theorem e148:Ent (148,f148):=.inl ⟨Tryz.f145,raws [],[11,9,5,3],false,Tryz.func145,by kernel_rfl⟩
theorem e149:Ent (149,f149):=.inl ⟨Tryz.f146,raws [],[5],false,Tryz.func146,by kernel_rfl⟩
theorem e150:Ent (150,f150):=.inl ⟨Tryz.f147,raws [],[5,3],false,Tryz.func147,by kernel_rfl⟩
theorem e151:Ent (151,f151):=.inl ⟨Tryz.f148,raws [],[5,3],false,Tryz.func148,by kernel_rfl⟩
theorem e152:Ent (152,f152):=.inl ⟨Tryz.f149,raws [],[5,3],false,Tryz.func149,by kernel_rfl⟩
theorem e153:Ent (153,f153):=.inl ⟨Tryz.f150,raws [],[5,3],false,Tryz.func150,by kernel_rfl⟩
theorem e154:Ent (154,f154):=.inl ⟨Tryz.f151,raws [],[3],false,Tryz.func151,by kernel_rfl⟩
theorem e155:Ent (155,f155):=.inl ⟨Tryz.f152,raws [],[2],false,Tryz.func152,by kernel_rfl⟩
theorem e156:Ent (156,f156):=.inl ⟨Tryz.f78,raws [],[3,2],false,Tryz.func78,by kernel_rfl⟩
theorem e157:Ent (157,f157):=.inl ⟨Tryz.f35,raws [],[0],false,Tryz.func35,by kernel_rfl⟩
theorem e158:Ent (158,f158):=.inl ⟨Tryz.f118,raws [],[3],true,Tryz.func118,by kernel_rfl⟩
theorem e159:Ent (159,f159):=.inl ⟨Tryz.f119,raws [],[],false,Tryz.func119,by kernel_rfl⟩
theorem e161:Ent (161,f161):=.inl ⟨Tryz.f171,raws [],[6,2],false,Tryz.func171,by kernel_rfl⟩
theorem e162:Ent (162,f162):=.inl ⟨Tryz.f172,raws [],[6],false,Tryz.func172,by kernel_rfl⟩
theorem e163:Ent (163,f163):=.inl ⟨Tryz.f173,raws [],[2],false,Tryz.func173,by kernel_rfl⟩
theorem e164:Ent (164,f164):=.inl ⟨Tryz.f174,raws [],[],false,Tryz.func174,by kernel_rfl⟩
theorem e165:Ent (165,f165):=.inl ⟨Tryz.f175,raws [],[1],false,Tryz.func175,by kernel_rfl⟩
theorem e166:Ent (166,f166):=.inl ⟨Tryz.f187,raws [],[1],false,Tryz.func187,by kernel_rfl⟩
theorem e176:Ent (176,f176):=.inl ⟨Tryz.f32,raws [],[1],false,Tryz.func32,by kernel_rfl⟩
theorem e209:Ent (209,f209):=.inl ⟨Tryz.f4,raws [],[8,1],false,Tryz.func4,by kernel_rfl⟩
theorem e212:Ent (212,f212):=.inl ⟨Tryz.f7,raws [],[7,2],false,Tryz.func7,by kernel_rfl⟩
theorem e216:Ent (216,f216):=.inl ⟨Tryz.f11,raws [],[4,3,1],false,Tryz.func11,by kernel_rfl⟩
theorem e217:Ent (217,f217):=.inl ⟨Tryz.f12,raws [],[6,2],false,Tryz.func12,by kernel_rfl⟩
theorem e219:Ent (219,f219):=.inl ⟨Tryz.f16,raws [],[16,14,11,9,1],false,Tryz.func16,by kernel_rfl⟩
theorem e221:Ent (221,f221):=.inl ⟨Tryz.f18,raws [],[],false,Tryz.func18,by kernel_rfl⟩
theorem e224:Ent (224,f224):=.inl ⟨Tryz.f23,raws [],[9,3],false,Tryz.func23,by kernel_rfl⟩
theorem e226:Ent (226,f226):=.inl ⟨Tryz.f25,raws [],[2],false,Tryz.func25,by kernel_rfl⟩
theorem e228:Ent (228,f228):=.inl ⟨Tryz.f27,raws [],[1],false,Tryz.func27,by kernel_rfl⟩
theorem e230:Ent (230,f230):=.inl ⟨Tryz.f29,raws [],[2],false,Tryz.func29,by kernel_rfl⟩
theorem e231:Ent (231,f231):=.inl ⟨Tryz.f30,raws [],[],false,Tryz.func30,by kernel_rfl⟩
theorem e233:Ent (233,f233):=.inl ⟨Tryz.f33,raws [],[],false,Tryz.func33,by kernel_rfl⟩
theorem e234:Ent (234,f234):=.inl ⟨Tryz.f34,raws [],[23,21,19,16,15,13,8,5,4,2],false,Tryz.func34,by kernel_rfl⟩
theorem e235:Ent (235,f235):=.inl ⟨Tryz.f36,raws [],[4],false,Tryz.func36,by kernel_rfl⟩
theorem e236:Ent (236,f236):=.inl ⟨Tryz.f39,raws [],[2,1,0],true,Tryz.func39,by kernel_rfl⟩
theorem e237:Ent (237,f237):=.inl ⟨Tryz.f41,raws [],[4],false,Tryz.func41,by kernel_rfl⟩
theorem e238:Ent (238,f238):=.inl ⟨Tryz.f44,raws [],[4],false,Tryz.func44,by kernel_rfl⟩
theorem e239:Ent (239,f239):=.inl ⟨Tryz.f46,raws [],[2],false,Tryz.func46,by kernel_rfl⟩
theorem e240:Ent (240,f240):=.inr ⟨.itoa,rfl,ext_itoa Tryz.laysM171 (by kernel_rfl) (q:=2) (j:=2) (by kernel_rfl) rfl (by kernel_rfl) (rf:=Tryz.f57) ⟨Tryz.func57,by kernel_rfl,by kernel_rfl⟩⟩
theorem e241:Ent (241,f241):=.inl ⟨Tryz.f58,raws [],[],true,Tryz.func58,by kernel_rfl⟩
theorem e242:Ent (242,f242):=.inl ⟨Tryz.f59,raws [],[],false,Tryz.func59,by kernel_rfl⟩
theorem e243:Ent (243,f243):=.inl ⟨Tryz.f61,raws [10],[],false,Tryz.func61,by kernel_rfl⟩
theorem e244:Ent (244,f244):=.inl ⟨Tryz.f62,raws [],[],true,Tryz.func62,by kernel_rfl⟩
theorem e245:Ent (245,f245):=.inl ⟨Tryz.f63,raws [],[13,11,8,6,3],true,Tryz.func63,by kernel_rfl⟩
theorem e246:Ent (246,f246):=.inr ⟨.bldG,rfl,ext_bldG { Tryz.lays156 with } Tryz.bx156 (by kernel_rfl) (by kernel_rfl) (by kernel_rfl) (rf:=Tryz.f64) ⟨Tryz.func64,by kernel_rfl,by kernel_rfl⟩⟩
theorem e253:Ent (253,f253):=.inl ⟨Tryz.f76,raws [],[7,2],false,Tryz.func76,by kernel_rfl⟩
theorem e256:Ent (256,f256):=.inl ⟨Tryz.f80,raws [],[4,2],false,Tryz.func80,by kernel_rfl⟩
theorem e258:Ent (258,f258):=.inr ⟨.bldS,rfl,ext_bldS { Tryz.lays156 with } Tryz.bx156 (by kernel_rfl) (by kernel_rfl) (by kernel_rfl) (rf:=Tryz.f108) ⟨Tryz.func108,by kernel_rfl,by kernel_rfl⟩⟩
theorem e259:Ent (259,f259):=.inr ⟨.joinS,rfl,ext_join Tryz.lays156 Tryz.bx156 (by kernel_rfl) (rf:=Tryz.f109) ⟨Tryz.func109,by kernel_rfl,by kernel_rfl⟩⟩
theorem e260:Ent (260,f260):=.inr ⟨.bldB,rfl,ext_bldB Tryz.lays167 Tryz.bx156 (by kernel_rfl) (by kernel_rfl) (by kernel_rfl) (rf:=Tryz.f110) ⟨Tryz.func110,by kernel_rfl,by kernel_rfl⟩⟩
theorem e261:Ent (261,f261):=.inl ⟨Tryz.f111,raws [58],[],true,Tryz.func111,by kernel_rfl⟩
theorem e262:Ent (262,f262):=.inl ⟨Tryz.f112,raws [],[],false,Tryz.func112,by kernel_rfl⟩
theorem all : ∀ q∈tabL,Ent q:=by
 unfold tabL
 simp only [List.forall_mem_cons]
 exact ⟨e23,e24,e28,e31,e33,e47,e48,e49,e51,e57,e60,e61,e62,e63,e64,e65,e68,e70,e71,e74,e75,e76,e77,e78,e79,e80,e81,e82,e83,e84,e85,e86,e87,e88,e89,e91,e95,e96,e97,e98,e99,e100,e101,e102,e103,e104,e105,e106,e107,e108,e109,e110,e111,e112,e113,e114,e115,e116,e131,e132,e133,e134,e135,e136,e137,e138,e145,e146,e147,e148,e149,e150,e151,e152,e153,e154,e155,e156,e157,e158,e159,e161,e162,e163,e164,e165,e166,e176,e209,e212,e216,e217,e219,e221,e224,e226,e228,e230,e231,e233,e234,e235,e236,e237,e238,e239,e240,e241,e242,e243,e244,e245,e246,e253,e256,e258,e259,e260,e261,e262,fun _ h=>by cases h⟩
end Seat
end Rg
end
