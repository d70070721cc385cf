/- Part of the proof of the laws of the package relyguardlaw36: an abstract machine for the program's functions, what they compute, and that the machine is the program's. No condition. (RgBn LayR7 SeatR7) -/
import Derived.Shelf.Strings.OnBuilder
import Derived.Shelf.Strconv.Itoa3
import Derived.Test.YtaiokglcgiemnaaGreatDoorPartAQ
import Derived.Shelf.LaysM
import Derived.Shelf.Sort.Plain
import Derived.Shelf.Slices.In.SortNone
import Derived.Shelf.Slices.CompactI
import Derived.Shelf.Slices.Clone
import Derived.Test.YtaiokglcgiemnaaGreatDoorRows
import Derived.KernelRfl
set_option linter.unusedVariables false
section
namespace Rg
open Go Go.Proofs Go.Lib Go.Shelf Go.RowKit Go.Sort
variable {N:Nam} {c:Ctx} {A:Nat->Prop} {μ lam:Nat->Nat} {w:World} {H:Nat->Option O} {n:Nat}
theorem Rel.changeB (R:Rel N c 0 A μ lam (.init [] H n) bareAct w) {k:Nat} {x:Bx} {w':World} (hk:H k=some (.raw x)) (hx: ∀l,x≠ .buf l)
 (hsz:w.heap.size<=w'.heap.size) {gb:Option Nat} (hgb: ∀g,gb=some g->Orphan c A μ lam (.init [] H n) g) (hoth: ∀r,r<w.heap.size->r≠μ k->some r≠gb->w'.heap[r]? =w.heap[r]?)
 (hs: ∀r x,w.shape? r=some x->w'.shape? r=some x) (ho: ∃p v,w'.heap[μ k]? =some (.cells #[p,v] N.tB (0,0))) (hov:w'.os=w.os/\w'.output=w.output):
 Rel N c 0 A μ lam (.init [] (upd H k (some (.raw .mid))) n) bareAct w':=by
 have hl:(O.raw x).live=true:=rfl
 have hm: ∀sz rs,O.raw x≠ .rows sz rs true:=by intro sz rs h;cases h
 have hgA: ∀r,A r->some r≠gb:=fun r h e=>(hgb r e.symm).a h
 have hA: ∀r,A r->w'.heap[r]? =w.heap[r]? :=fun r h=>hoth r (R.alt r h) (fun e=>R.aH r h ⟨k,_,hk,hm,hl,e.symm⟩) (hgA r h)
 have hle:O.le (.raw x) (.raw .mid):=by cases x<;>first | trivial | exact absurd rfl (hx _)
 have hlive: ∀k1 o1,H k1=some o1->o1.live=true->k1≠k->w'.heap[μ k1]? =w.heap[μ k1]? :=fun k1 o1 h l1 hne=>hoth _ (R.lt_live h l1) (fun e=>hne (R.hinj k1 k o1 _ h hk l1 hl e)) (fun e=>(hgb _ e.symm).h k1 o1 h l1 rfl)
 have E:Evo w A μ H w' A μ (upd H k (some (.raw .mid))):=by
  refine⟨hA,fun _ h=>h,fun k1 o1 h=> ?_,hs⟩
  by_cases e:k1=k
  ·subst e;rw[hk]at h;cases h;exact⟨_,by simp,hle,fun _=>rfl⟩
  ·exact⟨o1,by rw[upd_other _ _ e];exact h,O.le_refl o1,fun _=>rfl⟩
 have hsplit: ∀k1 o1,(upd H k (some (.raw .mid))) k1=some o1->(k1=k/\o1= .raw .mid)\/(k1≠k/\H k1=some o1):=by
  intro k1 o1 h
  by_cases e:k1=k
  ·subst e;simp at h;exact .inl ⟨rfl,h.symm⟩
  ·rw[upd_other _ _ e]at h;exact .inr ⟨e,h⟩
 have hback: ∀k1 o1,(upd H k (some (.raw .mid))) k1=some o1->o1.live=true-> ∃o2,H k1=some o2/\o2.live=true:=by
  intro k1 o1 h hl1
  rcases hsplit k1 o1 h with⟨rfl,rfl⟩ | ⟨_,h⟩
  ·exact⟨_,hk,hl⟩
  ·exact⟨o1,h,hl1⟩
 exact{
  size:=rfl
  defers:=Marks.nil _ _ _
  env:=fun t=>by simp[St.init,initEnv,bareAct,RepV]
  loc:=fun t cs h=>by simp[St.init]at h
  adr:=fun t b o h=>by simp[St.init]at h
  heap:=fun k1 o1 h=>by
   rcases hsplit k1 o1 h with⟨rfl,rfl⟩ | ⟨e,h⟩
   ·exact ho
   ·cases hl1:o1.live with
    | false=>cases o1<;>simp_all [O.live];trivial
    | true=>exact(R.heap k1 o1 h).evo E (hlive k1 o1 h hl1 e)
  hinj:=fun k1 k2 o1 o2 h1 h2 l1 l2 he=>by
   obtain⟨p1,q1,m1⟩:=hback k1 o1 h1 l1
   obtain⟨p2,q2,m2⟩:=hback k2 o2 h2 l2
   exact R.hinj k1 k2 p1 p2 q1 q2 m1 m2 he
  linj:=fun t t' h=>by simp[St.init]at h
  lh:=fun t k o h=>by simp[St.init]at h
  aH:=fun r hAr hmb=>by
   obtain⟨k1,o1,h,hmm,hl1,he⟩:=hmb
   rcases hsplit k1 o1 h with⟨rfl,rfl⟩ | ⟨e,h⟩
   ·exact R.aH r hAr ⟨k1,_,hk,hm,hl,he⟩
   ·exact R.aH r hAr ⟨k1,o1,h,hmm,hl1,he⟩
  aL:=fun r _ hmb=>by obtain⟨t,h,_⟩:=hmb;simp[St.init]at h
  alt:=fun r h=>Nat.lt_of_lt_of_le (R.alt r h) hsz
  afz:=fun k1 sz rs h=>by
   rcases hsplit k1 _ h with⟨rfl,g⟩ | ⟨e,h⟩
   ·cases g
   ·exact R.afz k1 sz rs h
  fresh:=fun k1 h=>by
   have:k1≠k:=by rintro rfl;have:=R.fresh k1 h;simp only[St.init,hk]at this;cases this
   show upd H k _ k1=none
   rw[upd_other _ _ this];exact R.fresh k1 h
  glob:=fun g j y h=>by
   obtain⟨h1,⟨te,hte⟩,v,hv,hr⟩:=R.glob g j y h
   exact⟨h1,⟨te,hs _ _ hte⟩,v,by rw[cell?_eq (hA _ h1)];exact hv,hr.mono E.blk E.sub⟩
  cout:=⟨hov.1.trans R.cout.1,hov.2.trans R.cout.2⟩
  csize:=Nat.le_trans R.csize hsz
  ckeep:=fun r h1 h2=>by
   rw[hoth r (Nat.lt_of_lt_of_le h1 R.csize) ?_ ?_]
   ·exact R.ckeep r h1 h2
   ·rintro rfl
    rcases R.clive _ ⟨k,_,hk,hm,hl,rfl⟩with h | h
    ·exact h2 h
    ·omega
   ·intro e
    rcases(hgb r e.symm).x with h | h
    ·exact h2 h
    ·omega
  cshp:=fun r y h=>hs r y (R.cshp r y h)
  csub:=R.csub
  canew:=R.canew
  clive:=fun r hmb=>by
   obtain⟨k1,o1,h,hmm,hl1,he⟩:=hmb
   rcases hsplit k1 o1 h with⟨rfl,rfl⟩ | ⟨e,h⟩
   ·exact R.clive r ⟨k1,_,hk,hm,hl,he⟩
   ·exact R.clive r ⟨k1,o1,h,hmm,hl1,he⟩
  cloc:=fun t h=>by simp[St.init]at h
  chp:=fun k1 o1 h=>by
   obtain⟨o2,h2,h3,h4⟩:=R.chp k1 o1 h
   by_cases e:k1=k
   ·subst e
    have h2':H k1=some o2:=h2
    rw[hk]at h2';cases h2'
    exact⟨.raw .mid,by simp[St.init],O.le_trans h3 hle,fun _=>h4 hl⟩
   ·exact⟨o2,by simp only[St.init,upd_other _ _ e];exact h2,h3,h4⟩ }
theorem upd_upd {H:Nat->Option O} (k:Nat) (a b:Option O):upd (upd H k a) k b=upd H k b:=by
 funext j;unfold upd;split<;>rfl
theorem upd_swap {H:Nat->Option O} {k j:Nat} (h:k≠j) (a b:Option O):upd (upd H k a) j b=upd (upd H j b) k a:=by
 funext q;unfold upd
 by_cases h1:q=j
 ·subst h1;rw[if_pos rfl,if_neg (Ne.symm h),if_pos rfl]
 ·rw[if_neg h1];split<;>simp
theorem bld_block (R:Rel N c 0 A μ lam (.init [] H n) bareAct w) {k:Nat} {g:Option Nat} (hk:H k=some (.raw (.bld g))) (hg: ∀q,g=some q-> ∃l,H q=some (.raw (.buf l))):
 ∃p v l,w.heap[μ k]? =some (.cells #[p,v] N.tB (0,0))/\(p= .pointer none\/p= .pointer (some ⟨μ k,0,none⟩))/\w.ownsRow 0 N.tU 1 v l.length (Lib.byteCells l)/\v.ownBlock=g.map μ/\(g=none->l=[]/\v= .slice none 0 0)/\(∀q,g=some q->H q=some (.raw (.buf l))/\l≠[]/\ ∃cap,v= .slice (some ⟨μ q,0,none⟩) l.length cap):=by
 cases g with
 | none=>
   obtain⟨p,h1,h2⟩:=R.heap k _ hk
   exact⟨p,_,[],h1,h2,World.ownsRow_nil _ _ _ _,rfl,fun _=>⟨rfl,rfl⟩,fun q h=>by cases h⟩
 | some q=>
   obtain⟨l,hl⟩:=hg q rfl
   obtain⟨a,len,cap,h1,h2⟩:=R.heap k _ hk
   obtain⟨cur,g1,g2,g3,g4,g5⟩:=R.heap q _ hl
   rcases h2 with h2 | ⟨l',h2,rfl,rfl,h5⟩
   ·have h2':H q=some .dead:=h2
    rw[hl]at h2';cases h2'
   ·have h2':H q=some (.raw (.buf l')):=h2
    rw[hl]at h2';cases h2'
    simp only[World.shape?,g1,Option.some.injEq,Prod.mk.injEq,true_and]at h5
    subst h5
    refine⟨_,_,l,h1,.inr rfl,⟨by simp[Lib.byteCells],.inr ⟨μ q,cur.size,cur,rfl,Nat.zero_le _,g1,g3,g4,by simp,?_⟩⟩,rfl,(fun h=>by cases h),(fun q' h=>by cases h;exact⟨hl,g2,_,rfl⟩)⟩
    rw[Nat.mul_one];exact g5
theorem rel_add (R:Rel N c 0 A μ lam (.init [] H n) bareAct w) {k n':Nat} {new:List UInt8} {H':Nat->Option O} (h:bldAdd H n k new=some (H',n')):
 ∃p v m xs,w.heap[μ k]? =some (.cells #[p,v] N.tB (0,0))/\(p= .pointer none\/p= .pointer (some ⟨μ k,0,none⟩))/\w.ownsRow 0 N.tU 1 v m xs/\m+new.length<=140737488355328/\
  ∀w' v',Wrote w (μ k) v m xs (Lib.byteCells new) N.tB N.tU v' w'-> ∃μ',Rel N c 0 A μ' lam (.init [] H' n') bareAct w':=by
 -- a builder whose row is given up (if it has one),written
 have main: ∀{H0:Nat->Option O} (g:Option Nat) (p v:Value) (l:List UInt8),Rel N c 0 A μ lam (.init [] H0 n) bareAct w->H0 k=some (.raw (.bld g))->(∀q,v.ownBlock=some q->Orphan c A μ lam (.init [] H0 n) q)->
  w.heap[μ k]? =some (.cells #[p,v] N.tB (0,0))->v.ownBlock≠some (μ k)-> ∀w' v',Wrote w (μ k) v l.length (Lib.byteCells l) (Lib.byteCells new) N.tB N.tU v' w'->l++new≠[]->
  ∃μ',Rel N c 0 A μ' lam (.init [] (upd (upd H0 n (some (.raw (.buf (l++new))))) k (some (.raw (.bld (some n))))) (n+1)) bareAct w':=by
  intro H0 g p v l R0 hk hor hb hvb w' v' hw hne
  have R1:=R0.changeB hk (by intro l h;cases h) hw.size (gb:=v.ownBlock) hor hw.oth hw.shp ⟨_,_,hw.blk⟩ hw.out
  have R2:=R1.more (Nat.le_succ n)
  obtain⟨g',cap,cur,rfl,_,hg',hc1,hc2,hc3,hc4⟩: ∃g cap cur,v'= .slice (some ⟨g,0,none⟩) (l.length+(Lib.byteCells new).length) cap/\0<=g/\w'.heap[g]? =some (.cells cur N.tU (0,0))/\l.length+(Lib.byteCells new).length<=cap/\cap<=maxLen/\cur.size=cap*1/\cur.toList.take ((l.length+(Lib.byteCells new).length)*1)=Lib.byteCells l++Lib.byteCells new:=by
   rcases hw.own.2 with⟨_,h0⟩ | h
   ·exfalso
    apply hne
    have:l.length=0/\new.length=0:=by
     rw[Lib.byteCells_length]at h0;omega
    rw[List.eq_nil_of_length_eq_zero this.1,List.eq_nil_of_length_eq_zero this.2];rfl
   ·exact h
  rw[Lib.byteCells_length]at hc1 hc4
  have hkn:k≠n:=by
   rintro rfl
   have:=R0.fresh k (Nat.le_refl _)
   simp[St.init,hk]at this
  have hHn:(upd H0 k (some (.raw .mid))) n=none:=by
   rw[upd_other _ _ (Ne.symm hkn)]
   exact R0.fresh n (Nat.le_refl _)
  -- the row
  have horp:Orphan c A μ lam (.init [] (upd H0 k (some (.raw .mid))) (n+1)) g':=by
   rcases hw.new with hsame | ⟨g2,hg2,hge⟩
   ·have hq:=hor g' (by rw[<- hsame];rfl)
    refine⟨hq.a,fun t ht=>by simp[St.init]at ht,fun k1 o1 h1 l1 e=> ?_,hq.x⟩
    by_cases e1:k1=k
    ·subst e1
     exact hvb (by rw[<- hsame];simp[Value.ownBlock,e])
    ·exact hq.h k1 o1 (by simpa only[St.init,upd_other _ _ e1]using h1) l1 e
   ·simp only[Value.ownBlock,Option.some.injEq]at hg2
    subst hg2
    refine⟨fun h=> ?_,fun t ht=>by simp[St.init]at ht,fun k1 o1 h1 l1 e=> ?_,.inr (Nat.le_trans R0.csize hge)⟩
    ·have:=R0.alt _ h;omega
    ·by_cases e1:k1=k
     ·subst e1
      have:=R0.lt_live hk rfl;omega
     ·have:=R0.lt_live (k:=k1) (o:=o1) (by simpa only[St.init,upd_other _ _ e1]using h1) l1
      omega
  have R3:=R2.adoptH (k:=n) (r:=g') (o:=.raw (.buf (l++new))) hHn (Nat.lt_succ_self n) horp ⟨cur,hg',hne,by simp;omega,by omega,by
   rw[List.length_append,<- Nat.mul_one (l.length+new.length),hc4,List.map_append];rfl⟩ (by simp)
  have hk3:(upd (upd H0 k (some (.raw .mid))) n (some (.raw (.buf (l++new))))) k=some (.raw .mid):=by rw[upd_other _ _ hkn,upd_same]
  have hμk:upd μ n g' k=μ k:=upd_other _ _ hkn
  have R4:=R3.changeH (k:=k) (o:=.raw .mid) (o':= .raw (.bld (some n))) (w':=w') hk3 trivial rfl (by simp) (by simp) rfl rfl (fun _ _=>rfl) (fun _ _ h=>h) (fun _=>by
   refine⟨some ⟨g',0,none⟩,l.length+(Lib.byteCells new).length,cap,by rw[hμk];exact hw.blk,.inr ⟨l++new,?_,?_,?_,?_⟩⟩
   ·show upd (upd _ n _) k _ n=_
    rw[upd_other _ _ (Ne.symm hkn),upd_same]
   ·rw[upd_same]
   ·rw[List.length_append,Lib.byteCells_length]
   ·rw[upd_same]
    simp only[World.shape?,hg',Option.some.injEq,Prod.mk.injEq,true_and];omega) ⟨rfl,rfl⟩
  refine⟨upd μ n g',?_⟩
  have e:upd (upd H0 n (some (.raw (.buf (l++new))))) k (some (.raw (.bld (some n))))=upd (upd (upd H0 k (some (.raw .mid))) n (some (.raw (.buf (l++new))))) k (some (.raw (.bld (some n)))):=by
   rw[upd_swap hkn,upd_upd]
  rw[e]
  exact R4
 unfold bldAdd at h
 split at h
 ·rename_i hk
  split at h
  ·rename_i hlen
   obtain⟨p,v,l,h1,h2,h3,h4,h5,_⟩:=bld_block R hk (by intro q h;cases h)
   obtain⟨rfl,rfl⟩:=h5 rfl
   refine⟨p,_,0,[],h1,h2,h3,by simpa using hlen,fun w' v' hw=> ?_⟩
   split at h
   ·rename_i hnew
    cases h
    subst hnew
    have hv':=hw.nil.2 ⟨rfl,rfl⟩
    subst hv'
    have R1:=R.changeB hk (by intro l h;cases h) hw.size (gb:=none) (by intro g h;cases h) (fun r hr hrk _=>hw.oth r hr hrk (by simp[Value.ownBlock])) hw.shp ⟨_,_,hw.blk⟩ hw.out
    have R2:=R1.changeH (k:=k) (o:=.raw .mid) (o':= .raw (.bld none)) (w':=w') (upd_same _ _ _) trivial rfl (by simp) (by simp) rfl rfl (fun _ _=>rfl) (fun _ _ h=>h) (fun _=>⟨_,hw.blk,.inr rfl⟩) ⟨rfl,rfl⟩
    refine⟨μ,?_⟩
    simp only[St.init,upd_upd,upd_id hk]at R2
    exact R2
   ·rename_i hnew
    cases h
    simpa using main none p _ [] R hk (by intro q h;simp[Value.ownBlock]at h) h1 (by simp[Value.ownBlock]) w' v' hw (by simpa using hnew)
  ·cases h
 ·rename_i g hk
  split at h
  ·rename_i l hg
   split at h
   ·rename_i hlen
    cases h
    obtain⟨p,v,l',h1,h2,h3,h4,_,h6⟩:=bld_block R hk (fun q h=>by cases h;exact⟨l,hg⟩)
    obtain⟨h7,h8,_⟩:=h6 g rfl
    rw[hg]at h7;cases h7
    have hgk:g≠k:=by rintro rfl;rw[hg]at hk;cases hk
    refine⟨p,v,l.length,_,h1,h2,h3,hlen,fun w' v' hw=> ?_⟩
    have hvq: ∀q,v.ownBlock=some q->q=μ g:=by intro q hq;rw[h4]at hq;simpa using hq.symm
    exact main (some g) p v l (R.kill hg) (by simp only[upd_other _ _ (Ne.symm hgk)];exact hk) (fun q hq=>by rw[hvq q hq];exact R.orphan_kill hg rfl (by simp)) h1 (by
     intro hq
     exact hgk (R.hinj g k _ _ hg hk rfl rfl (hvq _ hq).symm)) w' v' hw (by simp[h8])
   ·cases h
  ·cases h
 ·cases h
theorem two_args {w:World} {A:Nat->Prop} {nm μ:Nat->Nat} {H:Nat->Option O} {vs:Array Value} {x y:V} (h:RepArgs w A nm μ H vs [x,y]): ∃u v,vs= #[u,v]/\RepV w A nm μ H u x/\RepV w A nm μ H v y:=by
 obtain⟨h1,h2⟩:=h
 obtain⟨u,hu,hr⟩:=h2 0 x rfl
 obtain⟨v,hv,hs⟩:=h2 1 y rfl
 refine⟨u,v,?_,hr,hs⟩
 apply Array.ext_getElem?
 intro i
 match i with
 | 0=>simpa using hu
 | 1=>simpa using hv
 | i+2=>rw[Array.getElem?_eq_none (by simp at h1;omega),Array.getElem?_eq_none (by simp)]
theorem bld_ptr {w:World} {A:Nat->Prop} {nm μ:Nat->Nat} {H:Nat->Option O} {v:Value} {k:Nat} {x:Bx} (h:RepV w A nm μ H v (.mp k 0 0)) (hk:H k=some (.raw x)):v= .pointer (some ⟨μ k,0,none⟩):=by
 cases(h:RepC w A nm μ H v (.mp k 0 0))with
 | mp _ _ _ _ _ _ hk'=>rw[hk]at hk';cases hk'
 | mb _ _ _=>rfl
 | dmp _ _ _ hk'=>rw[hk]at hk';cases hk'
theorem bldAdd_raw {k n':Nat} {new:List UInt8} {H':Nat->Option O} (h:bldAdd H n k new=some (H',n')): ∃x,H k=some (.raw x):=by
 unfold bldAdd at h
 split at h
 ·rename_i hk;exact⟨_,hk⟩
 ·rename_i g hk;exact⟨_,hk⟩
 ·cases h
theorem ext_bldS {P:Program} {g:Nat} {ρ:Ren} (Ly:Lays.n166 P ρ) (X:Builder.Extra P ρ) (hf:ρ.f 166=N.nm g) (hB:ρ.t 72=N.tB) (hU:ρ.t 5=N.tU) {rf:Func} (hr:Real P (N.nm g) rf):ExtOK P N g .bldS:=by
 refine⟨⟨rf,hr⟩,fun args H n r H' n' h c A μ lam w vs R ha=> ?_,fun _ _ h=>by simp[extPure]at h⟩
 rw[<- hf]
 unfold extSem at h
 split at h
 all_goals(try contradiction)
 rename_i k s _
 simp only[Option.map_eq_some_iff,Prod.exists,Prod.mk.injEq]at h
 obtain⟨H2,n2,hadd,rfl,rfl,rfl⟩:=h
 obtain⟨u1,u2,rfl,hv1,hv2⟩:=two_args ha
 cases hv2.str_inv
 obtain⟨x,hk⟩:=bldAdd_raw hadd
 cases bld_ptr hv1 hk
 obtain⟨p,v,m,xs,h1,h2,h3,h4,h5⟩:=rel_add R hadd
 rw[<- hB]at h1
 rw[<- hU]at h3
 have hsz:s.data.toList.length=s.size:=by rw[Array.length_toList];rfl
 refine(wrote_string Ly X (μ k) p v m xs s w h1 h2 h3 (by omega)).mono ?_
 rintro e w' ⟨rfl,v',hw⟩
 rw[hB,hU]at hw
 obtain⟨μ',R'⟩:=h5 w' v' hw
 refine⟨_,A,μ',lam,rfl,R',⟨_,rfl,rfl,fun i x hi=> ?_⟩⟩
 match i,hi with
 | 0,hi=>simp at hi;subst hi;exact⟨_,rfl,RepC.t (.int _ _)⟩
 | 1,hi=>simp at hi;subst hi;exact⟨_,rfl,RepC.t .nili⟩
theorem rel_took (R:Rel N c 0 A μ lam (.init [] H n) bareAct w) {w':World} {gb:Option Nat} (ht:Took w gb w') (hgb: ∀g,gb=some g->Orphan c A μ lam (.init [] H n) g):Rel N c 0 A μ lam (.init [] H n) bareAct w':=by
 refine R.world (by rw[ht.size];exact Nat.le_refl _) ?_ ?_ ht.shp (Marks.nil _ _ _) ht.out
 ·rintro r (h | h | ⟨k,o,hk,hl,rfl⟩)
  ·exact ht.oth r (fun e=>(hgb r e.symm).a h)
  ·obtain⟨t,ht,_⟩:=h
   simp[St.init]at ht
  ·exact ht.oth _ (fun e=>(hgb _ e.symm).h k o hk hl rfl)
 ·intro r hr hx
  refine ht.oth r (fun e=> ?_)
  rcases(hgb r e.symm).x with h | h
  ·exact hx h
  ·omega
theorem ext_bldG {P:Program} {g:Nat} {ρ:Ren} (Ly:Lays.n169 P ρ) (X:Builder.Extra P ρ) (hf:ρ.f 169=N.nm g) (hB:ρ.t 72=N.tB) (hU:ρ.t 5=N.tU) {rf:Func} (hr:Real P (N.nm g) rf):ExtOK P N g .bldG:=by
 refine⟨⟨rf,hr⟩,fun args H n r H' n' h c A μ lam w vs R ha=> ?_,fun _ _ h=>by simp[extPure]at h⟩
 rw[<- hf]
 unfold extSem at h
 split at h
 all_goals(try contradiction)
 rename_i k _
 obtain⟨u1,rfl,hv1⟩:=one_arg ha
 split at h
 ·rename_i hk
  cases h
  cases bld_ptr hv1 hk
  obtain⟨p,v,l,h1,h2,h3,h4,h5,_⟩:=bld_block R hk (by intro q h;cases h)
  obtain⟨rfl,rfl⟩:=h5 rfl
  rw[<- hB]at h1
  refine(took_empty Ly X (μ k) p w h1).mono ?_
  rintro e w' ⟨rfl,ht⟩
  exact⟨_,A,μ,lam,rfl,rel_took (R.kill hk) ht (by intro g h;cases h),(RepC.t (.str _)).toV⟩
 ·rename_i q hk
  split at h
  ·rename_i l hq
   cases h
   cases bld_ptr hv1 hk
   obtain⟨p,v,l',h1,h2,h3,h4,_,h6⟩:=bld_block R hk (fun q' h=>by cases h;exact⟨l,hq⟩)
   obtain⟨h7,h8,cap,rfl⟩:=h6 q rfl
   rw[hq]at h7;cases h7
   rw[<- hB]at h1
   rw[<- hU]at h3
   have hqk:q≠k:=by rintro rfl;rw[hq]at hk;cases hk
   refine(took_string Ly X (μ k) p (μ q) cap l w h1 h3 h8).mono ?_
   rintro e w' ⟨rfl,ht⟩
   have R1:Rel N c 0 A μ lam (.init [] (upd (upd H q (some .dead)) k (some .dead)) n) bareAct w:=(R.kill hq).kill (k:=k) (o:=.raw (.bld (some q))) (by simp only[upd_other _ _ (Ne.symm hqk)];exact hk)
   have hor:=R.orphan_kill hq rfl (by simp)
   refine⟨_,A,μ,lam,rfl,rel_took R1 ht ?_,(RepC.t (.str _)).toV⟩
   intro g2 hg2
   cases hg2
   refine⟨hor.a,fun t ht=>by simp[St.init]at ht,fun k1 o1 hk1 l1=> ?_,hor.x⟩
   have hk1':upd (upd H q (some .dead)) k (some .dead) k1=some o1:=hk1
   by_cases e:k1=k
   ·subst e;rw[upd_same]at hk1';cases hk1';cases l1
   ·rw[upd_other _ _ e]at hk1';exact hor.h k1 o1 hk1' l1
  ·cases h
 ·cases h
theorem ext_itoa {P : Program} {g q j : Nat} {ρ : Ren} (Ly : LaysM.n171 P ρ) (hf : ρ.f 171 = N.nm g) (hq : P.globalNamed "internal/strconv.uint64pow10" = some q) (hgm : N.gm j = q) (hG : N.G j = Lib.pow10Tab.map (T.int .u64))
 {rf:Func} (hr:Real P (N.nm g) rf):ExtOK P N g .itoa:=by
 refine⟨⟨rf,hr⟩,fun args H n r H' n' h=>by simp[extSem]at h,fun args r h=> ?_⟩
 intro A w vs hA hgl ha
 rw[<- hf]
 unfold extPure at h
 split at h
 all_goals(try contradiction)
 rename_i z _
 split at h
 ·rename_i hz
  cases h
  obtain⟨u1,rfl,hv1⟩:=one_arg ha
  cases hv1.int_inv
  have htab : Lib.TabIs P w "internal/strconv.uint64pow10" .u64 Lib.pow10Tab := by
   have h0:=hgl j 0 (.int .u64 1) (by rw[hG];rfl)
   obtain⟨_,⟨e0,hsh⟩,_⟩:=h0
   rw[hgm]at hsh
   unfold World.shape? at hsh
   unfold Lib.TabIs World.var?
   rw[hq]
   cases hb:w.heap[q]? with
   | none=>rw[hb]at hsh;cases hsh
   | some o=>
     rw[hb]at hsh
     cases o with
     | cells cs e z0=>
       simp only[Option.some.injEq,Prod.mk.injEq]at hsh
       simp only[Option.bind_some,hb,Option.some.injEq]
       apply Array.ext_getElem?
       intro i
       by_cases hi:i<Lib.pow10Tab.length
       ·obtain⟨_,_,v,hv,hrep⟩:=hgl j i (.int .u64 Lib.pow10Tab[i]) (by rw[hG,List.getElem?_map,List.getElem?_eq_getElem hi];rfl)
        rw[hgm,Lib.cell_of_heap hb]at hv
        cases hrep
        rw[hv];simp[hi]
       ·rw[Array.getElem?_eq_none (by rw[hsh.2,hG];simp;omega),Array.getElem?_eq_none (by simp;omega)]
     | _=>cases hsh
  refine(Any.strconv_Itoa Ly z hz.1 hz.2 w htab).mono ?_
  rintro e w' ⟨rfl,k,os,rfl⟩
  have hget: ∀r,r<w.heap.size->(grow (w.drewN k) os).heap[r]? =w.heap[r]? :=fun r hr=>by
   simp[grow,Array.getElem?_append,hr]
  refine⟨_,rfl,⟨?_,?_⟩,?_,hget,(RepC.t (.str _)).toV⟩
  ·rfl
  ·rfl
  ·simp[grow]
 ·cases h
theorem strsOf_get: ∀{es:List (List T)} {l:List ByteArray},strsOf es=some l->es.length=l.length/\ ∀(i:Nat) (s:ByteArray),l[i]? =some s->es[i]? =some [.str s]
 | [],l,h=>by simp only[strsOf,Option.some.injEq]at h;subst h;simp
 | e::es,l,h=>by
   unfold strsOf at h
   split at h
   ·rename_i h0;cases h0
   ·rename_i s r' h0
    cases h0
    rw[Option.map_eq_some_iff]at h
    obtain⟨l',hl,rfl⟩:=h
    obtain⟨h1,h2⟩:=strsOf_get hl
    refine⟨by simp[h1],fun i s' hi=> ?_⟩
    cases i with
    | zero=>simp at hi;subst hi;rfl
    | succ i=>simpa using h2 i s' (by simpa using hi)
   ·cases h
theorem ext_join {P:Program} {g:Nat} {ρ:Ren} (Ly:Lays.n156 P ρ) (X:Builder.Extra P ρ) (hf:ρ.f 156=N.nm g) {rf:Func} (hr:Real P (N.nm g) rf):ExtOK P N g .joinS:=by
 refine⟨⟨rf,hr⟩,fun args H n r H' n' h=>by simp[extSem]at h,fun args r h=> ?_⟩
 intro A w vs hA hgl ha
 rw[<- hf]
 unfold extPure at h
 split at h
 all_goals(try contradiction)
 rename_i es sep _
 simp only[Option.bind_eq_some_iff]at h
 obtain⟨l,hl,h⟩:=h
 split at h
 ·rename_i hb
  cases h
  obtain⟨u1,u2,rfl,hv1,hv2⟩:=two_args ha
  cases hv2.str_inv
  obtain⟨h1,h2⟩:=strsOf_get hl
  have hjs:(Lib.join (l.map (·.data.toList)) sep.data.toList).length<=140737488355328:=by
   have:=hb.2
   unfold joinB at this
   simpa[ByteArray.size]using this
  have fin: ∀(e:Ending) (w':World),(e= .returned (.string (joinB l sep))/\Below w.heap.size w w')-> ∃v,e= .returned v/\(w'.os=w.os/\w'.output=w.output)/\w.heap.size<=w'.heap.size/\(∀q,q<w.heap.size->w'.heap[q]? =w.heap[q]?)/\
   RepV w' (fun q=>A q\/(w.heap.size<=q/\q<w'.heap.size)) N.nm (fun _=>0) (fun _=>none) v (.t (.str (joinB l sep))):=by
   rintro e w' ⟨rfl,hbl⟩
   exact⟨_,rfl,⟨hbl.os,hbl.output⟩,hbl.size,hbl.block,(RepC.t (.str _)).toV⟩
  cases hv1.t_inv with
  | sl0 a cap=>
    have:l=[]:=List.eq_nil_of_length_eq_zero (by simpa using h1.symm)
    subst this
    refine(Any.strings_Join_none Ly X a cap sep w).mono ?_
    rintro e w' ⟨rfl,rfl⟩
    exact fin _ _ ⟨rfl,Below.refl _ _⟩
  | sl r0 off cap sz es vf h0 hc hA0 hs hvv hrr=>
    have hcell: ∀(j:Nat) (x:ByteArray),l[j]? =some x->w.cell? ⟨r0,off+j,none⟩=some (.string x):=by
     intro j x hj
     have hej:=h2 j x hj
     have g1:=hs j _ hej
     simp at g1
     subst g1
     have g2:=hvv j _ 0 _ hej rfl
     have g3:=hrr j _ 0 _ hej rfl
     cases g3':vf j 0<;>rw[g3']at g3<;>cases g3
     rw[g3']at g2
     simpa using g2
    rw[h1]
    exact(Any.strings_Join Ly X r0 off cap l sep w hcell (hA r0 hA0) hb.1 (by omega) hjs).mono fin
 ·cases h
end Rg
end
section
namespace Go.Proofs
open Go.Shelf
def Tryz.lays189_ren:Go.Shelf.Ren:=⟨fun | 189=>35 | 125=>81 | 257=>80 | 128=>132 | 129=>133 | 294=>123 | 295=>124 | 296=>125 | 297=>126 | 298=>127 | 299=>128 | 216=>129 | 300=>130 | 301=>131 | 328=>182 | 329=>183 | 330=>184 | 331=>185 | 332=>186 | 215=>187 | 343=>212 | n=>n,fun | 28=>28 | 3=>3 | 46=>143 | 0=>0 | 51=>205 | 53=>207 | 4=>4 | 183=>198 | 182=>197 | 131=>175 | 5=>5 | 9=>9 | 218=>245 | 222=>249 | 228=>269 | 229=>270 | n=>n,fun | n=>n⟩
theorem Tryz.lays189:Go.Proofs.Lays.n189 Tryz.prog Tryz.lays189_ren:={
 mixed:=by kernel_rfl
 f125:=Tryz.func81.trans (congrArg some (by kernel_rfl))
 f128:=Tryz.func132.trans (congrArg some (by kernel_rfl))
 f129:=Tryz.func133.trans (congrArg some (by kernel_rfl))
 f189:=Tryz.func35.trans (congrArg some (by kernel_rfl))
 f215:=Tryz.func187.trans (congrArg some (by kernel_rfl))
 f216:=Tryz.func129.trans (congrArg some (by kernel_rfl))
 f257:=Tryz.func80.trans (congrArg some (by kernel_rfl))
 f294:=Tryz.func123.trans (congrArg some (by kernel_rfl))
 f295:=Tryz.func124.trans (congrArg some (by kernel_rfl))
 f296:=Tryz.func125.trans (congrArg some (by kernel_rfl))
 f297:=Tryz.func126.trans (congrArg some (by kernel_rfl))
 f298:=Tryz.func127.trans (congrArg some (by kernel_rfl))
 f299:=Tryz.func128.trans (congrArg some (by kernel_rfl))
 f300:=Tryz.func130.trans (congrArg some (by kernel_rfl))
 f301:=Tryz.func131.trans (congrArg some (by kernel_rfl))
 f328:=Tryz.func182.trans (congrArg some (by kernel_rfl))
 f329:=Tryz.func183.trans (congrArg some (by kernel_rfl))
 f330:=Tryz.func184.trans (congrArg some (by kernel_rfl))
 f331:=Tryz.func185.trans (congrArg some (by kernel_rfl))
 f332:=Tryz.func186.trans (congrArg some (by kernel_rfl))
 f343:=Tryz.func212.trans (congrArg some (by kernel_rfl))
 t0:=Tryz.underlying0
 a0:=Tryz.isAgg0
 z0:=Tryz.sizeOf0
 v0:=Tryz.zeroValue0
 t3:=Tryz.underlying3
 a3:=Tryz.isAgg3
 z3:=Tryz.sizeOf3
 v3:=Tryz.zeroValue3
 t4:=Tryz.underlying4
 a4:=Tryz.isAgg4
 z4:=Tryz.sizeOf4
 v4:=Tryz.zeroValue4
 t5:=Tryz.underlying5
 a5:=Tryz.isAgg5
 z5:=Tryz.sizeOf5
 v5:=Tryz.zeroValue5
 t9:=Tryz.underlying9
 a9:=Tryz.isAgg9
 z9:=Tryz.sizeOf9
 v9:=Tryz.zeroValue9
 t28:=Tryz.underlying28
 a28:=Tryz.isAgg28
 z28:=Tryz.sizeOf28
 v28:=Tryz.zeroValue28
 t46:=Tryz.underlying143
 a46:=Tryz.isAgg143
 z46:=Tryz.sizeOf143
 v46:=Tryz.zeroValue143
 t51:=Tryz.underlying205
 a51:=Tryz.isAgg205
 z51:=Tryz.sizeOf205
 v51:=Tryz.zeroValue205
 t53:=Tryz.underlying207
 a53:=Tryz.isAgg207
 z53:=Tryz.sizeOf207
 v53:=Tryz.zeroValue207
 t131:=Tryz.underlying175
 a131:=Tryz.isAgg175
 z131:=Tryz.sizeOf175
 v131:=Tryz.zeroValue175
 t182:=Tryz.underlying197
 a182:=Tryz.isAgg197
 z182:=Tryz.sizeOf197
 v182:=Tryz.zeroValue197
 t183:=Tryz.underlying198
 a183:=Tryz.isAgg198
 z183:=Tryz.sizeOf198
 v183:=Tryz.zeroValue198
 t218:=Tryz.underlying245
 a218:=Tryz.isAgg245
 z218:=Tryz.sizeOf245
 v218:=Tryz.zeroValue245
 t222:=Tryz.underlying249
 a222:=Tryz.isAgg249
 z222:=Tryz.sizeOf249
 v222:=Tryz.zeroValue249
 t228:=Tryz.underlying269
 a228:=Tryz.isAgg269
 z228:=Tryz.sizeOf269
 v228:=Tryz.zeroValue269
 t229:=Tryz.underlying270
 a229:=Tryz.isAgg270
 z229:=Tryz.sizeOf270
 v229:=Tryz.zeroValue270 }
def Tryz.lays2n20_ren:Go.Shelf.Ren:=⟨fun | 20=>36 | n=>n,fun | 22=>28 | 3=>3 | 4=>4 | 0=>0 | n=>n,fun | n=>n⟩
theorem Tryz.lays2n20:Go.Proofs.Lays2.n20 Tryz.prog Tryz.lays2n20_ren:={
 mixed:=by kernel_rfl
 f20:=Tryz.func36.trans (congrArg some (by kernel_rfl))
 t0:=Tryz.underlying0
 a0:=Tryz.isAgg0
 z0:=Tryz.sizeOf0
 v0:=Tryz.zeroValue0
 t3:=Tryz.underlying3
 a3:=Tryz.isAgg3
 z3:=Tryz.sizeOf3
 v3:=Tryz.zeroValue3
 t4:=Tryz.underlying4
 a4:=Tryz.isAgg4
 z4:=Tryz.sizeOf4
 v4:=Tryz.zeroValue4
 t22:=Tryz.underlying28
 a22:=Tryz.isAgg28
 z22:=Tryz.sizeOf28
 v22:=Tryz.zeroValue28
 i3:=by kernel_rfl }
def Tryz.lays2n15_ren:Go.Shelf.Ren:=⟨fun | 15=>156 | n=>n,fun | 22=>28 | 3=>3 | 4=>4 | n=>n,fun | n=>n⟩
theorem Tryz.lays2n15:Go.Proofs.Lays2.n15 Tryz.prog Tryz.lays2n15_ren:={
 mixed:=by kernel_rfl
 f15:=Tryz.func156.trans (congrArg some (by kernel_rfl))
 t3:=Tryz.underlying3
 a3:=Tryz.isAgg3
 z3:=Tryz.sizeOf3
 v3:=Tryz.zeroValue3
 t4:=Tryz.underlying4
 a4:=Tryz.isAgg4
 z4:=Tryz.sizeOf4
 v4:=Tryz.zeroValue4
 t22:=Tryz.underlying28
 a22:=Tryz.isAgg28
 z22:=Tryz.sizeOf28
 v22:=Tryz.zeroValue28
 i3:=by kernel_rfl }
def Tryz.laysM171_ren:Go.Shelf.Ren:=⟨fun | 171=>161 | 243=>202 | 246=>216 | 283=>232 | 284=>233 | 285=>234 | 286=>235 | 129=>133 | 317=>243 | 318=>244 | 319=>245 | 320=>246 | 337=>248 | 338=>249 | n=>n,fun | 3=>3 | 9=>9 | 2=>2 | 4=>4 | 171=>278 | 0=>0 | 53=>207 | 37=>46 | 5=>5 | 173=>280 | 212=>288 | 51=>205 | 20=>20 | 213=>289 | 46=>143 | 232=>290 | 233=>291 | n=>n,fun | 17=>1 | 18=>3 | 19=>4 | n=>n⟩
theorem Tryz.laysM171:Go.Proofs.LaysM.n171 Tryz.prog Tryz.laysM171_ren:={
 mixed:=by kernel_rfl
 f129:=Tryz.func133.trans (congrArg some (by kernel_rfl))
 f171:=Tryz.func161.trans (congrArg some (by kernel_rfl))
 f243:=Tryz.func202.trans (congrArg some (by kernel_rfl))
 f246:=Tryz.func216.trans (congrArg some (by kernel_rfl))
 f283:=Tryz.func232.trans (congrArg some (by kernel_rfl))
 f284:=Tryz.func233.trans (congrArg some (by kernel_rfl))
 f285:=Tryz.func234.trans (congrArg some (by kernel_rfl))
 f286:=Tryz.func235.trans (congrArg some (by kernel_rfl))
 f317:=Tryz.func243.trans (congrArg some (by kernel_rfl))
 f318:=Tryz.func244.trans (congrArg some (by kernel_rfl))
 f319:=Tryz.func245.trans (congrArg some (by kernel_rfl))
 f320:=Tryz.func246.trans (congrArg some (by kernel_rfl))
 f337:=Tryz.func248.trans (congrArg some (by kernel_rfl))
 f338:=Tryz.func249.trans (congrArg some (by kernel_rfl))
 t0:=Tryz.underlying0
 a0:=Tryz.isAgg0
 z0:=Tryz.sizeOf0
 v0:=Tryz.zeroValue0
 t2:=Tryz.underlying2
 a2:=Tryz.isAgg2
 z2:=Tryz.sizeOf2
 v2:=Tryz.zeroValue2
 t3:=Tryz.underlying3
 a3:=Tryz.isAgg3
 z3:=Tryz.sizeOf3
 v3:=Tryz.zeroValue3
 t4:=Tryz.underlying4
 a4:=Tryz.isAgg4
 z4:=Tryz.sizeOf4
 v4:=Tryz.zeroValue4
 t5:=Tryz.underlying5
 a5:=Tryz.isAgg5
 z5:=Tryz.sizeOf5
 v5:=Tryz.zeroValue5
 t9:=Tryz.underlying9
 a9:=Tryz.isAgg9
 z9:=Tryz.sizeOf9
 v9:=Tryz.zeroValue9
 t20:=Tryz.underlying20
 a20:=Tryz.isAgg20
 z20:=Tryz.sizeOf20
 v20:=Tryz.zeroValue20
 t37:=Tryz.underlying46
 a37:=Tryz.isAgg46
 z37:=Tryz.sizeOf46
 v37:=Tryz.zeroValue46
 t46:=Tryz.underlying143
 a46:=Tryz.isAgg143
 z46:=Tryz.sizeOf143
 v46:=Tryz.zeroValue143
 t51:=Tryz.underlying205
 a51:=Tryz.isAgg205
 z51:=Tryz.sizeOf205
 v51:=Tryz.zeroValue205
 t53:=Tryz.underlying207
 a53:=Tryz.isAgg207
 z53:=Tryz.sizeOf207
 v53:=Tryz.zeroValue207
 t171:=Tryz.underlying278
 a171:=Tryz.isAgg278
 z171:=Tryz.sizeOf278
 v171:=Tryz.zeroValue278
 t173:=Tryz.underlying280
 a173:=Tryz.isAgg280
 z173:=Tryz.sizeOf280
 v173:=Tryz.zeroValue280
 t212:=Tryz.underlying288
 a212:=Tryz.isAgg288
 z212:=Tryz.sizeOf288
 v212:=Tryz.zeroValue288
 t213:=Tryz.underlying289
 a213:=Tryz.isAgg289
 z213:=Tryz.sizeOf289
 t232:=Tryz.underlying290
 a232:=Tryz.isAgg290
 z232:=Tryz.sizeOf290
 v232:=Tryz.zeroValue290
 t233:=Tryz.underlying291
 a233:=Tryz.isAgg291
 z233:=Tryz.sizeOf291
 v233:=Tryz.zeroValue291
 g17:=by kernel_rfl
 g18:=by kernel_rfl
 g19:=by kernel_rfl
 i0:=by kernel_rfl
 i2:=by kernel_rfl
 i3:=by kernel_rfl
 i4:=by kernel_rfl
 i5:=by kernel_rfl
 i9:=by kernel_rfl
 i20:=by kernel_rfl
 i37:=by kernel_rfl
 i46:=by kernel_rfl
 i51:=by kernel_rfl
 i53:=by kernel_rfl
 i171:=by kernel_rfl
 i173:=by kernel_rfl
 i212:=by kernel_rfl
 i232:=by kernel_rfl
 i233:=by kernel_rfl
 m17:=by kernel_rfl
 m18:=by kernel_rfl
 m19:=by kernel_rfl }
def Tryz.lays156_ren:Go.Shelf.Ren:=⟨fun | 156=>162 | 165=>203 | 166=>204 | 169=>205 | 240=>217 | 241=>218 | 276=>236 | 277=>237 | n=>n,fun | 31=>228 | 9=>9 | 3=>3 | 4=>4 | 0=>0 | 20=>20 | 72=>257 | 76=>261 | 70=>255 | 37=>46 | 75=>260 | 127=>274 | 164=>282 | 5=>5 | 80=>263 | n=>n,fun | n=>n⟩
theorem Tryz.lays156:Go.Proofs.Lays.n156 Tryz.prog Tryz.lays156_ren:={
 mixed:=by kernel_rfl
 f156:=Tryz.func162.trans (congrArg some (by kernel_rfl))
 f165:=Tryz.func203.trans (congrArg some (by kernel_rfl))
 f166:=Tryz.func204.trans (congrArg some (by kernel_rfl))
 f169:=Tryz.func205.trans (congrArg some (by kernel_rfl))
 f240:=Tryz.func217.trans (congrArg some (by kernel_rfl))
 f241:=Tryz.func218.trans (congrArg some (by kernel_rfl))
 f276:=Tryz.func236.trans (congrArg some (by kernel_rfl))
 f277:=Tryz.func237.trans (congrArg some (by kernel_rfl))
 t0:=Tryz.underlying0
 a0:=Tryz.isAgg0
 z0:=Tryz.sizeOf0
 v0:=Tryz.zeroValue0
 t3:=Tryz.underlying3
 a3:=Tryz.isAgg3
 z3:=Tryz.sizeOf3
 v3:=Tryz.zeroValue3
 t4:=Tryz.underlying4
 a4:=Tryz.isAgg4
 z4:=Tryz.sizeOf4
 v4:=Tryz.zeroValue4
 t9:=Tryz.underlying9
 a9:=Tryz.isAgg9
 z9:=Tryz.sizeOf9
 v9:=Tryz.zeroValue9
 t20:=Tryz.underlying20
 a20:=Tryz.isAgg20
 z20:=Tryz.sizeOf20
 v20:=Tryz.zeroValue20
 t31:=Tryz.underlying228
 a31:=Tryz.isAgg228
 z31:=Tryz.sizeOf228
 v31:=Tryz.zeroValue228
 t37:=Tryz.underlying46
 a37:=Tryz.isAgg46
 z37:=Tryz.sizeOf46
 v37:=Tryz.zeroValue46
 t70:=Tryz.underlying255
 a70:=Tryz.isAgg255
 z70:=Tryz.sizeOf255
 v70:=Tryz.zeroValue255
 t72:=Tryz.underlying257
 a72:=Tryz.isAgg257
 z72:=Tryz.sizeOf257
 v72:=Tryz.zeroValue257
 t75:=Tryz.underlying260
 a75:=Tryz.isAgg260
 z75:=Tryz.sizeOf260
 v75:=Tryz.zeroValue260
 t76:=Tryz.underlying261
 a76:=Tryz.isAgg261
 z76:=Tryz.sizeOf261
 v76:=Tryz.zeroValue261
 t127:=Tryz.underlying274
 a127:=Tryz.isAgg274
 z127:=Tryz.sizeOf274
 v127:=Tryz.zeroValue274
 t164:=Tryz.underlying282
 a164:=Tryz.isAgg282
 z164:=Tryz.sizeOf282
 v164:=Tryz.zeroValue282 }
theorem Tryz.bx156:Builder.Extra Tryz.prog Tryz.lays156_ren:={
 sizeBuilder:=by kernel_rfl
 liesBuilder:=by kernel_rfl
 t5:=Tryz.underlying5
 a5:=Tryz.isAgg5
 z5:=Tryz.sizeOf5
 v5:=Tryz.zeroValue5
 infoByte:=by kernel_rfl
 cellsByte:=by kernel_rfl
 sizeByte:=by kernel_rfl
 neB5:=by decide }
end Go.Proofs
end
section
set_option maxRecDepth 100000
namespace Rg
open Go Go.Proofs Go.Proofs.YtaiokglcgiemnaaGreatDoor
namespace Seat
def tbl:List Nat:=[2,1000001,1000002,1000003,1000004,1000005,1000006,1000007,1000008,30,1000010,25,24,16,1000014,1000015,1000016,163,98,1000019,50,137,1000022,74,195,1000025,1000026,14,1000028,1000029,1000030,1000031,97,13,66,1000035,73,67,65,45,28,1000041,1000042,146,147,148,144,117,82,215,1000050,42,1000052,1000053,1000054,1000055,43,1000057,1000058,1000059,33,71,70,72,75,92,54,197,134,55,86,87,88,89,35,36,76,77,78,118,119,120,121,122,139,140,141,142,143,188,18,135,136,80,81,168,169,170,171,172,173,174,175,176,177,178,179,180,181,189,190,191,192,193,194,196,213,46,47,48,123,124,125,126,127,128,129,130,131,132,133,206,207,208,209,210,211,214,37,182,183,184,185,186,187,219,220,221,222,223,224,225,226,227,228,229,230,231,83,38,212,238,239,240,241,242,247,274,1000168,1000169,1000170,1000171,1000172,1000173,1000174,1000175,93,1000177,1000178,110,57,1000181,49,1000183,1000184,1000185,1000186,99,102,103,100,101,104,94,95,149,150,1000197,156,154,151,152,153,155,145,198,105,157,1000208,1000209,1000210,1000211,1000212,1000213,1000214,1000215,1000216,1000217,1000218,1000219,1000220,1000221,1000222,1000223,1000224,1000225,1000226,1000227,1000228,1000229,1000230,1000231,1000232,1000233,1000234,1000235,1000236,1000237,1000238,1000239,161,1000241,1000242,1000243,1000244,1000245,205,1000247,1000248,1000249,1000250,1000251,1000252,1000253,1000254,1000255,1000256,202,204,162,1000260,1000261,1000262,1000263,1000264,216,217,203,1000268,232,233,234,235,218,1000274,243,244,245,246,248,249,1000281,1000282,1000283,1000284,1000285,1000286,1000287,1000288,1000289,1000290,1000291,1000292,1000293,1000294,1000295,1000296,1000297,1000298,1000299,1000300,1000301,1000302,1000303,1000304,1000305,1000306,1000307,1000308,1000309,1000310,1000311,1000312,1000313,1000314,1000315,1000316,1000317,1000318,1000319,1000320,1000321,1000322,1000323,1000324,1000325,1000326,1000327,3,4,5,6,7,8,9,10,11,12,15,17,19,20,21,22,23,26,27,29,31,32,34,39,40,41,44,51,52,53,56,58,59,60,61,62,63,64,68,69,79,84,85,90,91,96,106,107,108,109,111,112,113,114,115,116,138,158,159,160,164,165,166,167,199,200,201,1000395,1000396,1000397,1000398,1000399,1000400,1000401,1000402,1000403,1000404,1000405,1000406,1000407,1000408,1000409,1000410,1000411,1000412,1000413,1000414,1000415,1000416,1000417,1000418,1000419,1000420,1000421,1000422,1000423,1000424,1000425,1000426,1000427,1000428,1000429,1000430,1000431,1000432,1000433,1000434,1000435,1000436,1000437,1000438,1000439,1000440]
def I:Inv:=⟨fun f=>tbl.findIdx? (· ==f),fun g=>if g=0 then some 0 else if g=1 then some 2 else none,some 257⟩
def N:Nam:=⟨fun k=>tbl.getD k 0,fun k=>[0,0,1].getD k 0,G,CR Tryz.prog I,257,5⟩
def raws (s:List Nat):Raws:=⟨[52,53,54,57,60,70,74,75,76,77,83,93,97,120,121,122,123,124,125,127,128,136,139,141,142,143,158,160,199,200,202,203,236,241,244,245,246,258,260,261,295,300,301,302,310,315,317,322,323,324,326,350,353,356,361,362,363,364,365,368,375,376,378,379,380,381,382,386,387,388,389,390,391,392,393,425,426],s,[32,78,198]⟩
def Ent (q:Nat×F):Prop:=(∃rf rw L raw,Tryz.prog.funcs[N.nm q.1]? =some rf/\compF Tryz.prog I rw L raw rf=some q.2)\/ ∃e,q.2.body= .ext e/\ExtOK Tryz.prog N q.1 e
theorem e9:Ent (9,f9):=.inl ⟨Tryz.f30,raws [],[5,1],false,Tryz.func30,by kernel_rfl⟩
theorem e12:Ent (12,f12):=.inl ⟨Tryz.f24,raws [],[3,2,1],false,Tryz.func24,by kernel_rfl⟩
theorem e17:Ent (17,f17):=.inl ⟨Tryz.f163,raws [],[3,2],false,Tryz.func163,by kernel_rfl⟩
theorem e18:Ent (18,f18):=.inl ⟨Tryz.f98,raws [],[9,6,5,4,3],false,Tryz.func98,by kernel_rfl⟩
theorem e23:Ent (23,f23):=.inl ⟨Tryz.f74,raws [],[2],false,Tryz.func74,by kernel_rfl⟩
theorem e24:Ent (24,f24):=.inl ⟨Tryz.f195,raws [],[3],false,Tryz.func195,by kernel_rfl⟩
theorem e27:Ent (27,f27):=.inl ⟨Tryz.f14,raws [],[],false,Tryz.func14,by kernel_rfl⟩
theorem e33:Ent (33,f33):=.inl ⟨Tryz.f13,raws [],[],false,Tryz.func13,by kernel_rfl⟩
theorem e36:Ent (36,f36):=.inl ⟨Tryz.f73,raws [],[1],false,Tryz.func73,by kernel_rfl⟩
theorem e38:Ent (38,f38):=.inl ⟨Tryz.f65,raws [],[1],false,Tryz.func65,by kernel_rfl⟩
theorem e39:Ent (39,f39):=.inl ⟨Tryz.f45,raws [],[1],false,Tryz.func45,by kernel_rfl⟩
theorem e40:Ent (40,f40):=.inl ⟨Tryz.f28,raws [],[],false,Tryz.func28,by kernel_rfl⟩
theorem e43:Ent (43,f43):=.inl ⟨Tryz.f146,raws [],[9,3,2],false,Tryz.func146,by kernel_rfl⟩
theorem e44:Ent (44,f44):=.inl ⟨Tryz.f147,raws [],[3,2],false,Tryz.func147,by kernel_rfl⟩
theorem e45:Ent (45,f45):=.inl ⟨Tryz.f148,raws [],[10,8,7,6,5,4,3],false,Tryz.func148,by kernel_rfl⟩
theorem e47:Ent (47,f47):=.inl ⟨Tryz.f117,raws [],[2],false,Tryz.func117,by kernel_rfl⟩
theorem e48:Ent (48,f48):=.inl ⟨Tryz.f82,raws [],[1],false,Tryz.func82,by kernel_rfl⟩
theorem e49:Ent (49,f49):=.inl ⟨Tryz.f215,raws [],[3],false,Tryz.func215,by kernel_rfl⟩
theorem e51:Ent (51,f51):=.inl ⟨Tryz.f42,raws [7],[],false,Tryz.func42,by kernel_rfl⟩
theorem e56:Ent (56,f56):=.inl ⟨Tryz.f43,raws [],[7],false,Tryz.func43,by kernel_rfl⟩
theorem e60:Ent (60,f60):=.inl ⟨Tryz.f33,raws [],[],true,Tryz.func33,by kernel_rfl⟩
theorem e61:Ent (61,f61):=.inl ⟨Tryz.f71,raws [],[4],false,Tryz.func71,by kernel_rfl⟩
theorem e62:Ent (62,f62):=.inl ⟨Tryz.f70,raws [],[4],false,Tryz.func70,by kernel_rfl⟩
theorem e63:Ent (63,f63):=.inl ⟨Tryz.f72,raws [],[8,7,6],false,Tryz.func72,by kernel_rfl⟩
theorem e64:Ent (64,f64):=.inl ⟨Tryz.f75,raws [],[13,5,1],false,Tryz.func75,by kernel_rfl⟩
theorem e65:Ent (65,f65):=.inl ⟨Tryz.f92,raws [],[1],false,Tryz.func92,by kernel_rfl⟩
theorem e67:Ent (67,f67):=.inl ⟨Tryz.f197,raws [],[9,5,4],false,Tryz.func197,by kernel_rfl⟩
theorem e68:Ent (68,f68):=.inl ⟨Tryz.f134,raws [],[2],false,Tryz.func134,by kernel_rfl⟩
theorem e70:Ent (70,f70):=.inl ⟨Tryz.f86,raws [38],[],true,Tryz.func86,by kernel_rfl⟩
theorem e71:Ent (71,f71):=.inl ⟨Tryz.f87,raws [],[],false,Tryz.func87,by kernel_rfl⟩
theorem e72:Ent (72,f72):=.inl ⟨Tryz.f88,raws [],[],false,Tryz.func88,by kernel_rfl⟩
theorem e73:Ent (73,f73):=.inl ⟨Tryz.f89,raws [],[3],false,Tryz.func89,by kernel_rfl⟩
theorem e74:Ent (74,f74):=.inr ⟨.sortI,rfl,ext_sort Tryz.lays189 (by kernel_rfl) (rf:=Tryz.f35) ⟨Tryz.func35,by kernel_rfl,by kernel_rfl⟩⟩
theorem e75:Ent (75,f75):=.inr ⟨.compactI,rfl,ext_compact Tryz.lays2n20 (by kernel_rfl) (rf:=Tryz.f36) ⟨Tryz.func36,by kernel_rfl,by kernel_rfl⟩⟩
theorem e76:Ent (76,f76):=.inl ⟨Tryz.f76,raws [13],[],true,Tryz.func76,by kernel_rfl⟩
theorem e77:Ent (77,f77):=.inl ⟨Tryz.f77,raws [],[],true,Tryz.func77,by kernel_rfl⟩
theorem e78:Ent (78,f78):=.inl ⟨Tryz.f78,raws [],[1],true,Tryz.func78,by kernel_rfl⟩
theorem e79:Ent (79,f79):=.inl ⟨Tryz.f118,raws [],[6,4,1],false,Tryz.func118,by kernel_rfl⟩
theorem e80:Ent (80,f80):=.inl ⟨Tryz.f119,raws [],[5,1],false,Tryz.func119,by kernel_rfl⟩
theorem e81:Ent (81,f81):=.inl ⟨Tryz.f120,raws [],[5,1],false,Tryz.func120,by kernel_rfl⟩
theorem e82:Ent (82,f82):=.inl ⟨Tryz.f121,raws [],[6,5,1],false,Tryz.func121,by kernel_rfl⟩
theorem e83:Ent (83,f83):=.inl ⟨Tryz.f122,raws [],[14,12],true,Tryz.func122,by kernel_rfl⟩
theorem e84:Ent (84,f84):=.inl ⟨Tryz.f139,raws [],[5,1],false,Tryz.func139,by kernel_rfl⟩
theorem e85:Ent (85,f85):=.inl ⟨Tryz.f140,raws [],[4,1],false,Tryz.func140,by kernel_rfl⟩
theorem e86:Ent (86,f86):=.inl ⟨Tryz.f141,raws [],[4,1],false,Tryz.func141,by kernel_rfl⟩
theorem e87:Ent (87,f87):=.inl ⟨Tryz.f142,raws [],[4,1],false,Tryz.func142,by kernel_rfl⟩
theorem e88:Ent (88,f88):=.inl ⟨Tryz.f143,raws [],[13,6,2],false,Tryz.func143,by kernel_rfl⟩
theorem e89:Ent (89,f89):=.inl ⟨Tryz.f188,raws [],[1],false,Tryz.func188,by kernel_rfl⟩
theorem e90:Ent (90,f90):=.inl ⟨Tryz.f18,raws [],[3],false,Tryz.func18,by kernel_rfl⟩
theorem e91:Ent (91,f91):=.inl ⟨Tryz.f135,raws [],[],false,Tryz.func135,by kernel_rfl⟩
theorem e92:Ent (92,f92):=.inl ⟨Tryz.f136,raws [],[],false,Tryz.func136,by kernel_rfl⟩
theorem e95:Ent (95,f95):=.inl ⟨Tryz.f168,raws [],[],false,Tryz.func168,by kernel_rfl⟩
theorem e96:Ent (96,f96):=.inl ⟨Tryz.f169,raws [],[],false,Tryz.func169,by kernel_rfl⟩
theorem e97:Ent (97,f97):=.inl ⟨Tryz.f170,raws [],[5],true,Tryz.func170,by kernel_rfl⟩
theorem e98:Ent (98,f98):=.inl ⟨Tryz.f171,raws [],[1],false,Tryz.func171,by kernel_rfl⟩
theorem e99:Ent (99,f99):=.inl ⟨Tryz.f172,raws [],[5,4],false,Tryz.func172,by kernel_rfl⟩
theorem e100:Ent (100,f100):=.inl ⟨Tryz.f173,raws [],[2],false,Tryz.func173,by kernel_rfl⟩
theorem e101:Ent (101,f101):=.inl ⟨Tryz.f174,raws [],[],false,Tryz.func174,by kernel_rfl⟩
theorem e102:Ent (102,f102):=.inl ⟨Tryz.f175,raws [],[],false,Tryz.func175,by kernel_rfl⟩
theorem e103:Ent (103,f103):=.inl ⟨Tryz.f176,raws [],[],false,Tryz.func176,by kernel_rfl⟩
theorem e104:Ent (104,f104):=.inl ⟨Tryz.f177,raws [],[],false,Tryz.func177,by kernel_rfl⟩
theorem e105:Ent (105,f105):=.inl ⟨Tryz.f178,raws [],[13,12,7,6,4],false,Tryz.func178,by kernel_rfl⟩
theorem e106:Ent (106,f106):=.inl ⟨Tryz.f179,raws [],[],false,Tryz.func179,by kernel_rfl⟩
theorem e107:Ent (107,f107):=.inl ⟨Tryz.f180,raws [],[],false,Tryz.func180,by kernel_rfl⟩
theorem e108:Ent (108,f108):=.inl ⟨Tryz.f181,raws [],[2],false,Tryz.func181,by kernel_rfl⟩
theorem e109:Ent (109,f109):=.inl ⟨Tryz.f189,raws [],[],false,Tryz.func189,by kernel_rfl⟩
theorem e110:Ent (110,f110):=.inl ⟨Tryz.f190,raws [],[],false,Tryz.func190,by kernel_rfl⟩
theorem e111:Ent (111,f111):=.inl ⟨Tryz.f191,raws [],[1],false,Tryz.func191,by kernel_rfl⟩
theorem e112:Ent (112,f112):=.inl ⟨Tryz.f192,raws [],[5,4],false,Tryz.func192,by kernel_rfl⟩
theorem e113:Ent (113,f113):=.inl ⟨Tryz.f193,raws [],[],false,Tryz.func193,by kernel_rfl⟩
theorem e114:Ent (114,f114):=.inl ⟨Tryz.f194,raws [],[5,3],false,Tryz.func194,by kernel_rfl⟩
theorem e115:Ent (115,f115):=.inl ⟨Tryz.f196,raws [],[5,4],false,Tryz.func196,by kernel_rfl⟩
theorem e116:Ent (116,f116):=.inl ⟨Tryz.f213,raws [],[],false,Tryz.func213,by kernel_rfl⟩
theorem e117:Ent (117,f117):=.inl ⟨Tryz.f46,raws [],[],false,Tryz.func46,by kernel_rfl⟩
theorem e118:Ent (118,f118):=.inl ⟨Tryz.f47,raws [],[],false,Tryz.func47,by kernel_rfl⟩
theorem e119:Ent (119,f119):=.inl ⟨Tryz.f48,raws [],[2],false,Tryz.func48,by kernel_rfl⟩
theorem e131:Ent (131,f131):=.inl ⟨Tryz.f206,raws [],[],false,Tryz.func206,by kernel_rfl⟩
theorem e132:Ent (132,f132):=.inl ⟨Tryz.f207,raws [],[],false,Tryz.func207,by kernel_rfl⟩
theorem e133:Ent (133,f133):=.inl ⟨Tryz.f208,raws [],[],false,Tryz.func208,by kernel_rfl⟩
theorem e134:Ent (134,f134):=.inl ⟨Tryz.f209,raws [],[],false,Tryz.func209,by kernel_rfl⟩
theorem e135:Ent (135,f135):=.inl ⟨Tryz.f210,raws [],[0],false,Tryz.func210,by kernel_rfl⟩
theorem e136:Ent (136,f136):=.inl ⟨Tryz.f211,raws [],[],true,Tryz.func211,by kernel_rfl⟩
theorem e137:Ent (137,f137):=.inl ⟨Tryz.f214,raws [],[12,5,3],false,Tryz.func214,by kernel_rfl⟩
theorem e138:Ent (138,f138):=.inl ⟨Tryz.f37,raws [],[1],false,Tryz.func37,by kernel_rfl⟩
theorem e145:Ent (145,f145):=.inl ⟨Tryz.f219,raws [],[],false,Tryz.func219,by kernel_rfl⟩
theorem e146:Ent (146,f146):=.inl ⟨Tryz.f220,raws [],[],false,Tryz.func220,by kernel_rfl⟩
theorem e147:Ent (147,f147):=.inl ⟨Tryz.f221,raws [],[5,3],false,Tryz.func221,by kernel_rfl⟩
theorem e148:Ent (148,f148):=.inl ⟨Tryz.f222,raws [],[11,9,5,3],false,Tryz.func222,by kernel_rfl⟩
theorem e149:Ent (149,f149):=.inl ⟨Tryz.f223,raws [],[5],false,Tryz.func223,by kernel_rfl⟩
theorem e150:Ent (150,f150):=.inl ⟨Tryz.f224,raws [],[5,3],false,Tryz.func224,by kernel_rfl⟩
theorem e151:Ent (151,f151):=.inl ⟨Tryz.f225,raws [],[5,3],false,Tryz.func225,by kernel_rfl⟩
theorem e152:Ent (152,f152):=.inl ⟨Tryz.f226,raws [],[5,3],false,Tryz.func226,by kernel_rfl⟩
theorem e153:Ent (153,f153):=.inl ⟨Tryz.f227,raws [],[5,3],false,Tryz.func227,by kernel_rfl⟩
theorem e154:Ent (154,f154):=.inl ⟨Tryz.f228,raws [],[3],false,Tryz.func228,by kernel_rfl⟩
theorem e155:Ent (155,f155):=.inl ⟨Tryz.f229,raws [],[2],false,Tryz.func229,by kernel_rfl⟩
theorem e156:Ent (156,f156):=.inl ⟨Tryz.f230,raws [],[3,2],false,Tryz.func230,by kernel_rfl⟩
theorem e157:Ent (157,f157):=.inl ⟨Tryz.f231,raws [],[0],false,Tryz.func231,by kernel_rfl⟩
theorem e158:Ent (158,f158):=.inl ⟨Tryz.f83,raws [],[3],true,Tryz.func83,by kernel_rfl⟩
theorem e159:Ent (159,f159):=.inl ⟨Tryz.f38,raws [],[],false,Tryz.func38,by kernel_rfl⟩
theorem e161:Ent (161,f161):=.inl ⟨Tryz.f238,raws [],[6,2],false,Tryz.func238,by kernel_rfl⟩
theorem e162:Ent (162,f162):=.inl ⟨Tryz.f239,raws [],[6],false,Tryz.func239,by kernel_rfl⟩
theorem e163:Ent (163,f163):=.inl ⟨Tryz.f240,raws [],[2],false,Tryz.func240,by kernel_rfl⟩
theorem e164:Ent (164,f164):=.inl ⟨Tryz.f241,raws [],[],false,Tryz.func241,by kernel_rfl⟩
theorem e165:Ent (165,f165):=.inl ⟨Tryz.f242,raws [],[1],false,Tryz.func242,by kernel_rfl⟩
theorem e166:Ent (166,f166):=.inl ⟨Tryz.f247,raws [],[1],false,Tryz.func247,by kernel_rfl⟩
theorem e179:Ent (179,f179):=.inl ⟨Tryz.f110,raws [],[7,5,3],false,Tryz.func110,by kernel_rfl⟩
theorem e180:Ent (180,f180):=.inl ⟨Tryz.f57,raws [],[6,4],false,Tryz.func57,by kernel_rfl⟩
theorem e187:Ent (187,f187):=.inl ⟨Tryz.f99,raws [],[6,5,3],false,Tryz.func99,by kernel_rfl⟩
theorem e188:Ent (188,f188):=.inl ⟨Tryz.f102,raws [],[7,2],false,Tryz.func102,by kernel_rfl⟩
theorem e189:Ent (189,f189):=.inl ⟨Tryz.f103,raws [],[9,4],false,Tryz.func103,by kernel_rfl⟩
theorem e190:Ent (190,f190):=.inl ⟨Tryz.f100,raws [],[],false,Tryz.func100,by kernel_rfl⟩
theorem e191:Ent (191,f191):=.inl ⟨Tryz.f101,raws [],[7,6,3],false,Tryz.func101,by kernel_rfl⟩
theorem e192:Ent (192,f192):=.inl ⟨Tryz.f104,raws [],[11,9,8,7,6,4,3],false,Tryz.func104,by kernel_rfl⟩
theorem e195:Ent (195,f195):=.inl ⟨Tryz.f149,raws [],[1],false,Tryz.func149,by kernel_rfl⟩
theorem e196:Ent (196,f196):=.inl ⟨Tryz.f150,raws [],[11,9,3,2],false,Tryz.func150,by kernel_rfl⟩
theorem e198:Ent (198,f198):=.inr ⟨.cloneI,rfl,ext_clone Tryz.lays2n15 (by kernel_rfl) (rf:=Tryz.f156) ⟨Tryz.func156,by kernel_rfl,by kernel_rfl⟩⟩
theorem e199:Ent (199,f199):=.inl ⟨Tryz.f154,raws [],[3],true,Tryz.func154,by kernel_rfl⟩
theorem e200:Ent (200,f200):=.inl ⟨Tryz.f151,raws [37],[6],true,Tryz.func151,by kernel_rfl⟩
theorem e201:Ent (201,f201):=.inl ⟨Tryz.f152,raws [],[6,3],false,Tryz.func152,by kernel_rfl⟩
theorem e202:Ent (202,f202):=.inl ⟨Tryz.f153,raws [],[7,3,2,1],true,Tryz.func153,by kernel_rfl⟩
theorem e203:Ent (203,f203):=.inl ⟨Tryz.f155,raws [],[],true,Tryz.func155,by kernel_rfl⟩
theorem e205:Ent (205,f205):=.inl ⟨Tryz.f198,raws [],[7,3,2],false,Tryz.func198,by kernel_rfl⟩
theorem e206:Ent (206,f206):=.inl ⟨Tryz.f105,raws [],[],false,Tryz.func105,by kernel_rfl⟩
theorem e207:Ent (207,f207):=.inl ⟨Tryz.f157,raws [],[],false,Tryz.func157,by kernel_rfl⟩
theorem e240:Ent (240,f240):=.inr ⟨.itoa,rfl,ext_itoa Tryz.laysM171 (by kernel_rfl) (q:=1) (j:=2) (by kernel_rfl) rfl (by kernel_rfl) (rf:=Tryz.f161) ⟨Tryz.func161,by kernel_rfl,by kernel_rfl⟩⟩
theorem e259:Ent (259,f259):=.inr ⟨.joinS,rfl,ext_join Tryz.lays156 Tryz.bx156 (by kernel_rfl) (rf:=Tryz.f162) ⟨Tryz.func162,by kernel_rfl,by kernel_rfl⟩⟩
theorem e328:Ent (328,f328):=.inl ⟨Tryz.f3,raws [],[10,4],false,Tryz.func3,by kernel_rfl⟩
theorem e334:Ent (334,f334):=.inl ⟨Tryz.f9,raws [],[1],false,Tryz.func9,by kernel_rfl⟩
theorem e335:Ent (335,f335):=.inl ⟨Tryz.f10,raws [],[3],false,Tryz.func10,by kernel_rfl⟩
theorem e336:Ent (336,f336):=.inl ⟨Tryz.f11,raws [],[9,8,3],false,Tryz.func11,by kernel_rfl⟩
theorem e337:Ent (337,f337):=.inl ⟨Tryz.f12,raws [],[20,9,8,3],false,Tryz.func12,by kernel_rfl⟩
theorem e341:Ent (341,f341):=.inl ⟨Tryz.f20,raws [],[18,17,13,12,5],false,Tryz.func20,by kernel_rfl⟩
theorem e343:Ent (343,f343):=.inl ⟨Tryz.f22,raws [],[20,17,14,5],false,Tryz.func22,by kernel_rfl⟩
theorem e347:Ent (347,f347):=.inl ⟨Tryz.f29,raws [],[8,7,6,5,4,3,2],false,Tryz.func29,by kernel_rfl⟩
theorem e348:Ent (348,f348):=.inl ⟨Tryz.f31,raws [],[3],false,Tryz.func31,by kernel_rfl⟩
theorem e349:Ent (349,f349):=.inl ⟨Tryz.f32,raws [],[3],false,Tryz.func32,by kernel_rfl⟩
theorem e350:Ent (350,f350):=.inl ⟨Tryz.f34,raws [],[],true,Tryz.func34,by kernel_rfl⟩
theorem e351:Ent (351,f351):=.inl ⟨Tryz.f39,raws [],[],false,Tryz.func39,by kernel_rfl⟩
theorem e352:Ent (352,f352):=.inl ⟨Tryz.f40,raws [],[],false,Tryz.func40,by kernel_rfl⟩
theorem e353:Ent (353,f353):=.inl ⟨Tryz.f41,raws [],[3],true,Tryz.func41,by kernel_rfl⟩
theorem e358:Ent (358,f358):=.inl ⟨Tryz.f56,raws [],[],false,Tryz.func56,by kernel_rfl⟩
theorem e359:Ent (359,f359):=.inl ⟨Tryz.f58,raws [],[2],false,Tryz.func58,by kernel_rfl⟩
theorem e360:Ent (360,f360):=.inl ⟨Tryz.f59,raws [],[3],false,Tryz.func59,by kernel_rfl⟩
theorem e361:Ent (361,f361):=.inl ⟨Tryz.f60,raws [],[15,14,12,9,3],true,Tryz.func60,by kernel_rfl⟩
theorem e362:Ent (362,f362):=.inl ⟨Tryz.f61,raws [],[8],true,Tryz.func61,by kernel_rfl⟩
theorem e363:Ent (363,f363):=.inl ⟨Tryz.f62,raws [55],[18,17],true,Tryz.func62,by kernel_rfl⟩
theorem e364:Ent (364,f364):=.inl ⟨Tryz.f63,raws [],[],true,Tryz.func63,by kernel_rfl⟩
theorem e365:Ent (365,f365):=.inl ⟨Tryz.f64,raws [],[7],true,Tryz.func64,by kernel_rfl⟩
theorem e368:Ent (368,f368):=.inl ⟨Tryz.f79,raws [],[],true,Tryz.func79,by kernel_rfl⟩
theorem e369:Ent (369,f369):=.inl ⟨Tryz.f84,raws [],[],false,Tryz.func84,by kernel_rfl⟩
theorem e370:Ent (370,f370):=.inl ⟨Tryz.f85,raws [],[],false,Tryz.func85,by kernel_rfl⟩
theorem e374:Ent (374,f374):=.inl ⟨Tryz.f106,raws [],[3],false,Tryz.func106,by kernel_rfl⟩
theorem e375:Ent (375,f375):=.inl ⟨Tryz.f107,raws [24],[],true,Tryz.func107,by kernel_rfl⟩
theorem e376:Ent (376,f376):=.inl ⟨Tryz.f108,raws [],[2],true,Tryz.func108,by kernel_rfl⟩
theorem e377:Ent (377,f377):=.inl ⟨Tryz.f109,raws [13,17,34,38],[8,1],false,Tryz.func109,by kernel_rfl⟩
theorem e378:Ent (378,f378):=.inl ⟨Tryz.f111,raws [],[7],true,Tryz.func111,by kernel_rfl⟩
theorem e379:Ent (379,f379):=.inl ⟨Tryz.f112,raws [],[3],true,Tryz.func112,by kernel_rfl⟩
theorem e380:Ent (380,f380):=.inl ⟨Tryz.f113,raws [],[],true,Tryz.func113,by kernel_rfl⟩
theorem e381:Ent (381,f381):=.inl ⟨Tryz.f114,raws [],[3],true,Tryz.func114,by kernel_rfl⟩
theorem e382:Ent (382,f382):=.inl ⟨Tryz.f115,raws [15,22,28],[3],true,Tryz.func115,by kernel_rfl⟩
theorem e385:Ent (385,f385):=.inl ⟨Tryz.f158,raws [],[1],false,Tryz.func158,by kernel_rfl⟩
theorem e386:Ent (386,f386):=.inl ⟨Tryz.f159,raws [],[],true,Tryz.func159,by kernel_rfl⟩
theorem e387:Ent (387,f387):=.inl ⟨Tryz.f160,raws [],[],true,Tryz.func160,by kernel_rfl⟩
theorem e388:Ent (388,f388):=.inl ⟨Tryz.f164,raws [],[],true,Tryz.func164,by kernel_rfl⟩
theorem e389:Ent (389,f389):=.inl ⟨Tryz.f165,raws [],[],true,Tryz.func165,by kernel_rfl⟩
theorem e390:Ent (390,f390):=.inl ⟨Tryz.f166,raws [],[],true,Tryz.func166,by kernel_rfl⟩
theorem e392:Ent (392,f392):=.inl ⟨Tryz.f199,raws [20,76],[9,8,6],true,Tryz.func199,by kernel_rfl⟩
theorem e393:Ent (393,f393):=.inl ⟨Tryz.f200,raws [32],[4],true,Tryz.func200,by kernel_rfl⟩
theorem e394:Ent (394,f394):=.inl ⟨Tryz.f201,raws [],[11,1],false,Tryz.func201,by kernel_rfl⟩
theorem all: ∀q∈tabL,Ent q:=by
 unfold tabL
 simp only[List.forall_mem_cons]
 exact⟨e9,e12,e17,e18,e23,e24,e27,e33,e36,e38,e39,e40,e43,e44,e45,e47,e48,e49,e51,e56,e60,e61,e62,e63,e64,e65,e67,e68,e70,e71,e72,e73,e74,e75,e76,e77,e78,e79,e80,e81,e82,e83,e84,e85,e86,e87,e88,e89,e90,e91,e92,e95,e96,e97,e98,e99,e100,e101,e102,e103,e104,e105,e106,e107,e108,e109,e110,e111,e112,e113,e114,e115,e116,e117,e118,e119,e131,e132,e133,e134,e135,e136,e137,e138,e145,e146,e147,e148,e149,e150,e151,e152,e153,e154,e155,e156,e157,e158,e159,e161,e162,e163,e164,e165,e166,e179,e180,e187,e188,e189,e190,e191,e192,e195,e196,e198,e199,e200,e201,e202,e203,e205,e206,e207,e240,e259,e328,e334,e335,e336,e337,e341,e343,e347,e348,e349,e350,e351,e352,e353,e358,e359,e360,e361,e362,e363,e364,e365,e368,e369,e370,e374,e375,e376,e377,e378,e379,e380,e381,e382,e385,e386,e387,e388,e389,e390,e392,e393,e394,fun _ h=>by cases h⟩
end Seat
end Rg
end
