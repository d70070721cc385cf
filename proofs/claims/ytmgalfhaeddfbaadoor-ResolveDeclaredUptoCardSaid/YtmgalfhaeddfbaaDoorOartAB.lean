/- Part of the proof of laws of relyguardlaw04. No condition. -/
import Derived.Laws.CopyRow
import Derived.Test.YtmgalfhaeddfbaaDoorOartAA
import Derived.Laws.StructEq
set_option linter.unusedVariables false
set_option linter.unusedSimpArgs false
section
namespace Rg
open Go
theorem zf3 (a:Act) (d t:Nat) (v:Value) (h:d<a.tmps.size):
 (a.put (some d) v).tmps.getD t undef=if t=d then v else a.tmps.getD t undef:=by
 simp only[Act.put]
 by_cases ht:t=d
 ·subst ht;simp[h]
 ·simp[ht,Array.getD_eq_getD_getElem?,Ne.symm ht]
theorem zoS (a:Act) (d:Option Nat) (v:Value):(a.put d v).tmps.size=a.tmps.size:=by
 cases d<;>simp[Act.put]
theorem zkX (a:Act) (d:Option Nat) (v:Value):(a.put d v).defers=a.defers:=by
 cases d<;>rfl
theorem zeE {s:St} {d:Option Nat} {e:Eff} {b:Nat} (h:s.used b=true):(s.apply d e).used b=true:=by
 simp only[St.apply]
 cases e.adr with
 | none=>exact h
 | some x=>simp only[upd];split<;>simp_all
section
variable {N:Nam} {c:Ctx} {ns:Nat} {A:Nat->Prop} {μ lam:Nat->Nat} {s:St} {a:Act} {w:World}
theorem Rel.put (R:Rel N c ns A μ lam s a w) (d:Option Nat) (e:Eff) (v:Value) (hd: ∀x,d=some x->x<ns) (hf:s.free d e)
 (hl:e.loc=none) (Er:e.wloc=none) (hh:e.hp=[]) (hv:zbl w A N.nm μ s.heap v e.val)
 (ha: ∀b o,e.adr=some (b,o)->(s.loc b).isSome=true/\v= .pointer (some ⟨lam b,o,none⟩)):
 Rel N c ns A μ lam (s.apply d e) (a.put d v) w:=by
 have Ar:(s.apply d e).heap=s.heap:=by simp[St.apply,hh,zbf]
 cases d with
 | none=>
   have h1:(s.apply none e).env=s.env:=rfl;have h2:(s.apply none e).adr=s.adr:=rfl;have h3:(s.apply none e).loc=s.loc:=by simp[St.apply,Er]
   refine{ R with env:= ?_,loc:= ?_,adr:= ?_,heap:= ?_,hinj:= ?_,linj:= ?_,lh:= ?_,aH:= ?_,aL:= ?_,afz:=by rw[Ar];exact R.afz,fresh:= ?_,clive:= ?_,cloc:= ?_,chp:= ?_ }
   ·rw[Ar,h1];exact R.env
   ·rw[Ar,h3];exact R.loc
   ·intro t b o h;rw[h2]at h;obtain⟨g1,g2,g3⟩:=R.adr t b o h;exact⟨zeE g1,by rw[h3];exact g2,g3⟩
   ·rw[Ar];exact R.heap
   ·rw[Ar];exact R.hinj
   ·rw[h3];exact R.linj
   ·rw[Ar,h3];exact R.lh
   ·rw[Ar];exact R.aH
   ·rw[h3];exact R.aL
   ·rw[Ar];exact R.fresh
   ·rw[Ar];exact R.clive
   ·rw[h3];exact R.cloc
   ·rw[Ar];exact R.chp
 | some d=>
   have DQ:d<a.tmps.size:=by rw[R.size];exact hd d rfl
   obtain⟨H6,Cv⟩:=hf d rfl;have h1:(s.apply (some d) e).env=upd s.env d e.val:=rfl;have h2:(s.apply (some d) e).adr=upd s.adr d e.adr:=rfl;have h3:(s.apply (some d) e).loc=upd s.loc d none:=by simp[St.apply,Er,hl]
   have Dw: ∀t,((upd s.loc d none) t).isSome=true->t≠d/\(s.loc t).isSome=true:=by
    intro t h
    by_cases ht:t=d
    ·subst ht;simp at h
    ·exact⟨ht,by rwa[zad _ _ ht]at h⟩
   refine{ R with size:=by rw[zoS];exact R.size,defers:=by rw[zkX];exact R.defers,env:= ?_,loc:= ?_,adr:= ?_,heap:= ?_,hinj:= ?_,linj:= ?_,lh:= ?_,aH:= ?_,aL:= ?_,afz:=by rw[Ar];exact R.afz,fresh:= ?_,clive:= ?_,cloc:= ?_,chp:= ?_ }
   ·intro t;rw[Ar,h1,zf3 a d t v DQ]
    by_cases ht:t=d
    ·subst ht;simpa using hv
    ·rw[zad _ _ ht,if_neg ht];exact R.env t
   ·intro t cs h;rw[h3]at h;obtain⟨ht,_⟩:=Dw t (by rw[h];rfl);rw[zad _ _ ht]at h;rw[Ar,zf3 a d t v DQ,if_neg ht];exact R.loc t cs h
   ·intro t b o h;rw[h2]at h;rw[h3,zf3 a d t v DQ]
    by_cases ht:t=d
    ·subst ht;simp only[zaz]at h;obtain⟨g1,g2⟩:=ha b o h;have hb:b≠t:=Cv b o h;refine⟨by simp[St.apply,h],by rw[zad _ _ hb];exact g1,by simp[g2]⟩
    ·rw[zad _ _ ht]at h;obtain⟨g1,g2,g3⟩:=R.adr t b o h;have hb:b≠d:=by intro hb;subst hb;simp[H6]at g1
     exact⟨zeE g1,by rw[zad _ _ hb];exact g2,by rw[if_neg ht];exact g3⟩
   ·rw[Ar];exact R.heap
   ·rw[Ar];exact R.hinj
   ·intro t t' g g';rw[h3]at g g';exact R.linj t t' (Dw t g).2 (Dw t' g').2
   ·intro t k o g;rw[h3]at g;rw[Ar];exact R.lh t k o (Dw t g).2
   ·rw[Ar];exact R.aH
   ·intro r hr ⟨t,g,he⟩;rw[h3]at g;exact R.aL r hr ⟨t,(Dw t g).2,he⟩
   ·rw[Ar];exact R.fresh
   ·rw[Ar];exact R.clive
   ·intro t g;rw[h3]at g;exact R.cloc t (Dw t g).2
   ·rw[Ar];exact R.chp
theorem Rel.world (R:Rel N c ns A μ lam s a w) {w':World} (AS:w.heap.size<=w'.heap.size)
 (hb: ∀r,A r\/MBL s.loc lam r\/(∃k o,s.heap k=some o/\o.live=true/\μ k=r)->w'.heap[r]? =w.heap[r]?)
 (hk: ∀r,r<c.w0.heap.size-> ¬c.X r->w'.heap[r]? =w.heap[r]?)
 (hs: ∀r x,w.shape? r=some x->w'.shape? r=some x) (Jv:zdG c A w' a.defers) (De:w'.os=w.os/\w'.output=w.output:=by exact⟨rfl,rfl⟩):Rel N c ns A μ lam s a w':=by
 have E:Evo w A μ s.heap w' A μ s.heap:=⟨fun r h=>hb r (.inl h),fun _ h=>h,fun _ o h=>⟨o,h,O.le_refl o,fun _=>rfl⟩,hs⟩
 refine{ R with defers:=Jv,env:=fun t=>(R.env t).evo E,loc:= ?_,heap:= ?_,glob:= ?_,alt:=fun r h=>Nat.lt_of_lt_of_le (R.alt r h) AS,cout:=⟨De.1.trans R.cout.1,De.2.trans R.cout.2⟩,csize:=Nat.le_trans R.csize AS,ckeep:= ?_,cshp:=fun r x h=>hs r x (R.cshp r x h) }
 ·intro t cs h;obtain⟨h1,cc,e,h2,h3⟩:=R.loc t cs h;exact⟨h1,cc,e,by rw[hb _ (.inr (.inl ⟨t,by rw[h];rfl,rfl⟩))];exact h2,h3.evo E⟩
 ·intro k o h;have:=R.heap k o h
  cases o with
  | dead=>trivial
  | rows sz rs frz=>
    obtain⟨cc,e,z,h1,h2,h3,h4,h5⟩:=this
    exact⟨cc,e,z,by rw[hb _ (.inr (.inr ⟨k,_,h,rfl,rfl⟩))];exact h1,h2,h3,h4,fun i row j x g1 g2=>let⟨v,hv,hr⟩:=h5 i row j x g1 g2;⟨v,hv,hr.evo E⟩⟩
  | map es=>
    obtain⟨ms,n,h1,h2,h3⟩:=this
    exact⟨ms,n,by rw[hb _ (.inr (.inr ⟨k,_,h,rfl,rfl⟩))];exact h1,h2,fun i k x g=>let⟨m,hm,hr,hv⟩:=h3 i k x g;⟨m,hm,hr,hv.evo E⟩⟩
  | loop env ps b st=>
    obtain⟨L,h1,h2,h3,h4,h5,h7,h6⟩:=this
    exact⟨L,by rw[hb _ (.inr (.inr ⟨k,_,h,rfl,rfl⟩))];exact h1,h2,h3,h4,h5,h7,fun t=>(h6 t).evo E⟩
  | raw x=>exact ztJ.evo this E (hb _ (.inr (.inr ⟨k,_,h,rfl,rfl⟩)))
 ·intro g j x h;obtain⟨h1,⟨te,F1⟩,v,hv,hr⟩:=R.glob g j x h;exact⟨h1,⟨te,E.shp _ _ F1⟩,v,by rw[cell?_eq (hb _ (.inl h1))];exact hv,hr.mono E.blk E.sub⟩
 ·intro r hr hx;rw[hk r hr hx];exact R.ckeep r hr hx
theorem shape?_push (w:World) (o:Go.Obj) (r:Nat) (x:TypeId×Nat) (h:w.shape? r=some x):(w.alloc o).shape? r=some x:=by
 have Ad:r<w.heap.size:=by
  rcases Nat.lt_or_ge r w.heap.size with h' | h'
  ·exact h'
  ·simp[World.shape?,Array.getElem?_eq_none h']at h
 have:(w.alloc o).heap[r]? =w.heap[r]? :=by simp only[World.alloc,Array.getElem?_push];simp[Nat.ne_of_lt Ad]
 simpa[World.shape?,this]using h
theorem ztJ.isCells {w:World} {tB tU:Nat} {μ:Nat->Nat} {H:Nat->Option O} {r:Nat} {x:Bx} (h:ztJ w tB tU μ H r x): ∃cs t z,w.heap[r]? =some (.cells cs t z):=by
 match x,h with
 | .bld none,⟨_,h,_⟩=>exact⟨_,_,_,h⟩
 | .bld (some _),⟨_,_,_,h,_⟩=>exact⟨_,_,_,h⟩
 | .mid,⟨_,_,h⟩=>exact⟨_,_,_,h⟩
 | .buf _,⟨_,h,_⟩=>exact⟨_,_,_,h⟩
theorem Rel.lt_live (R:Rel N c ns A μ lam s a w) {k:Nat} {o:O} (h:s.heap k=some o) (hl:o.live=true):μ k<w.heap.size:=by
 have:=R.heap k o h
 cases o with
 | dead=>simp[O.live]at hl
 | rows sz rs frz=>obtain⟨cc,e,z,h1,_⟩:=this;exact(Array.getElem?_eq_some_iff.1 h1).1
 | map es=>obtain⟨ms,n,h1,_⟩:=this;exact(Array.getElem?_eq_some_iff.1 h1).1
 | loop env ps b st=>obtain⟨L,h1,_⟩:=this;exact(Array.getElem?_eq_some_iff.1 h1).1
 | raw x=>
   obtain⟨_,_,_,h1⟩:=ztJ.isCells this;exact(Array.getElem?_eq_some_iff.1 h1).1
theorem Rel.ndef (R:Rel N c ns A μ lam s a w) {k:Nat} {o:O} (h:s.heap k=some o) (hl:o.live=true):w.heap[μ k]? ≠some (Obj.deferred (some [])):=by
 have:=R.heap k o h
 cases o with
 | dead=>simp[O.live]at hl
 | rows sz rs frz=>obtain⟨cc,e,z,h1,_⟩:=this;rw[h1];simp
 | map es=>obtain⟨ms,n,h1,_⟩:=this;rw[h1];simp
 | loop env ps b st=>obtain⟨L,h1,_⟩:=this;rw[h1];simp
 | raw x=>
   obtain⟨_,_,_,h1⟩:=ztJ.isCells this;rw[h1];simp
theorem Rel.ndef_loc (R:Rel N c ns A μ lam s a w) {t:Nat} (h:(s.loc t).isSome=true):w.heap[lam t]? ≠some (Obj.deferred (some [])):=by
 obtain⟨cs,h⟩:=Option.isSome_iff_exists.1 h;obtain⟨_,cc,e,h1,_⟩:=R.loc t cs h;rw[h1];simp
theorem Rel.lt_loc (R:Rel N c ns A μ lam s a w) {t:Nat} (h:(s.loc t).isSome=true):lam t<w.heap.size:=by
 obtain⟨cs,h⟩:=Option.isSome_iff_exists.1 h;obtain⟨_,cc,e,h1,_⟩:=R.loc t cs h;exact(Array.getElem?_eq_some_iff.1 h1).1
theorem zq3.evo {w w':World} {A A':Nat->Prop} {N:Nam} {μ μ':Nat->Nat} {H H':Nat->Option O} {r:Nat} {o:O} (h:zq3 w A N μ H r o)
 (e:Evo w A μ H w' A' μ' H') (hr:w'.heap[r]? =w.heap[r]?):zq3 w' A' N μ' H' r o:=by
 cases o with
 | dead=>trivial
 | rows sz rs frz=>
   obtain⟨cc,e0,z,h1,h2,h3,h4,h5⟩:=h
   exact⟨cc,e0,z,by rw[hr];exact h1,h2,h3,h4,fun i row j x g1 g2=>let⟨v,hv,hr⟩:=h5 i row j x g1 g2;⟨v,hv,hr.evo e⟩⟩
 | map es=>
   obtain⟨ms,n,h1,h2,h3⟩:=h
   exact⟨ms,n,by rw[hr];exact h1,h2,fun i k x g=>let⟨m,hm,hr,hv⟩:=h3 i k x g;⟨m,hm,hr,hv.evo e⟩⟩
 | loop env ps b st=>
   obtain⟨L,h1,h2,h3,h4,h5,h7,h6⟩:=h
   exact⟨L,by rw[hr];exact h1,h2,h3,h4,h5,h7,fun t=>(h6 t).evo e⟩
 | raw x=>exact ztJ.evo h e hr
theorem zxz.evo {w w':World} {A A':Nat->Prop} {nm μ μ':Nat->Nat} {H H':Nat->Option O} {r:Nat} {cs:List V} (h:zxz w A nm μ H r cs)
 (e:Evo w A μ H w' A' μ' H') (hr:w'.heap[r]? =w.heap[r]?):zxz w' A' nm μ' H' r cs:=by
 obtain⟨cc,e0,h1,h2⟩:=h;exact⟨cc,e0,by rw[hr];exact h1,h2.evo e⟩
structure Orphan (c:Ctx) (A:Nat->Prop) (μ lam:Nat->Nat) (s:St) (r:Nat):Prop where
 a: ¬A r
 l: ∀t,(s.loc t).isSome=true->lam t≠r
 h: ∀k o,s.heap k=some o->o.live=true->μ k≠r
 x:c.X r\/c.w0.heap.size<=r
theorem Rel.orphan_new (R:Rel N c ns A μ lam s a w):Orphan c A μ lam s w.heap.size:=
 ⟨fun h=>Nat.lt_irrefl _ (R.alt _ h),fun _ h e=>Nat.lt_irrefl _ (e▸R.lt_loc h),fun _ _ h hl e=>Nat.lt_irrefl _ (e▸R.lt_live h hl),.inr R.csize⟩
theorem Rel.alloc (R:Rel N c ns A μ lam s a w) (o:Go.Obj):Rel N c ns A μ lam s a (w.alloc o):=by
 have Ad: ∀r,r<w.heap.size->(w.alloc o).heap[r]? =w.heap[r]? :=by
  intro r hr;simp only[World.alloc,Array.getElem?_push];simp[Nat.ne_of_lt hr]
 refine R.world (by simp) ?_ ?_ (fun r x h=>shape?_push w o r x h) (R.defers.evo (fun r h=>Ad r (Array.getElem?_eq_some_iff.1 h).1) (fun _ _ h=>h))
 ·rintro r (h | ⟨t,h,rfl⟩ | ⟨k,o',h,hl,rfl⟩)
  ·exact Ad r (R.alt r h)
  ·exact Ad _ (R.lt_loc h)
  ·exact Ad _ (R.lt_live h hl)
 ·intro r hr _;exact Ad r (Nat.lt_of_lt_of_le hr R.csize)
theorem Rel.drew (R:Rel N c ns A μ lam s a w):Rel N c ns A μ lam s a w.drew:=
 R.world (Nat.le_refl _) (fun _ _=>rfl) (fun _ _ _=>rfl) (fun _ _ h=>h) R.defers
theorem shape?_setRow {w:World} {g:Nat} {old cs:Array Value} {t:TypeId} {fr:Nat×Nat} (hg:w.heap[g]? =some (.cells old t fr)) (hs:cs.size=old.size)
 (r:Nat) (x:TypeId×Nat) (h:w.shape? r=some x):(w.setRow g cs).shape? r=some x:=by
 by_cases hr:r=g
 ·subst hr;simp only[World.shape?,hg,setRow_heap w r old cs t fr hg]at h⊢;simpa[hs]using h
 ·simpa[World.shape?,setRow_other w g r cs hr]using h
theorem Rel.setOrphan (R:Rel N c ns A μ lam s a w) {r:Nat} (hr:Orphan c A μ lam s r) {old cs:Array Value} {t:TypeId} {fr:Nat×Nat}
 (hg:w.heap[r]? =some (.cells old t fr)) (hs:cs.size=old.size):Rel N c ns A μ lam s a (w.setRow r cs):=by
 refine R.world (by simp) ?_ ?_ (shape?_setRow hg hs) (R.defers.evo (fun r' h=>setRow_other w r r' cs (fun e=>by subst e;rw[hg]at h;simp at h)) (fun _ _ h=>h))
 ·rintro r' (h | ⟨t,h,rfl⟩ | ⟨k,o',h,hl,rfl⟩)
  ·exact setRow_other w r r' cs (fun e=>hr.a (e▸h))
  ·exact setRow_other w r _ cs (hr.l t h)
  ·exact setRow_other w r _ cs (hr.h k o' h hl)
 ·intro r' h1 h2;refine setRow_other w r r' cs (fun e=> ?_);subst e;rcases hr.x with h | h
  ·exact h2 h
  ·omega
theorem Rel.adoptH (R:Rel N c ns A μ lam s a w) {k r:Nat} {o:O} (hk:s.heap k=none) (hn:k<s.nxt) (hr:Orphan c A μ lam s r)
 (ho:zq3 w A N μ s.heap r o) (Be: ∀sz rs,o≠ .rows sz rs true):Rel N c ns A (upd μ k r) lam { s with heap:=upd s.heap k (some o) } a w:=by
 have Az: ∀k' o',s.heap k'=some o'->k'≠k:=by rintro k' o' h rfl;simp[hk]at h
 have E:Evo w A μ s.heap w A (upd μ k r) (upd s.heap k (some o)):=
  ⟨fun _ _=>rfl,fun _ h=>h,fun k' o' h=>⟨o',by rw[zad _ _ (Az k' o' h)];exact h,O.le_refl o',fun _=>zad _ _ (Az k' o' h)⟩,fun _ _ h=>h⟩
 have Al: ∀k' o',(upd s.heap k (some o)) k'=some o'->(k'=k/\o'=o)\/(k'≠k/\s.heap k'=some o'):=by
  intro k' o' h
  by_cases e:k'=k
  ·subst e;simp at h;exact .inl ⟨rfl,h.symm⟩
  ·rw[zad _ _ e]at h;exact .inr ⟨e,h⟩
 refine{ R with env:=fun t=>(R.env t).evo E,loc:= ?_,heap:= ?_,hinj:= ?_,lh:= ?_,aH:= ?_,afz:= ?_,fresh:= ?_,clive:= ?_,chp:= ?_ }
 ·intro t cs h;obtain⟨h1,h2⟩:=R.loc t cs h;exact⟨h1,h2.evo E rfl⟩
 ·intro k' o' h;rcases Al k' o' h with⟨rfl,rfl⟩ | ⟨e,h⟩
  ·simp only[zaz];exact ho.evo E rfl
  ·simp only[zad _ _ e];exact(R.heap k' o' h).evo E rfl
 ·intro k1 k2 o1 o2 h1 h2 l1 l2 he;rcases Al k1 o1 h1 with⟨rfl,rfl⟩ | ⟨e1,g1⟩<;>rcases Al k2 o2 h2 with⟨rfl,rfl⟩ | ⟨e2,g2⟩
  ·rfl
  ·simp only[zaz,zad _ _ e2]at he;exact absurd he.symm (hr.h k2 o2 g2 l2)
  ·simp only[zaz,zad _ _ e1]at he;exact absurd he (hr.h k1 o1 g1 l1)
  ·simp only[zad _ _ e1,zad _ _ e2]at he;exact R.hinj k1 k2 o1 o2 g1 g2 l1 l2 he
 ·intro t k' o' ht h hl;rcases Al k' o' h with⟨rfl,rfl⟩ | ⟨e,h⟩
  ·simp only[zaz];exact hr.l t ht
  ·simp only[zad _ _ e];exact R.lh t k' o' ht h hl
 ·rintro r' hA ⟨k',o',h,hm,hl,he⟩;rcases Al k' o' h with⟨rfl,rfl⟩ | ⟨e,h⟩
  ·simp only[zaz]at he;subst he;exact hr.a hA
  ·simp only[zad _ _ e]at he;exact R.aH r' hA ⟨k',o',h,hm,hl,he⟩
 ·intro k' sz rs h;rcases Al k' _ h with⟨rfl,g⟩ | ⟨e,h⟩
  ·exact absurd g.symm (Be sz rs)
  ·simp only[zad _ _ e];exact R.afz k' sz rs h
 ·intro k' h;have:k'≠k:=fun e=>by subst e;exact absurd h (Nat.not_le.2 hn)
  simp only[zad _ _ this];exact R.fresh k' h
 ·rintro r' ⟨k',o',h,hm,hl,he⟩;rcases Al k' o' h with⟨rfl,rfl⟩ | ⟨e,h⟩
  ·simp only[zaz]at he;subst he;exact hr.x
  ·simp only[zad _ _ e]at he;exact R.clive r' ⟨k',o',h,hm,hl,he⟩
 ·intro k' o' h;obtain⟨o1,h1,h2,h3⟩:=R.chp k' o' h;have e:=Az k' o1 h1;exact⟨o1,by simp only[zad _ _ e];exact h1,h2,fun hl=>by rw[zad _ _ e];exact h3 hl⟩
theorem Rel.changeH (R:Rel N c ns A μ lam s a w) {k:Nat} {o o':O} {w':World} (hk:s.heap k=some o) (A5:O.le o o') (hl:o.live=true)
 (hm: ∀sz rs,o≠ .rows sz rs true) (Fm: ∀sz rs,o'≠ .rows sz rs true) (CE:o'.live=true)
 (AS:w'.heap.size=w.heap.size) (AZ: ∀r,r≠μ k->w'.heap[r]? =w.heap[r]?) (hs: ∀r x,w.shape? r=some x->w'.shape? r=some x)
 (ho:Evo w A μ s.heap w' A μ (upd s.heap k (some o'))->zq3 w' A N μ (upd s.heap k (some o')) (μ k) o') (De:w'.os=w.os/\w'.output=w.output:=by exact⟨rfl,rfl⟩):
 Rel N c ns A μ lam { s with heap:=upd s.heap k (some o') } a w':=by
 have hA: ∀r,A r->r≠μ k:=fun r h e=>R.aH r h ⟨k,o,hk,hm,hl,e.symm⟩
 have E:Evo w A μ s.heap w' A μ (upd s.heap k (some o')):=by
  refine⟨fun r h=>AZ r (hA r h),fun _ h=>h,fun k1 o1 h=> ?_,hs⟩
  by_cases e:k1=k
  ·subst e;rw[hk]at h;cases h;exact⟨o',by simp,A5,fun _=>rfl⟩
  ·exact⟨o1,by rw[zad _ _ e];exact h,O.le_refl o1,fun _=>rfl⟩
 have Al: ∀k1 o1,(upd s.heap k (some o')) k1=some o1->(k1=k/\o1=o')\/(k1≠k/\s.heap k1=some o1):=by
  intro k1 o1 h
  by_cases e:k1=k
  ·subst e;simp at h;exact .inl ⟨rfl,h.symm⟩
  ·rw[zad _ _ e]at h;exact .inr ⟨e,h⟩
 have AA: ∀k1 o1,(upd s.heap k (some o')) k1=some o1->o1.live=true-> ∃o2,s.heap k1=some o2/\o2.live=true:=by
  intro k1 o1 h AO;rcases Al k1 o1 h with⟨rfl,rfl⟩ | ⟨_,h⟩
  ·exact⟨o,hk,hl⟩
  ·exact⟨o1,h,AO⟩
 have JQ: ∀r:Nat,w.heap[r]? =some (Obj.deferred (some []))->w'.heap[r]? =w.heap[r]? :=fun r h=>AZ r (fun e=>R.ndef hk hl (e▸h))
 refine{ R with defers:=R.defers.evo JQ (fun _ _ h=>h),env:=fun t=>(R.env t).evo E,loc:= ?_,heap:= ?_,hinj:= ?_,lh:= ?_,aH:= ?_,alt:= ?_,afz:= ?_,fresh:= ?_,glob:= ?_,cout:=⟨De.1.trans R.cout.1,De.2.trans R.cout.2⟩,csize:= ?_,ckeep:= ?_,cshp:= ?_,clive:= ?_,chp:= ?_ }
 ·intro t cs h;obtain⟨h1,h2⟩:=R.loc t cs h;exact⟨h1,h2.evo E (AZ _ (R.lh t k o (by rw[h];rfl) hk hl))⟩
 ·intro k1 o1 h;rcases Al k1 o1 h with⟨rfl,rfl⟩ | ⟨e,h⟩
  ·exact ho E
  ·cases AO:o1.live with
   | false=>cases o1<;>simp_all [O.live];trivial
   | true=>exact(R.heap k1 o1 h).evo E (AZ _ (fun he=>e (R.hinj k1 k o1 o h hk AO hl he)))
 ·intro k1 k2 o1 o2 h1 h2 l1 l2 he;obtain⟨p1,q1,m1⟩:=AA k1 o1 h1 l1;obtain⟨p2,q2,m2⟩:=AA k2 o2 h2 l2;exact R.hinj k1 k2 p1 p2 q1 q2 m1 m2 he
 ·intro t k1 o1 ht h AO;obtain⟨p1,q1,m1⟩:=AA k1 o1 h AO;exact R.lh t k1 p1 ht q1 m1
 ·rintro r DK ⟨k1,o1,h,D8,AO,he⟩;rcases Al k1 o1 h with⟨rfl,rfl⟩ | ⟨e,h⟩
  ·exact hA r DK he.symm
  ·exact R.aH r DK ⟨k1,o1,h,D8,AO,he⟩
 ·intro r h;rw[AS];exact R.alt r h
 ·intro k1 sz rs h;rcases Al k1 _ h with⟨rfl,g⟩ | ⟨e,h⟩
  ·exact absurd g.symm (Fm sz rs)
  ·exact R.afz k1 sz rs h
 ·intro k1 h;have:k1≠k:=by rintro rfl;have:=R.fresh k1 h;simp[hk]at this
  simp only[zad _ _ this];exact R.fresh k1 h
 ·intro g j x h;obtain⟨h1,⟨te,F1⟩,v,hv,hr⟩:=R.glob g j x h;exact⟨h1,⟨te,E.shp _ _ F1⟩,v,by rw[cell?_eq (AZ _ (hA _ h1))];exact hv,hr.mono E.blk E.sub⟩
 ·rw[AS];exact R.csize
 ·intro r h1 h2;rw[AZ r ?_]
  ·exact R.ckeep r h1 h2
  ·rintro rfl;rcases R.clive _ ⟨k,o,hk,hm,hl,rfl⟩with h | h
   ·exact h2 h
   ·omega
 ·intro r x h;exact hs r x (R.cshp r x h)
 ·rintro r ⟨k1,o1,h,D8,AO,he⟩;rcases Al k1 o1 h with⟨rfl,rfl⟩ | ⟨e,h⟩
  ·exact R.clive r ⟨k1,o,hk,hm,hl,he⟩
  ·exact R.clive r ⟨k1,o1,h,D8,AO,he⟩
 ·intro k1 o1 h;obtain⟨o2,h2,h3,h4⟩:=R.chp k1 o1 h
  by_cases e:k1=k
  ·subst e;rw[hk]at h2;cases h2;exact⟨o',by simp,O.le_trans h3 A5,fun _=>h4 hl⟩
  ·exact⟨o2,by simp only[zad _ _ e];exact h2,h3,h4⟩
theorem Rel.kill (R:Rel N c ns A μ lam s a w) {k:Nat} {o:O} (hk:s.heap k=some o):Rel N c ns A μ lam { s with heap:=upd s.heap k (some .dead) } a w:=by
 have E:Evo w A μ s.heap w A μ (upd s.heap k (some .dead)):=by
  refine⟨fun _ _=>rfl,fun _ h=>h,fun k1 o1 h=> ?_,fun _ _ h=>h⟩
  by_cases e:k1=k
  ·subst e;exact⟨.dead,by simp,by cases o1<;>trivial,fun _=>rfl⟩
  ·exact⟨o1,by rw[zad _ _ e];exact h,O.le_refl o1,fun _=>rfl⟩
 have AA: ∀k1 o1,(upd s.heap k (some .dead)) k1=some o1->o1.live=true->k1≠k/\s.heap k1=some o1:=by
  intro k1 o1 h AO
  by_cases e:k1=k
  ·subst e;simp at h;subst h;simp[O.live]at AO
  ·rw[zad _ _ e]at h;exact⟨e,h⟩
 refine{ R with env:=fun t=>(R.env t).evo E,loc:= ?_,heap:= ?_,hinj:= ?_,lh:= ?_,aH:= ?_,afz:=fun k1 sz rs h=>R.afz k1 sz rs (AA k1 _ h rfl).2,fresh:= ?_,clive:= ?_,chp:= ?_ }
 ·intro t cs h;obtain⟨h1,h2⟩:=R.loc t cs h;exact⟨h1,h2.evo E rfl⟩
 ·intro k1 o1 h
  cases AO:o1.live with
  | false=>cases o1<;>simp_all [O.live];trivial
  | true=>exact(R.heap k1 o1 (AA k1 o1 h AO).2).evo E rfl
 ·intro k1 k2 o1 o2 h1 h2 l1 l2 he;exact R.hinj k1 k2 o1 o2 (AA k1 o1 h1 l1).2 (AA k2 o2 h2 l2).2 l1 l2 he
 ·intro t k1 o1 ht h AO;exact R.lh t k1 o1 ht (AA k1 o1 h AO).2 AO
 ·rintro r DK ⟨k1,o1,h,D8,AO,he⟩;exact R.aH r DK ⟨k1,o1,(AA k1 o1 h AO).2,D8,AO,he⟩
 ·intro k1 h;have:k1≠k:=by rintro rfl;have:=R.fresh k1 h;simp[hk]at this
  simp only[zad _ _ this];exact R.fresh k1 h
 ·rintro r ⟨k1,o1,h,D8,AO,he⟩;exact R.clive r ⟨k1,o1,(AA k1 o1 h AO).2,D8,AO,he⟩
 ·intro k1 o1 h;obtain⟨o2,h2,h3,h4⟩:=R.chp k1 o1 h;obtain⟨o3,h5,h6,h7⟩:=E.hp k1 o2 h2;refine⟨o3,h5,O.le_trans h3 h6,fun D9=>h4 ?_⟩;have:=AA k1 o3 h5 D9;rw[this.2]at h2;cases h2;exact D9
theorem Rel.orphan_kill (R:Rel N c ns A μ lam s a w) {k:Nat} {o:O} (hk:s.heap k=some o) (hl:o.live=true) (hm: ∀sz rs,o≠ .rows sz rs true):
 Orphan c A μ lam { s with heap:=upd s.heap k (some .dead) } (μ k):=by
 refine⟨fun h=>R.aH _ h ⟨k,o,hk,hm,hl,rfl⟩,fun t h=>R.lh t k o h hk hl,fun k1 o1 h AO he=> ?_,R.clive _ ⟨k,o,hk,hm,hl,rfl⟩⟩
 by_cases e:k1=k
 ·subst e;simp at h;subst h;simp[O.live]at AO
 ·simp only[zad _ _ e]at h;exact e (R.hinj k1 k o1 o h hk AO hl he)
theorem Rel.adoptL (R:Rel N c ns A μ lam s a w) (d:Nat) (hd:d<ns) (hu:s.used d=false) {r:Nat} (hr:Orphan c A μ lam s r) {cs:List V}
 (ho:zxz w A N.nm μ s.heap r cs):
 Rel N c ns A μ (upd lam d r) (s.apply (some d) { val:=.lb,loc:=some cs }) (a.put (some d) (.pointer (some ⟨r,0,none⟩))) w:=by
 have DQ:d<a.tmps.size:=by rw[R.size];exact hd
 have h0:s.apply (some d) { val:=.lb,loc:=some cs }= { s with env:=upd s.env d .lb,adr:=upd s.adr d none,loc:=upd s.loc d (some cs) }:=rfl;rw[h0]
 have Al: ∀t,((upd s.loc d (some cs)) t).isSome=true->t=d\/(t≠d/\(s.loc t).isSome=true):=by
  intro t h
  by_cases e:t=d
  ·exact .inl e
  ·exact .inr ⟨e,by rwa[zad _ _ e]at h⟩
 refine{ R with size:=by rw[zoS];exact R.size,defers:=by rw[zkX];exact R.defers,env:= ?_,loc:= ?_,adr:= ?_,linj:= ?_,lh:= ?_,aL:= ?_,cloc:= ?_ }
 ·intro t;rw[zf3 a d t _ DQ]
  by_cases ht:t=d
  ·subst ht;simp[zbl]
  ·simp only[zad _ _ ht,if_neg ht];exact R.env t
 ·intro t cs' h;rw[zf3 a d t _ DQ]
  by_cases ht:t=d
  ·subst ht;simp only[zaz,zA]at h;subst h;simp only[zaz,if_true];exact⟨trivial,ho⟩
  ·simp only[zad _ _ ht]at h;simp only[zad _ _ ht,if_neg ht];exact R.loc t cs' h
 ·intro t b o h;rw[zf3 a d t _ DQ]
  by_cases ht:t=d
  ·subst ht;simp at h
  ·simp only[zad _ _ ht]at h;obtain⟨g1,g2,g3⟩:=R.adr t b o h;have hb:b≠d:=by intro hb;subst hb;simp[hu]at g1
   simp only[zad _ _ hb,if_neg ht];exact⟨g1,g2,g3⟩
 ·intro t t' g g' he;rcases Al t g with rfl | ⟨e,q⟩<;>rcases Al t' g' with rfl | ⟨e',q'⟩
  ·rfl
  ·simp only[zaz,zad _ _ e']at he;exact absurd he.symm (hr.l t' q')
  ·simp only[zaz,zad _ _ e]at he;exact absurd he (hr.l t q)
  ·simp only[zad _ _ e,zad _ _ e']at he;exact R.linj t t' q q' he
 ·intro t k o g h hl;rcases Al t g with rfl | ⟨e,g⟩
  ·simp only[zaz];exact fun e=>hr.h k o h hl e.symm
  ·simp only[zad _ _ e];exact R.lh t k o g h hl
 ·rintro r' hA ⟨t,g,he⟩;rcases Al t g with rfl | ⟨e,g⟩
  ·simp only[zaz]at he;subst he;exact hr.a hA
  ·simp only[zad _ _ e]at he;exact R.aL r' hA ⟨t,g,he⟩
 ·intro t g;rcases Al t g with rfl | ⟨e,g⟩
  ·simp only[zaz];exact hr.x
  ·simp only[zad _ _ e];exact R.cloc t g
theorem Rel.changeL (R:Rel N c ns A μ lam s a w) {b:Nat} {cs cs':List V} {w':World} (hb:s.loc b=some cs)
 (AS:w'.heap.size=w.heap.size) (AZ: ∀r,r≠lam b->w'.heap[r]? =w.heap[r]?) (hs: ∀r x,w.shape? r=some x->w'.shape? r=some x)
 (ho:Evo w A μ s.heap w' A μ s.heap->zxz w' A N.nm μ s.heap (lam b) cs') (De:w'.os=w.os/\w'.output=w.output:=by exact⟨rfl,rfl⟩):
 Rel N c ns A μ lam { s with loc:=upd s.loc b (some cs') } a w':=by
 have Ay:(s.loc b).isSome=true:=by rw[hb];rfl
 have hA: ∀r,A r->r≠lam b:=fun r h e=>R.aL r h ⟨b,Ay,e.symm⟩
 have E:Evo w A μ s.heap w' A μ s.heap:=⟨fun r h=>AZ r (hA r h),fun _ h=>h,fun _ o h=>⟨o,h,O.le_refl o,fun _=>rfl⟩,hs⟩
 have AA: ∀t,((upd s.loc b (some cs')) t).isSome=true->(s.loc t).isSome=true:=by
  intro t h
  by_cases e:t=b
  ·subst e;exact Ay
  ·rwa[zad _ _ e]at h
 have JQ: ∀r:Nat,w.heap[r]? =some (Obj.deferred (some []))->w'.heap[r]? =w.heap[r]? :=fun r h=>AZ r (fun e=>R.ndef_loc Ay (e▸h))
 refine{ R with defers:=R.defers.evo JQ (fun _ _ h=>h),env:=fun t=>(R.env t).evo E,loc:= ?_,adr:= ?_,heap:= ?_,linj:= ?_,lh:= ?_,aL:= ?_,alt:= ?_,glob:= ?_,cout:=⟨De.1.trans R.cout.1,De.2.trans R.cout.2⟩,csize:= ?_,ckeep:= ?_,cshp:= ?_,cloc:= ?_ }
 ·intro t ds h
  by_cases e:t=b
  ·subst e;simp only[zaz,zA]at h;subst h;exact⟨(R.loc t cs hb).1,ho E⟩
  ·simp only[zad _ _ e]at h;obtain⟨h1,h2⟩:=R.loc t ds h;exact⟨h1,h2.evo E (AZ _ (fun he=>e (R.linj t b (by rw[h];rfl) Ay he)))⟩
 ·intro t b' o h;obtain⟨g1,g2,g3⟩:=R.adr t b' o h;refine⟨g1,?_,g3⟩
  by_cases e:b'=b
  ·subst e;simp
  ·simp only[zad _ _ e];exact g2
 ·intro k o h
  cases hl:o.live with
  | false=>cases o<;>simp_all [O.live];trivial
  | true=>exact(R.heap k o h).evo E (AZ _ (fun he=>R.lh b k o Ay h hl he.symm))
 ·intro t t' g g';exact R.linj t t' (AA t g) (AA t' g')
 ·intro t k o g;exact R.lh t k o (AA t g)
 ·rintro r hr ⟨t,g,he⟩;exact R.aL r hr ⟨t,AA t g,he⟩
 ·intro r h;rw[AS];exact R.alt r h
 ·intro g j x h;obtain⟨h1,⟨te,F1⟩,v,hv,hr⟩:=R.glob g j x h;exact⟨h1,⟨te,E.shp _ _ F1⟩,v,by rw[cell?_eq (AZ _ (hA _ h1))];exact hv,hr.mono E.blk E.sub⟩
 ·rw[AS];exact R.csize
 ·intro r h1 h2;rw[AZ r ?_]
  ·exact R.ckeep r h1 h2
  ·rintro rfl;rcases R.cloc b Ay with h | h
   ·exact h2 h
   ·omega
 ·intro r x h;exact hs r x (R.cshp r x h)
 ·intro t g;exact R.cloc t (AA t g)
theorem Rel.freeze (R:Rel N c ns A μ lam s a w) {k sz:Nat} {rs:List (List V)} {frz:Bool} (hk:s.heap k=some (.rows sz rs frz)):
 Rel N c ns (fun r=>A r\/r=μ k) μ lam { s with heap:=upd s.heap k (some (.rows sz rs true)) } a w:=by
 have E:Evo w A μ s.heap w (fun r=>A r\/r=μ k) μ (upd s.heap k (some (.rows sz rs true))):=by
  refine⟨fun _ _=>rfl,fun _ h=> .inl h,fun k1 o1 h=> ?_,fun _ _ h=>h⟩
  by_cases e:k1=k
  ·subst e;rw[hk]at h;cases h;exact⟨.rows sz rs true,by simp,⟨rfl,rfl⟩,fun _=>rfl⟩
  ·exact⟨o1,by rw[zad _ _ e];exact h,O.le_refl o1,fun _=>rfl⟩
 have Al: ∀k1 o1,(upd s.heap k (some (.rows sz rs true))) k1=some o1->(k1=k/\o1= .rows sz rs true)\/(k1≠k/\s.heap k1=some o1):=by
  intro k1 o1 h
  by_cases e:k1=k
  ·subst e;simp at h;exact .inl ⟨rfl,h.symm⟩
  ·rw[zad _ _ e]at h;exact .inr ⟨e,h⟩
 have AA: ∀k1 o1,(upd s.heap k (some (.rows sz rs true))) k1=some o1->o1.live=true-> ∃o2,s.heap k1=some o2/\o2.live=true:=by
  intro k1 o1 h AO;rcases Al k1 o1 h with⟨rfl,rfl⟩ | ⟨_,h⟩
  ·exact⟨_,hk,rfl⟩
  ·exact⟨o1,h,AO⟩
 have JQ: ∀r:Nat,w.heap[r]? =some (Obj.deferred (some []))->(A r\/r=μ k)->A r:=fun r h h'=>h'.resolve_right (fun e=>R.ndef hk rfl (e▸h))
 refine{ R with defers:=R.defers.evo (fun _ _=>rfl) JQ,env:=fun t=>(R.env t).evo E,loc:= ?_,heap:= ?_,hinj:= ?_,lh:= ?_,aH:= ?_,aL:= ?_,alt:= ?_,afz:= ?_,fresh:= ?_,glob:= ?_,csub:= ?_,canew:= ?_,clive:= ?_,chp:= ?_ }
 ·intro t cs h;obtain⟨h1,h2⟩:=R.loc t cs h;exact⟨h1,h2.evo E rfl⟩
 ·intro k1 o1 h;rcases Al k1 o1 h with⟨rfl,rfl⟩ | ⟨e,h⟩
  ·obtain⟨cc,e0,z,h1,h2,h3,h4,h5⟩:=(R.heap k1 _ hk).evo E rfl;exact⟨cc,e0,z,h1,(by simp),h3,h4,h5⟩
  ·exact(R.heap k1 o1 h).evo E rfl
 ·intro k1 k2 o1 o2 h1 h2 l1 l2 he;obtain⟨p1,q1,m1⟩:=AA k1 o1 h1 l1;obtain⟨p2,q2,m2⟩:=AA k2 o2 h2 l2;exact R.hinj k1 k2 p1 p2 q1 q2 m1 m2 he
 ·intro t k1 o1 ht h AO;obtain⟨p1,q1,m1⟩:=AA k1 o1 h AO;exact R.lh t k1 p1 ht q1 m1
 ·rintro r DK ⟨k1,o1,h,D8,AO,he⟩;rcases Al k1 o1 h with⟨rfl,rfl⟩ | ⟨e,h⟩
  ·exact D8 sz rs rfl
  ·rcases DK with DK | rfl
   ·exact R.aH r DK ⟨k1,o1,h,D8,AO,he⟩
   ·exact e (R.hinj k1 k o1 _ h hk AO rfl he)
 ·rintro r (DK | rfl) ⟨t,g,he⟩
  ·exact R.aL r DK ⟨t,g,he⟩
  ·exact R.lh t k _ g hk rfl he
 ·rintro r (h | rfl)
  ·exact R.alt r h
  ·exact R.lt_live hk rfl
 ·intro k1 sz1 rs1 h;rcases Al k1 _ h with⟨rfl,h⟩ | ⟨e,h⟩
  ·exact .inr rfl
  ·exact .inl (R.afz k1 sz1 rs1 h)
 ·intro k1 h;have:k1≠k:=by rintro rfl;have:=R.fresh k1 h;simp[hk]at this
  simp only[zad _ _ this];exact R.fresh k1 h
 ·intro g j x h;obtain⟨h1,⟨te,F1⟩,v,hv,hr⟩:=R.glob g j x h;exact⟨.inl h1,⟨te,F1⟩,v,hv,hr.mono E.blk E.sub⟩
 ·intro r h;exact .inl (R.csub r h)
 ·rintro r (h | rfl)
  ·exact R.canew r h
  ·cases frz with
   | true=>exact R.canew _ (R.afz k sz rs hk)
   | false=>exact .inr (R.clive _ ⟨k,_,hk,by simp,rfl,rfl⟩)
 ·rintro r ⟨k1,o1,h,D8,AO,he⟩;rcases Al k1 o1 h with⟨rfl,rfl⟩ | ⟨e,h⟩
  ·exact absurd rfl (D8 sz rs)
  ·exact R.clive r ⟨k1,o1,h,D8,AO,he⟩
 ·intro k1 o1 h;obtain⟨o2,h2,h3,h4⟩:=R.chp k1 o1 h;obtain⟨o3,h5,h6,h7⟩:=E.hp k1 o2 h2;refine⟨o3,h5,O.le_trans h3 h6,fun D9=>h4 ?_⟩;obtain⟨o4,h8,h9⟩:=AA k1 o3 h5 D9;rw[h8]at h2;cases h2;exact h9
end
end Rg
end
section
namespace Rg
open Go
structure Inv where
 fi:Nat->Option Nat
 gi:Nat->Option Nat
 tB:Option Nat
 tys:List (Nat×Nat):=[]
structure Inv.Ok (I:Inv) (N:Nam):Prop where
 f: ∀f k,I.fi f=some k->N.nm k=f
 g: ∀g k,I.gi g=some k->N.gm k=g/\N.G k≠[]/\N.GL k=N.G k
 b: ∀t,I.tB=some t->N.tB=t
 ty: ∀k t,(k,t)∈I.tys->N.nm k=10000000+t:=by intro k t h;cases h
def znk:Value->Option V
 | .int k n=>some (.t (.int k n))
 | .bool b=>some (.t (.bool b))
 | .string s=>some (.t (.str s))
 | .pointer none=>some (.t .nilp)
 | .slice none 0 0=>some (.t .nils)
 | .map none=>some (.t .nilm)
 | .nilFunc=>some (.t .nilf)
 | .nilIface=>some (.t .nili)
 | _=>none
def cellsOf (v:Value):Option (List V):=v.cells.toList.mapM znk
def zjz:Value->Option V
 | .agg cs=>(cs.toList.mapM znk).map V.agg
 | v=>znk v
section
variable (P:Program) (I:Inv)
def opd:Operand->Option Opd
 | .tmp t=>some (.s t)
 | .const v=>(zjz v).map .c
 | .global g=>(I.gi g).map .g
 | .func f=>(I.fi f).map fun k=> .c (.t (.fn k [] []))
def znu:Option Operand->Option (Option Opd)
 | none=>some none
 | some x=>(opd I x).map some
def opds (xs:Array Operand):Option (List Opd):=xs.toList.mapM (opd I)
def typ (t:TypeId):Option (Bool×Nat):=
 match P.info? t,P.underlying t with
 | some i,some (.struct _)=>some (true,i.size)
 | some i,some (.array _ _)=>some (true,i.size)
 | some i,some _=>if i.size=1 then some (false,1)else none
 | _,_=>none
def zdc (t:TypeId):Option (List V):=
 match P.info? t with
 | some i=>match i.zero with
   | some z=>cellsOf z
   | none=>none
 | none=>none
def ztK (t:TypeId):Option V:=do
 let i<- P.info? t
 let v<- i.zero
 zjz v
def zuK (isL:Nat->Bool):Operand->Bool
 | .tmp t=>isL t
 | _=>false
def zyU (isL:Nat->Bool):Option Nat->Bool
 | some d=>isL d
 | none=>false
def zdA (t:TypeId):Option Nat:=
 match P.underlying t with
 | some (.int _)=>some 0
 | some .bool=>some 1
 | some .string=>some 2
 | _=>none
def zbu (i:Nat):List Field->Option (List Nat)
 | []=>some []
 | f::fs=>do
   let k<- zdA P f.type
   let ks<- zbu (i+1) fs
   if f.name ≠ "_" /\ f.offset = i /\ typ P f.type = some (false, 1) then some (k :: ks) else none
def zdB (t:TypeId):Option (List Nat):=
 match P.underlying t with
 | some (.struct fields)=>if P.stoodInHeld t=false/\P.eqGuardType P.depth t=false then zbu P 0 fields.toList else none
 | _=>none
def zcR (i:Nat):List Field->Option (List Nat)
 | []=>some []
 | f::fs=>match zdA P f.type with
   | some k=>do
     let ks<- zcR (i+1) fs
     if f.name ≠ "_" /\ f.offset = i /\ typ P f.type = some (false, 1) then some (k :: ks) else none
   | none=>do
     let k1<- zdB P f.type
     let ks<- zcR (i+k1.length) fs
     if f.name ≠ "_" /\ f.offset = i /\ typ P f.type = some (true, k1.length) /\ 0 < k1.length then some (k1 ++ ks) else none
def zlo (t:TypeId):Option (List Nat):=
 match P.underlying t with
 | some (.struct fields)=>if P.stoodInHeld t=false/\P.eqGuardType P.depth t=false then zcR P 0 fields.toList else none
 | _=>none
def zfu (t:TypeId):Option Nat:=
 match zdA P t with
 | some k=>some k
 | none=>(zdB P t).map fun ks=>3+zjh ks
def zxP (k:Nat):Bool:=k==197||k==481
def zwR (t:TypeId):Bool:=
 match(P.info? t).bind (·.zero)with
 | some (.agg cs)=>match cs.toList with
   | [.pointer none,.slice none 0 0]=>true
   | _=>false
 | _=>false
def zHY (t:TypeId):Bool:=
 match P.underlying t with
 | some (.interface _)=>true
 | none=>true
 | _=>false
def zbq (isL:Nat->Bool) (dst:Option Nat):Op->Option AOp
 | .move x | .assign x=>(opd I x).map .mv
 | .pick c a b=>do
   let c<- opd I c
   let a<- opd I a
   let b<- opd I b
   some (.pick c a b)
 | .alloc t=>do
   let z<- zdc P t
   if I.tB=some t then if zyU isL dst=false/\zwR P t=true then some .allocB else none
   else if zyU isL dst then some (.allocL z)else if I.tys.any (·.2==t)then some (.allocA z)else some (.allocH z)
 | .box t x=>do
   let(_,n)<- typ P t
   let x<- opd I x
   if zyU isL dst then some (.boxL n x)else if I.tys.any (·.2==t)then some (.boxA n x)else some (.boxH n x)
 | .build t parts=>do
   let z<- zdc P t
   match P.underlying t with
   | some (.struct fields)=>do
     let ps<- parts.toList.mapM fun(i,x)=>do
      let f<- fields[i]?
      let(_,n)<- typ P f.type
      let x<- opd I x
      some (f.offset,n,x)
     if fields.toList.all (fun f=>(typ P f.type).isSome)then some (.build z ps)else none
   | some (.array _ e)=>do
     let(_,n)<- typ P e
     let ps<- parts.toList.mapM fun(i,x)=>do
      let x<- opd I x
      some (i*n,n,x)
     some (.build z ps)
   | _=>none
 | .buildSlice t len parts=>do
   match P.underlying t with
   | some (.slice e)=>do
     let(_,n)<- typ P e
     let z<- zdc P e
     let ps<- parts.toList.mapM fun(i,x)=>do
      let x<- opd I x
      some (i,x)
     if len*n<=2^24/\0<n/\z.length=n then some (if zyU isL dst then .lit n len z ps else .bslice n len z ps)else none
   | _=>none
 | .load t a=>do
   let(ag,n)<- typ P t
   let x<- opd I a
   if zuK isL a then some (.loadL ag n x)else some (.load ag n x)
 | .store t a v=>do
   let(_,n)<- typ P t
   let x<- opd I a
   let v<- opd I v
   if dst.isSome then none else if zuK isL a then some (.storeL n x v)else if(I.tys.any (·.2==t)&&n != 1)=true then some (.storeA n x v)else some (.store n x v)
 | .nilCheck x=>(opd I x).map .nilchk
 | .binOp op t x y _=>do
   let a<- opd I x
   let b<- opd I y
   match P.underlying t with
   | some (.int _)=>some (.bin op a b)
   | some .string=>some (.bin op a b)
   | some .bool=>match op with
     | .eql=>some (.eqb false a b)
     | .neq=>some (.eqb true a b)
     | _=>none
   | some (.struct _)=>do
     let n<- zlo P t
     match op with
     | .eql=>some (.eqa false n a b)
     | .neq=>some (.eqa true n a b)
     | _=>none
   | _=>none
 | .unOp op _ x=>(opd I x).map (.un op)
 | .convert src dst x=>do
   let a<- opd I x
   match P.underlying src,P.underlying dst with
   | some (.int _),some (.int k)=>some (.conv k a)
   | some (.slice e),some .string=>match P.underlying e with
     | some (.int .u8)=>some (.bstr a)
     | _=>none
   | _,_=>none
 | .makeFunc (.func f) first cap=>do
   let k<- I.fi f
   let a<- opds I first
   let b<- opds I cap
   match zxP k,a,b with
   | true,[],[x]=>some (.mkfnT k x)
   | _,_,_=>some (.mkfn k a b)
 | .makeSlice t l c=>do
   match P.underlying t with
   | some (.slice e)=>do
     let(_,n)<- typ P e
     let z<- zdc P e
     let i<- P.info? e
     let l<- opd I l
     let c<- opd I c
     if 0<n/\z.length=n then some (.mkslice n i.bytes z l c)else none
   | _=>none
 | .slice t x lo hi mx=>do
   let a<- opd I x
   let l<- znu I lo
   let h<- znu I hi
   let m<- znu I mx
   match P.underlying t with
   | some (.slice e)=>do
     let(_,n)<- typ P e
     some (.slice n a l h m)
   | some .string=>if m.isNone then some (.slstr a l h)else none
   | some (.array n e)=>do
     let(_,k)<- typ P e
     if m.isNone/\k=1/\I.tys.any (·.2==t)=true then some (.slicA n a l h)else none
   | _=>none
 | .fieldAddr t x f=>do
   let a<- opd I x
   match P.underlying t with
   | some (.struct fields)=>do
     let f<- fields[f]?
     let(_,n)<- typ P f.type
     if 0<n then if zuK isL x then some (.faddrL f.offset a)else some (.faddr f.offset a)
     else none
   | _=>none
 | .field t x f=>do
   let a<- opd I x
   match P.underlying t with
   | some (.struct fields)=>do
     let f<- fields[f]?
     let(ag,n)<- typ P f.type
     some (.field ag f.offset n a)
   | _=>none
 | .indexAddr t x i=>do
   let a<- opd I x
   let j<- opd I i
   match P.underlying t with
   | some (.slice e)=>do
     let(_,n)<- typ P e
     some (.iaddrS n a j)
   | some (.array len e)=>do
     let(_,n)<- typ P e
     if zuK isL x then some (.iaddrAL len n a j)else some (.iaddrA len n a j)
   | _=>none
 | .index t x i=>do
   let a<- opd I x
   let j<- opd I i
   match P.underlying t with
   | some (.array len e)=>do
     let(ag,n)<- typ P e
     some (.idxA ag len n a j)
   | some .string=>some (.idxS a j)
   | _=>none
 | .extract x i=>do
   let a<- opd I x
   some (.extr a i)
 | .makeMap t r=>do
   match P.underlying t,r with
   | some (.map _ _),none=>some .mkmap
   | some (.map _ _),some (.const (.int _ _))=>some .mkmap
   | _,_=>none
 | .lookup t x y ok=>do
   let a<- opd I x
   let b<- opd I y
   match P.underlying t with
   | some (.map kt et)=>do
     let kd<- zfu P kt
     let z<- ztK P et
     some (.lookup kd z ok a b)
   | _=>none
 | .mapUpdate t x y v=>do
   let a<- opd I x
   let b<- opd I y
   let u<- opd I v
   match P.underlying t with
   | some (.map kt _)=>do
     let kd<- zfu P kt
     if dst.isSome then none else some (.mapupd kd a b u)
   | _=>none
 | .insert t x y v=>do
   let a<- opd I x
   let b<- opd I y
   let u<- opd I v
   match P.underlying t with
   | some (.map kt _)=>do
     let kd<- zfu P kt
     if dst.isSome then none else some (.mapupd kd a b u)
   | _=>none
 | .call c=>do
   match c.callee with
   | .value _=>none
   | .builtin .len=>do
     match c.argTypes.toList,c.args.toList with
     | [t],[x]=>match P.underlying t with
       | some (.slice _)=>(opd I x).map .len
       | some .string=>(opd I x).map .slen
       | some (.array n _)=>some (.lenA n)
       | _=>none
     | _,_=>none
   | .builtin .append=>do
     match c.argTypes.toList,c.args.toList with
     | [t,u],[x,y]=>do
       let a<- opd I x
       let b<- opd I y
       match P.underlying t,P.underlying u with
       | some (.slice e),some (.slice _)=>do
         let(_,n)<- typ P e
         let i<- P.info? e
         let z<- zdc P e
         if 0<n/\z.length=n then some (.append n i.bytes a b)else none
       | some (.slice e),some (.int _)=>do
         let(_,n)<- typ P e
         let i<- P.info? e
         let z<- zdc P e
         if 0<n/\z.length=n then some (.appz n i.bytes z a b)else none
       | _,_=>none
     | _,_=>none
   | .builtin .copy=>do
     match c.argTypes.toList,c.args.toList with
     | [t,_],[x,y]=>do
       let a<- opd I x
       let b<- opd I y
       match P.underlying t with
       | some (.slice e)=>do
         let(_,n)<- typ P e
         if 0<n then some (.copy n a b)else none
       | _=>none
     | _,_=>none
   | .builtin .max=>do
     match c.argTypes.toList,c.args.toList with
     | [_,_],[x,y]=>do
       let a<- opd I x
       let b<- opd I y
       some (.mx false a b)
     | _,_=>none
   | .builtin .min=>do
     match c.argTypes.toList,c.args.toList with
     | [_,_],[x,y]=>do
       let a<- opd I x
       let b<- opd I y
       some (.mx true a b)
     | _,_=>none
   | .builtin .clear=>do
     match c.argTypes.toList,c.args.toList with
     | [t],[x]=>do
       let a<- opd I x
       match P.underlying t with
       | some (.slice e)=>do
         let(_,n)<- typ P e
         let z<- zdc P e
         if 0<n/\z.length=n then some (.clear n z a)else none
       | _=>none
     | _,_=>none
   | .builtin .cap=>do
     match c.argTypes.toList,c.args.toList with
     | [t],[x]=>match P.underlying t with
       | some (.slice _)=>(opd I x).map .capN
       | _=>none
     | _,_=>none
   | _=>none
 | .panic _=>some .stop
 | .makeInterface t x=>match I.tys.find? (·.2==t)with
   | some q=>if zHY P t then none else(opd I x).map (.mkif q.1)
   | none=>some .stop
 | .typeAssert x _ t ok=>do
   let q<- I.tys.find? (·.2==t)
   let z<- ztK P t
   let x<- opd I x
   if zHY P t then none else some (.tassert q.1 z ok x)
 | _=>none
end
end Rg
end
section
namespace Rg
open Go
theorem zcL (r o n:Nat):(⟨r,o,none⟩:Addr).add n=⟨r,o+n,none⟩:=by
 unfold Addr.add;split<;>simp_all
theorem zbl.t_inv {w:World} {A:Nat->Prop} {nm μ:Nat->Nat} {H:Nat->Option O} {v:Value} {x:T} (h:zbl w A nm μ H v (.t x)):RepT w A nm v x:=by
 cases(h:RepC w A nm μ H v (.t x));assumption
theorem zbl.int_inv {w:World} {A:Nat->Prop} {nm μ:Nat->Nat} {H:Nat->Option O} {v:Value} {k:IntKind} {n:Int} (h:zbl w A nm μ H v (.t (.int k n))):v= .int k n:=by
 cases h.t_inv;rfl
theorem zbl.bool_inv {w:World} {A:Nat->Prop} {nm μ:Nat->Nat} {H:Nat->Option O} {v:Value} {b:Bool} (h:zbl w A nm μ H v (.t (.bool b))):v= .bool b:=by
 cases h.t_inv;rfl
theorem zbl.str_inv {w:World} {A:Nat->Prop} {nm μ:Nat->Nat} {H:Nat->Option O} {v:Value} {b:ByteArray} (h:zbl w A nm μ H v (.t (.str b))):v= .string b:=by
 cases h.t_inv;rfl
theorem zeS {w:World} {A:Nat->Prop} {nm μ:Nat->Nat} {H:Nat->Option O} {v:Value} {x:V} (h:znk v=some x):RepC w A nm μ H v x:=by
 unfold znk at h
 split at h<;>first
  | (simp at h;done)
  | (simp only[zA]at h;subst h;exact .t (by constructor))
theorem zbb {α β:Type} {f:α->Option β}: ∀{l:List α} {r:List β},l.mapM f=some r->l.length=r.length/\ ∀(i:Nat) (y:β),r[i]? =some y-> ∃x,l[i]? =some x/\f x=some y
 | [],r,h=>by simp at h;subst h;simp
 | x::l,r,h=>by
   simp only[List.mapM_cons,zC,zB,Option.pure_def,zA]at h;obtain⟨y,hy,ys,FN,rfl⟩:=h;obtain⟨h1,h2⟩:=zbb FN;refine⟨by simp[h1],fun i z hz=> ?_⟩
   cases i with
   | zero=>simp at hz;subst hz;exact⟨x,rfl,hy⟩
   | succ i=>simp at hz;simpa using h2 i z hz
theorem zbT {w:World} {A:Nat->Prop} {nm μ:Nat->Nat} {H:Nat->Option O} {v:Value} {cs:List V} (h:cellsOf v=some cs):
 zfk w A nm μ H v.cells.toList cs:=by
 obtain⟨h1,h2⟩:=zbb h;exact⟨h1,fun i c hi=>let⟨x,hx,hf⟩:=h2 i c hi;⟨x,hx,zeS hf⟩⟩
theorem zor {w:World} {A:Nat->Prop} {nm μ:Nat->Nat} {H:Nat->Option O} {v:Value} {x:V} (h:zjz v=some x):zbl w A nm μ H v x:=by
 unfold zjz at h;split at h
 ·simp only[zE]at h;obtain⟨cs,AL,rfl⟩:=h;obtain⟨h1,h2⟩:=zbb AL;exact⟨_,rfl,h1,fun i c hi=>let⟨x,hx,hf⟩:=h2 i c hi;⟨x,hx,zeS hf⟩⟩
 ·exact(zeS h).toV
section
variable {P:Program} {N:Nam} {I:Inv} {c:Ctx} {ns:Nat} {A:Nat->Prop} {μ lam:Nat->Nat} {s:St} {a:Act} {w:World}
theorem zat (hI:I.Ok N) (R:Rel N c ns A μ lam s a w) {x:Operand} {y:Opd} {v:V} (hx:opd I x=some y) (hv:evl N.G s y=some v):
 zbl w A N.nm μ s.heap (a.eval x) v:=by
 cases x with
 | tmp t=>
   simp only[opd,zA]at hx;subst hx;have he:=R.env t;simp only[evl]at hv;split at hv<;>first | (simp at hv;done) | skip
   simp only[zA]at hv;subst hv
   exact he
 | const v0=>
   simp only[opd,zE]at hx;obtain⟨x0,h0,rfl⟩:=hx;simp only[evl,zA]at hv;subst hv
   exact zor h0
 | global g=>
   simp only[opd,zE]at hx;obtain⟨k,h0,rfl⟩:=hx;simp only[evl,zA]at hv;subst hv;obtain⟨rfl,Az,Bv⟩:=hI.g g k h0;rw[<- Bv]at Az⊢
   have hA:A (N.gm k):=by
    cases hG:N.GL k with
    | nil=>exact absurd hG Az
    | cons x l=>exact(R.glob k 0 x (by simp[hG])).1
   show RepC w A N.nm μ s.heap _ _;refine .t (.ip (N.gm k) 0 (N.GL k) (fun j=>(w.cell? ⟨N.gm k,0+j,none⟩).getD undef) hA ?_ ?_)
   ·intro j x hj;obtain⟨_,_,v,hv,_⟩:=R.glob k j x hj;simp[hv]
   ·intro j x hj;obtain⟨_,_,v,hv,hr⟩:=R.glob k j x hj
    simpa[hv]using hr
 | func f=>
   simp only[opd,zE]at hx;obtain⟨k,h0,rfl⟩:=hx;simp only[evl,zA]at hv;subst hv;have:=hI.f f k h0;subst this;show RepC w A N.nm μ s.heap _ _;exact .t (.fn k [] [] #[] #[] (fun _=>undef) (fun _=>undef) rfl rfl (by simp) (by simp) (by simp) (by simp))
theorem zio (R:Rel N c ns A μ lam s a w) {x:Operand} {y:Opd} {b o:Nat} {cs:List V} (hx:opd I x=some y) (hr:zd8 s y=some (b,o)) (hb:s.loc b=some cs):
 a.eval x= .pointer (some ⟨lam b,o,none⟩):=by
 cases x with
 | tmp t=>
   simp only[opd,zA]at hx;subst hx;simp only[zd8]at hr;split at hr
   ·rename_i r It;simp only[zA]at hr;subst hr;exact(R.adr t b o It).2.2
   ·split at hr<;>first | (simp at hr;done) | skip
    simp only[zA,Prod.mk.injEq]at hr;obtain⟨rfl,rfl⟩:=hr
    exact(R.loc t cs hb).1
 | const v0=>
   simp only[opd,zE]at hx;obtain⟨_,_,rfl⟩:=hx
   simp[zd8]at hr
 | global g=>
   simp only[opd,zE]at hx;obtain⟨_,_,rfl⟩:=hx
   simp[zd8]at hr
 | func f=>
   simp only[opd,zE]at hx;obtain⟨_,_,rfl⟩:=hx;simp[zd8]at hr
theorem zc4 (hI:I.Ok N) (R:Rel N c ns A μ lam s a w) {x:Operand} {y:Opd} {n:Int} (hx:opd I x=some y) (hv:zex N.G s y=some n):
 ∃k,a.eval x= .int k n:=by
 unfold zex at hv;split at hv<;>first | (simp at hv;done) | skip
 rename_i k m he;simp only[zA]at hv;subst hv;exact⟨_,(zat hI R hx he).int_inv⟩
theorem zhc (hI:I.Ok N) (R:Rel N c ns A μ lam s a w) {x:Operand} {y:Opd} {b:Bool} (hx:opd I x=some y) (hv:zd5 N.G s y=some b):
 a.eval x= .bool b:=by
 unfold zd5 at hv;split at hv<;>first | (simp at hv;done) | skip
 rename_i m he;simp only[zA]at hv;subst hv;exact(zat hI R hx he).bool_inv
end
theorem zgP {P:Program} {w:World} {t:TypeId} {i:TypeInfo} (h:P.info? t=some i):(typeInfo t).run P w= .ok i w:=by
 simp[typeInfo,h]
theorem zaO {P:Program} {w:World} {t:TypeId} {i:TypeInfo} (h:P.info? t=some i):(Go.sizeOf t).run P w= .ok i.size w:=by
 simp[Go.sizeOf,zgP h]
theorem zau {P:Program} {w:World} {t:TypeId} {d:TypeDesc} (h:P.underlying t=some d):(underlying t).run P w= .ok d w:=by
 simp[underlying,h]
theorem zbr {P:Program} {t:TypeId} {ag:Bool} {n:Nat} (h:typ P t=some (ag,n)):
 ∃i,P.info? t=some i/\i.size=n/\(ag=false->n=1)/\ ∀w,(isAgg t).run P w= .ok ag w:=by
 unfold typ at h;split at h
 ·rename_i i fs h1 h2;simp only[zA,Prod.mk.injEq]at h;obtain⟨rfl,rfl⟩:=h;exact⟨i,h1,rfl,by simp,fun w=>by simp[isAgg,zau h2]⟩
 ·rename_i i l e h1 h2;simp only[zA,Prod.mk.injEq]at h;obtain⟨rfl,rfl⟩:=h;exact⟨i,h1,rfl,by simp,fun w=>by simp[isAgg,zau h2]⟩
 ·rename_i i d h2 h3 h1 h4;split at h
  ·rename_i hs;simp only[zA,Prod.mk.injEq]at h;obtain⟨rfl,rfl⟩:=h;refine⟨i,h1,hs,by simp,fun w=> ?_⟩;simp only[isAgg,Sem.run_bind,zau h4,Result.andThen_ok];cases d<;>simp_all
  ·simp at h
 ·simp at h
def zgJ (ag:Bool) (vs:List Value):Value:=if ag then .agg vs.toArray else vs.headD undef
theorem zdZ {P:Program} {w:World} {t:TypeId} {ag:Bool} {n:Nat} (h:typ P t=some (ag,n)) (r off:Nat) (vs:List Value) (hl:vs.length=n)
 (hv: ∀(j:Nat) (v:Value),vs[j]? =some v->w.cell? ⟨r,off+j,none⟩=some v):(loadVar t ⟨r,off,none⟩).run P w= .ok (zgJ ag vs) w:=by
 obtain⟨i,h1,rfl,h3,h4⟩:=zbr h
 cases ag with
 | true=>
   have Ee:=run_loadCells_list (P:=P) (w:=w) ⟨r,off,none⟩ vs (fun j v hj=>by rw[zcL];exact hv j v hj);rw[hl]at Ee
   simp[loadVar,h4 w,zaO h1,Ee,zgJ]
 | false=>
   have hn:vs.length=1:=by rw[hl,h3 rfl]
   match vs,hn with
   | [v],_=>
     have:=hv 0 v rfl;simp only[Nat.add_zero]at this;simp[loadVar,h4 w,this,zgJ]
section
variable {w:World} {A:Nat->Prop} {nm μ:Nat->Nat} {H:Nat->Option O}
theorem zfk.rd {vs:List Value} {cs r:List V} {off n:Nat} (h:zfk w A nm μ H vs cs) (hr:rd cs off n=some r):
 zfk w A nm μ H ((vs.drop off).take n) r/\off+n<=vs.length/\r.length=n:=by
 unfold Rg.rd at hr;split at hr
 ·rename_i A5;simp only[zA]at hr;subst hr;refine⟨⟨by simp[h.1],fun i c hi=> ?_⟩,by rw[h.1];exact A5,by simp;omega⟩;simp only[zO,List.getElem?_drop]at hi⊢;split at hi
  ·rename_i Aj;obtain⟨v,hv,Ae⟩:=h.2 _ c hi;exact⟨v,by simp[Aj,hv],Ae⟩
  ·simp at hi
 ·simp at hr
theorem zfk.wrap1 {vs:List Value} {r:List V} {ag:Bool} {v:V} (h:zfk w A nm μ H vs r) (hw:zb9 ag r=some v):zcl w A nm μ H (zgJ ag vs) v:=by
 cases ag with
 | true=>
   simp only[zb9,if_true,zA]at hw;subst hw
   exact⟨_,rfl,by simpa using h⟩
 | false=>
   simp only[zb9,zG,if_false]at hw;split at hw
   ·simp only[zA]at hw;subst hw;rename_i x;obtain⟨u,hu,hr⟩:=h.2 0 x rfl
    match vs,h.1,hu with
    | [u'],_,hu=>simp at hu;subst hu;simpa[zgJ]using hr.toV1
   ·simp at hw
theorem zfk.wrap {vs:List Value} {r:List V} {ag:Bool} {v:V} (h:zfk w A nm μ H vs r) (hw:zb9 ag r=some v):zbl w A nm μ H (zgJ ag vs) v:=(h.wrap1 hw).toV
end
end Rg
end
section
namespace Rg
open Go
def Plain (e:Eff):Prop:=e.adr=none/\e.loc=none/\e.wloc=none/\e.hp=[]
def zdb (N:Nam) (A:Nat->Prop) (μ:Nat->Nat) (s:St) (w:World) (r:Result Value) (e:Eff):Prop:=
 ∃v,r= .ok v w/\zbl w A N.nm μ s.heap v e.val/\Plain e
section
variable {P:Program} {N:Nam} {I:Inv} {c:Ctx} {ns p:Nat} {A:Nat->Prop} {μ lam:Nat->Nat} {s:St} {a:Act} {w:World} {e:Eff}
theorem zbl.ip_inv {w:World} {A:Nat->Prop} {nm μ:Nat->Nat} {H:Nat->Option O} {v:Value} {cs:List T} (h:zbl w A nm μ H v (.t (.ip cs))):
 ∃(r off:Nat) (vf:Nat->Value),v= .pointer (some ⟨r,off,none⟩)/\A r/\(∀(j:Nat) (x:T),cs[j]? =some x->w.cell? ⟨r,off+j,none⟩=some (vf j))/\(∀(j:Nat) (x:T),cs[j]? =some x->RepT w A nm (vf j) x):=by
 cases h.t_inv with
 | ip r off _ vf hA hv hr=>exact⟨r,off,vf,rfl,hA,hv,hr⟩
theorem zbl.mp_inv {w:World} {A:Nat->Prop} {nm μ:Nat->Nat} {H:Nat->Option O} {v:Value} {k i off sz:Nat} {rs:List (List V)} {frz:Bool}
 (h:zbl w A nm μ H v (.mp k i off)) (hk:H k=some (.rows sz rs frz)):v= .pointer (some ⟨μ k,i*sz+off,none⟩)/\i<rs.length:=by
 cases(h:RepC w A nm μ H v (.mp k i off))with
 | mp _ _ _ sz' rs' frz' Ah hi=>rw[hk]at Ah;cases Ah;exact⟨rfl,hi⟩
 | mb _ _ Ah=>rw[hk]at Ah;cases Ah
 | dmp _ _ _ Ah=>rw[hk]at Ah;cases Ah
theorem zbl.agg_inv {w:World} {A:Nat->Prop} {nm μ:Nat->Nat} {H:Nat->Option O} {v:Value} {cs:List V} (h:zbl w A nm μ H v (.agg cs)):
 ∃vs,v= .agg vs/\zfk w A nm μ H vs.toList cs:=h
theorem zmt (R:Rel N c ns A μ lam s a w) {k sz i:Nat} {rs:List (List V)} {frz:Bool} {row:List V} (hk:s.heap k=some (.rows sz rs frz)) (Ap:rs[i]? =some row):
 ∃vs:List Value,zfk w A N.nm μ s.heap vs row/\ ∀(j:Nat) (v:Value),vs[j]? =some v->w.cell? ⟨μ k,i*sz+j,none⟩=some v:=by
 obtain⟨cc,e0,z,h1,h2,h3,h4,h5⟩:=R.heap k _ hk;have hi:i<rs.length:=(zH.1 Ap).1;have Bb:=h4 i row Ap
 have A5:i*sz+sz<=cc.size:=by
  have:(i+1)*sz<=rs.length*sz:=Nat.mul_le_mul_right _ hi;rw[Nat.succ_mul]at this;omega
 refine⟨(cc.toList.drop (i*sz)).take sz,⟨by simp;omega,fun j x hj=> ?_⟩,fun j v hj=> ?_⟩
 ·have AN:j<row.length:=(zH.1 hj).1;obtain⟨v,hv,hr⟩:=h5 i row j x Ap hj;refine⟨v,?_,hr⟩;simp only[zO,List.getElem?_drop,Array.getElem?_toList];rw[if_pos (by omega)];exact hv
 ·simp only[zO,List.getElem?_drop,Array.getElem?_toList]at hj;split at hj
  ·simp[World.cell?,h1,hj]
  ·simp at hj
theorem zCu (hI:I.Ok N) (R:Rel N c ns A μ lam s a w) {x:Operand} {y:Opd} (hx:opd I x=some y) (he:zaj N.G p s (.mv y)=some e):
 zbl w A N.nm μ s.heap (a.eval x) e.val/\Plain e:=by
 simp only[zaj,zC,zB,zA]at he;obtain⟨v,hv,rfl⟩:=he;exact⟨zat hI R hx hv,rfl,rfl,rfl,rfl⟩
theorem zxW (hI:I.Ok N) (R:Rel N c ns A μ lam s a w) {xc xa xb:Operand} {yc ya yb:Opd} (hc:opd I xc=some yc) (ha:opd I xa=some ya) (hb:opd I xb=some yb)
 (he:zaj N.G p s (.pick yc ya yb)=some e): ∃t,a.eval xc= .bool t/\zbl w A N.nm μ s.heap (if t then a.eval xa else a.eval xb) e.val/\Plain e:=by
 simp only[zaj,zC,zB,zA]at he;obtain⟨t,ht,v,hv,rfl⟩:=he;refine⟨t,zhc hI R hc ht,?_,rfl,rfl,rfl,rfl⟩;cases t
 ·exact zat hI R hb hv
 ·exact zat hI R ha hv
theorem zwj (R:Rel N c ns A μ lam s a w) {x:Operand} {y:Opd} {t:TypeId} {ag:Bool} {n:Nat} (hx:opd I x=some y) (ht:typ P t=some (ag,n))
 (he:zaj N.G p s (.loadL ag n y)=some e):zdb N A μ s w ((Instr.loadAt t (a.eval x)).run P w) e:=by
 simp only[zaj,zC,zB,zA,Prod.exists]at he;obtain⟨b,o,hr,cs,hb,r,BK,v,hw,rfl⟩:=he;obtain⟨_,cc,e0,h1,h2⟩:=R.loc b cs hb;obtain⟨h3,h4,h5⟩:=h2.rd BK;refine⟨zgJ ag ((cc.toList.drop o).take n),?_,h3.wrap hw,rfl,rfl,rfl,rfl⟩
 have hl:=zdZ (w:=w) ht (lam b) o ((cc.toList.drop o).take n) (by simp at h4⊢;omega) (fun j v hj=>by
  simp only[zO,List.getElem?_drop,Array.getElem?_toList]at hj;split at hj
  ·simp[World.cell?,h1,hj]
  ·simp at hj)
 simp[Instr.loadAt,zio R hx hr hb,Instr.sureAddr,hl]
theorem zxX (hI:I.Ok N) (R:Rel N c ns A μ lam s a w) {x:Operand} {y:Opd} {t:TypeId} {ag:Bool} {n:Nat} (hx:opd I x=some y) (ht:typ P t=some (ag,n))
 (he:zaj N.G p s (.load ag n y)=some e):zdb N A μ s w ((Instr.loadAt t (a.eval x)).run P w) e:=by
 simp only[zaj,zC,zB]at he;obtain⟨u,hu,he⟩:=he;have Ae:=zat hI R hx hu;split at he
 ·rename_i k i off;split at he
  ·rename_i sz rs frz hk;simp only[zB,zA]at he;obtain⟨row,Ap,r,BK,v,hw,rfl⟩:=he;obtain⟨hv,_⟩:=zbl.mp_inv Ae hk;obtain⟨vs,h1,h2⟩:=zmt R hk Ap;obtain⟨h3,h4,h5⟩:=h1.rd BK;refine⟨zgJ ag ((vs.drop off).take n),?_,h3.wrap hw,rfl,rfl,rfl,rfl⟩
   have hl:=zdZ (w:=w) ht (μ k) (i*sz+off) ((vs.drop off).take n) (by simp;omega) (fun j v hj=>by
    simp only[zO,List.getElem?_drop]at hj;split at hj
    ·rw[Nat.add_assoc];exact h2 _ v hj
    ·simp at hj)
   simp[Instr.loadAt,hv,Instr.sureAddr,hl]
  ·simp at he
 ·rename_i cs;simp only[zB,zA]at he;obtain⟨r,BK,v,hw,rfl⟩:=he;obtain⟨r0,off,vf,hv,hA,h1,h2⟩:=zbl.ip_inv Ae
  have h3:zfk w A N.nm μ s.heap ((List.range cs.length).map vf) (cs.map V.t):=by
   refine⟨by simp,fun j x hj=> ?_⟩;simp only[zJ,zE]at hj;obtain⟨y,hy,rfl⟩:=hj;have AN:j<cs.length:=(zH.1 hy).1;exact⟨vf j,by simp[AN],.t (h2 j y hy)⟩
  have Nl:rd (cs.map V.t) 0 n=some (r.map V.t):=by
   unfold rd at BK⊢;split at BK
   ·rename_i A5;simp only[zA]at BK;subst BK;rw[if_pos (by simpa using A5)];simp
   ·simp at BK
  obtain⟨h4,h5,h6⟩:=h3.rd Nl;refine⟨zgJ ag ((((List.range cs.length).map vf).drop 0).take n),?_,h4.wrap hw,rfl,rfl,rfl,rfl⟩
  have hl:=zdZ (w:=w) ht r0 off ((((List.range cs.length).map vf).drop 0).take n) (by simp at h5⊢;omega) (fun j v hj=>by
   simp only[List.drop_zero,zO]at hj;split at hj
   ·rename_i Kq;simp only[zJ,zE]at hj;obtain⟨j',Dp,rfl⟩:=hj
    have:j<cs.length:=by
     have:=(zH.1 Dp).1;simpa using this
    simp only[List.getElem?_range this,zA]at Dp;subst Dp;exact h1 j _ (zI this)
   ·simp at hj)
  simp only[Instr.loadAt,hv,Instr.sureAddr,Sem.run_bind,Sem.run_pure,Result.andThen_ok,hl]
 ·simp at he
end
end Rg
end
section
namespace Rg
open Go
theorem zwn {P:Program} {w:World} {A:Nat->Prop} {nm:Nat->Nat} {op:BinOp} {x y r:T} {v u:Value} (h:zvs op x y=some r) (hx:RepT w A nm v x) (hy:RepT w A nm u y)
 (t:TypeId) (xo yo:Operand): ∃z,(do eqGuard op t xo yo v u;binOp op t v u:Sem Value).run P w= .ok z w/\RepT w A nm z r:=by
 cases hx<;>(try(simp[zvs]at h;done))<;>cases hy<;>(try(simp[zvs]at h;done))
 ·rename_i k m k' n;simp only[zvs]at h;cases op<;>simp only at h
  case shl=>
   split at h
   ·simp at h
   ·rename_i hn;simp only[zA]at h;subst h;exact⟨_,by simp[eqGuard,binOp,Op.shift,hn],.int _ _⟩
  case shr=>
   split at h
   ·simp at h
   ·rename_i hn;simp only[zA]at h;subst h;exact⟨_,by simp[eqGuard,binOp,Op.shift,hn],.int _ _⟩
  case quo=>
   split at h
   ·rename_i hk;subst hk;split at h
    ·simp at h
    ·rename_i hn;simp only[zA]at h;subst h;exact⟨_,by simp[eqGuard,binOp,Op.intDiv,hn],.int _ _⟩
   ·simp at h
  case rem=>
   split at h
   ·rename_i hk;subst hk;split at h
    ·simp at h
    ·rename_i hn;simp only[zA]at h;subst h;exact⟨_,by simp[eqGuard,binOp,Op.intDiv,hn],.int _ _⟩
   ·simp at h
  case add | sub | mul=>
   split at h
   ·rename_i hk;subst hk;simp only[zA]at h;subst h;exact⟨_,by simp[eqGuard,binOp,Op.intArith],.int _ _⟩
   ·simp at h
  case and | or | xor | andNot=>
   split at h
   ·rename_i hk;subst hk;simp only[zA]at h;subst h;refine⟨_,?_,.int _ _⟩;simp only[eqGuard,binOp,Op.intBits];simp
   ·simp at h
  all_goals
   split at h
   ·rename_i hk;subst hk;simp only[zA]at h;subst h;exact⟨_,by simp[eqGuard,binOp,Op.intCmp],.bool _⟩
   ·simp at h
 ·rename_i b c;simp only[zvs]at h;cases op<;>simp only at h<;>(try(simp at h;done))
  case add=>
   split at h
   ·rename_i A5;simp only[zA]at h;subst h;refine⟨_,?_,.str _⟩
    have : ¬((b.size+c.size:Nat):Int)>IntKind.i64.max:=by
     have:IntKind.i64.max=9223372036854775807:=by decide
     omega
    simp only[eqGuard,binOp,Op.stringOp];simp;omega
   ·simp at h
  all_goals
   simp only[zA]at h;subst h;exact⟨_,by simp[eqGuard,binOp,Op.stringOp],.bool _⟩
section
variable {P:Program} {N:Nam} {I:Inv} {c:Ctx} {ns p:Nat} {A:Nat->Prop} {μ lam:Nat->Nat} {s:St} {a:Act} {w:World} {e:Eff}
theorem zx9 (hI:I.Ok N) (R:Rel N c ns A μ lam s a w) {x y:Operand} {x' y':Opd} {op:BinOp} (hx:opd I x=some x') (hy:opd I y=some y')
 (he:zaj N.G p s (.bin op x' y')=some e) (t:TypeId):
 zdb N A μ s w ((do eqGuard op t x y (a.eval x) (a.eval y);binOp op t (a.eval x) (a.eval y):Sem Value).run P w) e:=by
 simp only[zaj,zC,zB]at he;obtain⟨u,hu,v,hv,he⟩:=he;split at he
 ·rename_i b d;simp only[zB,zA]at he;obtain⟨r,hr,rfl⟩:=he;obtain⟨z,hz,Ae⟩:=zwn (P:=P) hr (zat hI R hx hu).t_inv (zat hI R hy hv).t_inv t x y;exact⟨z,hz,(RepC.t Ae).toV,rfl,rfl,rfl,rfl⟩
 ·simp at he
theorem zCt (hI:I.Ok N) (R:Rel N c ns A μ lam s a w) {x y:Operand} {x' y':Opd} {mn:Bool} (hx:opd I x=some x') (hy:opd I y=some y')
 (he:zaj N.G p s (.mx mn x' y')=some e) (ts:Array TypeId) (t:TypeId):
 zdb N A μ s w ((if mn then Builtin.min_ ts t #[a.eval x,a.eval y]else Builtin.max_ ts t #[a.eval x,a.eval y]:Sem Value).run P w) e:=by
 simp only[zaj,zC,zB]at he;obtain⟨u,hu,v,hv,he⟩:=he;split at he
 ·rename_i b d;simp only[zB,zA]at he;obtain⟨r,hr,rfl⟩:=he;have h1:=(zat hI R hx hu).t_inv;have h2:=(zat hI R hy hv).t_inv;unfold mxT at hr;split at hr
  ·rename_i k m k' m';split at hr
   ·rename_i hk;subst hk;simp only[zA]at hr;subst hr
    generalize a.eval x=vx at h1
    generalize a.eval y=vy at h2
    cases h1;cases h2;cases mn
    ·exact⟨_,by simp[Builtin.max_,Builtin.max2],(RepC.t (.int _ _)).toV,rfl,rfl,rfl,rfl⟩
    ·exact⟨_,by simp[Builtin.min_,Builtin.min2],(RepC.t (.int _ _)).toV,rfl,rfl,rfl,rfl⟩
   ·simp at hr
  ·simp at hr
 ·simp at he
theorem zx2 (hI:I.Ok N) (R:Rel N c ns A μ lam s a w) {x y:Operand} {x' y':Opd} {op:BinOp} {neg:Bool} (hx:opd I x=some x') (hy:opd I y=some y')
 (he:zaj N.G p s (.eqb neg x' y')=some e) {t:TypeId} (ht:P.underlying t=some .bool) (Ao:op=if neg then .neq else .eql):
 zdb N A μ s w ((do eqGuard op t x y (a.eval x) (a.eval y);binOp op t (a.eval x) (a.eval y):Sem Value).run P w) e:=by
 simp only[zaj,zC,zB,zA]at he;obtain⟨b,hb,d,hd,rfl⟩:=he;rw[zhc hI R hx hb,zhc hI R hy hd];subst Ao;refine⟨.bool ((b==d) != neg),?_,(RepC.t (.bool _)).toV,rfl,rfl,rfl,rfl⟩;have h1: ∀n,(Op.equalIn (n+1) t (.bool b) (.bool d)).run P w= .ok (b==d) w:=fun n=>by simp[Op.equalIn,zau ht]
 have h2:(Op.equal t (.bool b) (.bool d)).run P w= .ok (b==d) w:=h1 9999;cases neg<;>simp[eqGuard,binOp,h2]
theorem zhM {fs:List Field} {xs ys:Array Value} {as bs:List V} {i:Nat} {ks:List Nat} {r:Bool} {μ:Nat->Nat} {H:Nat->Option O} {nm:Nat->Nat} (d:Nat)
 (hf:zbu P i fs=some ks) (hx:zfk w A nm μ H xs.toList as) (hy:zfk w A nm μ H ys.toList bs)
 (he:zbh ks (as.drop i) (bs.drop i)=some r):(Op.eqFields (d+1) xs ys fs).run P w= .ok r w:=by
 induction fs generalizing i r ks with
 | nil=>
   simp only[zbu,zA]at hf;subst hf;unfold zbh at he
   split at he<;>simp_all [Op.eqFields]
 | cons f fs ih=>
   simp only[zbu,zC,zB]at hf;obtain⟨k,hk,ks',Dn,hf⟩:=hf;split at hf
   ·rename_i hc;obtain⟨hn,ho,DV⟩:=hc;simp only[zA]at hf;subst hf;unfold zbh at he;split at he
    ·simp_all
    ·rename_i n ns xa xs' ya ys' e1 e2 e3;cases e1;simp only[zC,zB,zA]at he;obtain⟨q,hq,q',Eu,rfl⟩:=he;have ea:as[i]? =some xa:=by have:=congrArg (·[0]?) e2;simpa using this
     have eb:bs[i]? =some ya:=by have:=congrArg (·[0]?) e3;simpa using this
     have ea':as.drop (i+1)=xs':=by have:=congrArg List.tail e2;simpa using this
     have eb':bs.drop (i+1)=ys':=by have:=congrArg List.tail e3;simpa using this
     obtain⟨v,hv,E5⟩:=hx.2 i _ ea;obtain⟨u,hu,DU⟩:=hy.2 i _ eb;obtain⟨inf,g1,g2,g3,g4⟩:=zbr DV;have ih':=ih Dn (by rw[ea',eb'];exact Eu)
     have Jh:(part f.type xs f.offset).run P w= .ok v w:=by
      simp only[Array.getElem?_toList]at hv;simp[part,g4 w,ho,hv]
     have KO:(part f.type ys f.offset).run P w= .ok u w:=by
      simp only[Array.getElem?_toList]at hu;simp[part,g4 w,ho,hu]
     have Fq:(Op.equalIn (d+1) f.type v u).run P w= .ok q w:=by
      unfold zg6 at hq;split at hq
      ·split at hq
       ·rename_i AB;obtain⟨rfl,rfl⟩:=AB;simp only[zA]at hq;subst hq;cases E5.toV.int_inv;cases DU.toV.int_inv;unfold zdA at hk;split at hk<;>simp at hk
        rename_i A4;simp[Op.equalIn,zau A4]
       ·simp at hq
      ·split at hq
       ·rename_i AB;subst AB;simp only[zA]at hq;subst hq;cases E5.toV.bool_inv;cases DU.toV.bool_inv;unfold zdA at hk;split at hk<;>simp at hk
        rename_i A4;simp[Op.equalIn,zau A4]
       ·simp at hq
      ·split at hq
       ·rename_i AB;subst AB;simp only[zA]at hq;subst hq;cases E5.toV.str_inv;cases DU.toV.str_inv;unfold zdA at hk;split at hk<;>simp at hk
        rename_i A4;simp[Op.equalIn,zau A4,beq_toListBytes]
       ·simp at hq
      ·simp at hq
     simp only[Op.eqFields,ne_eq,hn,not_false_eq_true,if_true,Sem.run_bind,Jh,KO,Result.andThen_ok,Fq];cases q
     ·simp
     ·simpa using ih'
    ·simp at he
   ·simp at hf
end
end Rg
end
section
namespace Rg
open Go
section
variable {P:Program} {N:Nam} {I:Inv} {c:Ctx} {ns p:Nat} {A:Nat->Prop} {μ lam:Nat->Nat} {s:St} {a:Act} {w:World} {e:Eff}
theorem zC2 (hI:I.Ok N) (R:Rel N c ns A μ lam s a w) {x:Operand} {x':Opd} {op:UnOp} (hx:opd I x=some x') (he:zaj N.G p s (.un op x')=some e):
 zdb N A μ s w ((Op.unary op (a.eval x)).run P w) e:=by
 simp only[zaj,zC,zB]at he;obtain⟨u,hu,he⟩:=he;split at he
 ·rename_i b;simp only[zB,zA]at he;obtain⟨r,hr,rfl⟩:=he;have Ae:=(zat hI R hx hu).t_inv
  generalize a.eval x=v at Ae
  unfold unT at hr;split at hr<;>simp only[zA,reduceCtorEq]at hr<;>subst hr<;>cases Ae
  ·exact⟨_,by simp[Op.unary,Op.intArith],(RepC.t (.int _ _)).toV,rfl,rfl,rfl,rfl⟩
  ·refine⟨_,?_,(RepC.t (.int _ _)).toV,rfl,rfl,rfl,rfl⟩;simp only[Op.unary,Op.intBits];simp
  ·exact⟨_,by simp[Op.unary],(RepC.t (.bool _)).toV,rfl,rfl,rfl,rfl⟩
 ·simp at he
theorem zx4 (hI:I.Ok N) (R:Rel N c ns A μ lam s a w) {x:Operand} {x':Opd} {k k0:IntKind} {src dst:TypeId} (hx:opd I x=some x')
 (he:zaj N.G p s (.conv k x')=some e) (h1:P.underlying src=some (.int k0)) (h2:P.underlying dst=some (.int k)):
 zdb N A μ s w ((convert src dst (a.eval x)).run P w) e:=by
 simp only[zaj,zC,zB,zA]at he;obtain⟨n,hn,rfl⟩:=he;obtain⟨j,hj⟩:=zc4 hI R hx hn;exact⟨_,by simp[convert,zau h1,zau h2,hj,Conv.intToInt],(RepC.t (.int _ _)).toV,rfl,rfl,rfl,rfl⟩
theorem zt1 (hI:I.Ok N) (R:Rel N c ns A μ lam s a w) {x:Operand} {x':Opd} (hx:opd I x=some x') (he:zaj N.G p s (.nilchk x')=some e) (o:Oper) (ho:o.op= .nilCheck x):
 ∃v,(execOp a.eval o).run P w= .ok (.value v) w/\zbl w A N.nm μ s.heap v e.val/\Plain e:=by
 simp only[zaj,zC,zB]at he;obtain⟨u,hu,he⟩:=he;have Ae:=zat hI R hx hu
 have k1: ∀ad,a.eval x= .pointer (some ad)->(execOp a.eval o).run P w= .ok (.value (a.eval x)) w:=by
  intro ad h;simp[execOp,ho,h]
 have k2: ∀f b d,a.eval x= .func (.func f) b d->(execOp a.eval o).run P w= .ok (.value (a.eval x)) w:=by
  intro f b d h;simp[execOp,ho,h]
 split at he
 ·rename_i k i off;split at he<;>simp only[zA,reduceCtorEq]at he
  rename_i hk;subst he;obtain⟨hv,_⟩:=Ae.mp_inv hk;exact⟨_,k1 _ hv,Ae,rfl,rfl,rfl,rfl⟩
 ·simp only[zA]at he;subst he;obtain⟨r,off,vf,hv,_⟩:=zbl.ip_inv Ae;exact⟨_,k1 _ hv,Ae,rfl,rfl,rfl,rfl⟩
 ·simp only[zA]at he;subst he;refine⟨_,?_,Ae,rfl,rfl,rfl,rfl⟩
  generalize hv:a.eval x=v at Ae
  cases(Ae:RepC w A N.nm μ s.heap v _)with
  | fn f _ _ va vb=>rw[<- hv];exact k2 _ _ _ hv
 ·simp only[zA]at he;subst he;refine⟨_,?_,Ae,rfl,rfl,rfl,rfl⟩
  generalize hv:a.eval x=v at Ae
  cases Ae.t_inv with
  | fn f _ _ va vb=>rw[<- hv];exact k2 _ _ _ hv
 ·simp only[zA]at he;subst he;refine⟨_,?_,Ae,rfl,rfl,rfl,rfl⟩
  generalize hv:a.eval x=v at Ae
  cases Ae.t_inv with
  | fa f c vc=>rw[<- hv];exact k2 _ _ _ hv
 ·simp at he
theorem zgu {t:TypeId} {fields:Array Field} {f:Field} {i n r off:Nat} {ag:Bool} {v:Value}
 (ht:P.underlying t=some (.struct fields)) (hf:fields[i]? =some f) (A4:typ P f.type=some (ag,n)) (hn:0<n) (hv:v= .pointer (some ⟨r,off,none⟩)):
 (Instr.fieldAt t v i).run P w= .ok (.pointer (some ⟨r,off+f.offset,none⟩)) w:=by
 obtain⟨inf,g1,g2,g3,g4⟩:=zbr A4;have:inf.size≠0:=by omega
 simp[Instr.fieldAt,zau ht,hf,hv,Instr.sureAddr,fieldPlace,zaO g1,this,zcL]
theorem zt5 (R:Rel N c ns A μ lam s a w) {x:Operand} {x':Opd} {t:TypeId} {fields:Array Field} {f:Field} {i n:Nat} {ag:Bool} (hx:opd I x=some x')
 (ht:P.underlying t=some (.struct fields)) (hf:fields[i]? =some f) (A4:typ P f.type=some (ag,n)) (hn:0<n)
 (he:zaj N.G p s (.faddrL f.offset x')=some e):
 ∃v,(Instr.fieldAt t (a.eval x) i).run P w= .ok v w/\zbl w A N.nm μ s.heap v e.val/\e.loc=none/\e.wloc=none/\e.hp=[]/\
  ∀b o,e.adr=some (b,o)->(s.loc b).isSome=true/\v= .pointer (some ⟨lam b,o,none⟩):=by
 simp only[zaj,zC,zB,zA,Prod.exists]at he;obtain⟨b,o,hr,cs,hb,rfl⟩:=he;have hv:=zio R hx hr hb;refine⟨_,zgu ht hf A4 hn hv,trivial,rfl,rfl,rfl,?_⟩;intro b' o' h;simp only[zA,Prod.mk.injEq]at h;obtain⟨rfl,rfl⟩:=h;exact⟨by rw[hb];rfl,rfl⟩
theorem zsr {r off:Nat} {cs:List T} {vf:Nat->Value} {nm:Nat->Nat} {H:Nat->Option O} (n:Nat) (hA:A r) (hv: ∀(j:Nat) (x:T),cs[j]? =some x->w.cell? ⟨r,off+j,none⟩=some (vf j))
 (hr: ∀(j:Nat) (x:T),cs[j]? =some x->RepT w A nm (vf j) x):zbl w A nm μ H (.pointer (some ⟨r,off+n,none⟩)) (.t (.ip (cs.drop n))):=
 (RepC.t (.ip r (off+n) (cs.drop n) (fun j=>vf (n+j)) hA (fun j x hj=>by rw[Nat.add_assoc];exact hv _ x (by simpa using hj)) (fun j x hj=>hr _ x (by simpa using hj)))).toV
theorem zwl (hI:I.Ok N) (R:Rel N c ns A μ lam s a w) {x:Operand} {x':Opd} {t:TypeId} {fields:Array Field} {f:Field} {i n:Nat} {ag:Bool} (hx:opd I x=some x')
 (ht:P.underlying t=some (.struct fields)) (hf:fields[i]? =some f) (A4:typ P f.type=some (ag,n)) (hn:0<n)
 (he:zaj N.G p s (.faddr f.offset x')=some e):zdb N A μ s w ((Instr.fieldAt t (a.eval x) i).run P w) e:=by
 simp only[zaj,zC,zB]at he;obtain⟨u,hu,he⟩:=he;have Ae:=zat hI R hx hu;split at he
 ·rename_i k i' off;split at he<;>simp only[zA,reduceCtorEq]at he
  rename_i sz rs frz hk;subst he;obtain⟨hv,hi⟩:=Ae.mp_inv hk;refine⟨_,zgu ht hf A4 hn hv,?_,rfl,rfl,rfl,rfl⟩;rw[Nat.add_assoc];exact(RepC.mp k i' _ sz rs frz hk hi).toV
 ·simp only[zA]at he;subst he;obtain⟨r,off,vf,hv,hA,h1,h2⟩:=zbl.ip_inv Ae;exact⟨_,zgu ht hf A4 hn hv,zsr _ hA h1 h2,rfl,rfl,rfl,rfl⟩
 ·simp at he
theorem zin {t:TypeId} {ag:Bool} {n off:Nat} {cs:Array Value} (h:typ P t=some (ag,n)) (A5:off+n<=cs.size):
 (part t cs off).run P w= .ok (zgJ ag ((cs.toList.drop off).take n)) w:=by
 obtain⟨inf,g1,g2,g3,g4⟩:=zbr h
 cases ag with
 | true=>
   simp only[part,Sem.run_bind,g4 w,Result.andThen_ok,if_true,zaO g1,Sem.run_pure,zgJ,g2]
   congr 2
   apply Array.ext'
   simp[Array.toList_extract,List.extract_eq_take_drop]
 | false=>
   have hn:=g3 rfl;subst hn;have Ad:off<cs.size:=by omega
   simp only[part,Sem.run_bind,g4 w,Result.andThen_ok,zG,if_false,Array.getElem?_eq_getElem Ad,Sem.run_pure,zgJ]
   congr 1
   rw[List.drop_eq_getElem_cons (by simpa using Ad)];simp
theorem zwk (hI:I.Ok N) (R:Rel N c ns A μ lam s a w) {x:Operand} {x':Opd} {t:TypeId} {fields:Array Field} {f:Field} {i n:Nat} {ag:Bool} (hx:opd I x=some x')
 (ht:P.underlying t=some (.struct fields)) (hf:fields[i]? =some f) (A4:typ P f.type=some (ag,n))
 (he:zaj N.G p s (.field ag f.offset n x')=some e):zdb N A μ s w ((Instr.field t (a.eval x) i).run P w) e:=by
 simp only[zaj,zC,zB]at he;obtain⟨u,hu,he⟩:=he;split at he
 ·rename_i cs;simp only[zB,zA]at he;obtain⟨r,hr,v,hw,rfl⟩:=he;obtain⟨vs,Au,hl⟩:=(zat hI R hx hu).agg_inv;obtain⟨h1,h2,h3⟩:=hl.rd hr;refine⟨_,?_,h1.wrap hw,rfl,rfl,rfl,rfl⟩;simp[Instr.field,zau ht,hf,Au,asAgg,zin (P:=P) (w:=w) A4 (by simpa using h2)]
 ·simp at he
theorem zx0 (hI:I.Ok N) (R:Rel N c ns A μ lam s a w) {x i:Operand} {x' i':Opd} {t el:TypeId} {len n:Nat} {ag:Bool} (hx:opd I x=some x') (hi:opd I i=some i')
 (ht:P.underlying t=some (.array len el)) (A4:typ P el=some (ag,n))
 (he:zaj N.G p s (.idxA ag len n x' i')=some e):zdb N A μ s w ((Instr.index t (a.eval x) (a.eval i)).run P w) e:=by
 simp only[zaj,zC,zB]at he;obtain⟨m,hm,u,hu,he⟩:=he;obtain⟨k,hk⟩:=zc4 hI R hi hm;split at he
 ·rename_i cs;split at he
  ·rename_i hb;simp only[zB,zA]at he;obtain⟨r,hr,v,hw,rfl⟩:=he;obtain⟨vs,Au,hl⟩:=(zat hI R hx hu).agg_inv;obtain⟨h1,h2,h3⟩:=hl.rd hr;obtain⟨inf,g1,g2,g3,g4⟩:=zbr A4;refine⟨_,?_,h1.wrap hw,rfl,rfl,rfl,rfl⟩;simp[Instr.index,hk,asIntOf,zau ht,Au,hb,zaO g1,g2,zin (P:=P) (w:=w) A4 (by simpa using h2)]
  ·simp at he
 ·simp at he
theorem zxZ (hI:I.Ok N) (R:Rel N c ns A μ lam s a w) {x i:Operand} {x' i':Opd} {t:TypeId} (hx:opd I x=some x') (hi:opd I i=some i')
 (ht:P.underlying t=some .string)
 (he:zaj N.G p s (.idxS x' i')=some e):zdb N A μ s w ((Instr.index t (a.eval x) (a.eval i)).run P w) e:=by
 simp only[zaj,zC,zB]at he;obtain⟨m,hm,u,hu,he⟩:=he;obtain⟨k,hk⟩:=zc4 hI R hi hm;split at he
 ·rename_i b;split at he
  ·rename_i hb;simp only[zB,zA]at he;obtain⟨r,hr,rfl⟩:=he;have hv:=(zat hI R hx hu).str_inv;refine⟨_,?_,(RepC.t (.int _ _)).toV,rfl,rfl,rfl,rfl⟩;simp[Instr.index,hk,asIntOf,zau ht,hv,hb,hr]
  ·simp at he
 ·simp at he
theorem zx1 (hI:I.Ok N) (R:Rel N c ns A μ lam s a w) {x:Operand} {x':Opd} {i:Nat} (hx:opd I x=some x')
 (he:zaj N.G p s (.extr x' i)=some e):zdb N A μ s w ((Instr.extract (a.eval x) i).run P w) e:=by
 simp only[zaj,zC,zB]at he;obtain⟨u,hu,he⟩:=he;split at he
 ·rename_i cs;simp only[zB,zA]at he;obtain⟨v,hv,rfl⟩:=he;obtain⟨vs,Au,hl,h1⟩:=zat hI R hx hu;obtain⟨z,hz,hr⟩:=h1 i v hv;refine⟨z,?_,hr.toV,rfl,rfl,rfl,rfl⟩;simp[Instr.extract,Au,hz]
 ·simp at he
theorem zbl.len_inv {w:World} {A:Nat->Prop} {nm μ:Nat->Nat} {s:St} {v:Value} {x:V} {n:Nat} (h:zbl w A nm μ s.heap v x) (hn:lenOf s x=some n):
 ∃ad cap,v= .slice ad n cap:=by
 unfold lenOf at hn;split at hn
 ·simp only[zA]at hn;subst hn;cases h.t_inv;exact⟨_,_,rfl⟩
 ·simp only[zA]at hn;subst hn;cases h.t_inv<;>exact⟨_,_,rfl⟩
 ·simp only[zA]at hn;subst hn;cases h.t_inv;exact⟨_,_,rfl⟩
 ·split at hn<;>simp only[zA,reduceCtorEq]at hn
  rename_i hk;subst hn
  cases(h:RepC w A nm μ s.heap v _)with
  | ms=>exact⟨_,_,rfl⟩
  | dms _ _ _ Ah=>rw[hk]at Ah;cases Ah
 ·simp at hn
theorem zBl (hI:I.Ok N) (R:Rel N c ns A μ lam s a w) {x:Operand} {x':Opd} {t el ty:TypeId} (hx:opd I x=some x') (ht:P.underlying t=some (.slice el))
 (he:zaj N.G p s (.len x')=some e):zdb N A μ s w ((Builtin.len_ #[t] ty #[a.eval x]).run P w) e:=by
 simp only[zaj,zC,zB,zA]at he;obtain⟨u,hu,n,hn,rfl⟩:=he;obtain⟨ad,cap,hv⟩:=(zat hI R hx hu).len_inv hn;refine⟨_,?_,(RepC.t (.int _ _)).toV,rfl,rfl,rfl,rfl⟩;simp[Builtin.len_,zau ht,hv,goInt]
theorem zxV (hI:I.Ok N) (R:Rel N c ns A μ lam s a w) {x:Operand} {x':Opd} {t ty:TypeId} (hx:opd I x=some x') (ht:P.underlying t=some .string)
 (he:zaj N.G p s (.slen x')=some e):zdb N A μ s w ((Builtin.len_ #[t] ty #[a.eval x]).run P w) e:=by
 simp only[zaj,zC,zB]at he;obtain⟨u,hu,he⟩:=he;split at he
 ·simp only[zA]at he;subst he;have hv:=(zat hI R hx hu).str_inv;refine⟨_,?_,(RepC.t (.int _ _)).toV,rfl,rfl,rfl,rfl⟩;simp[Builtin.len_,zau ht,hv,goInt]
 ·simp at he
theorem zx5 (hI:I.Ok N) (R:Rel N c ns A μ lam s a w) {x:Operand} {x':Opd} {t el ty:TypeId} (hx:opd I x=some x') (ht:P.underlying t=some (.slice el))
 (he:zaj N.G p s (.capN x')=some e):zdb N A μ s w ((Builtin.cap_ #[t] ty #[a.eval x]).run P w) e:=by
 simp only[zaj,zC,zB]at he;obtain⟨u,hu,he⟩:=he;split at he
 ·simp only[zA]at he;subst he;have hv:=(zat hI R hx hu).t_inv
  obtain⟨ad,hv⟩: ∃ad,a.eval x= .slice ad 0 0:=by
   generalize a.eval x=y at hv
   cases hv;exact⟨_,rfl⟩
  refine⟨_,?_,(RepC.t (.int _ _)).toV,rfl,rfl,rfl,rfl⟩;simp[Builtin.cap_,zau ht,hv,goInt]
 ·simp at he
theorem zxY {x:Value} {n:Nat} {t el ty:TypeId} (ht:P.underlying t=some (.array n el))
 (he:zaj N.G p s (.lenA n)=some e):zdb N A μ s w ((Builtin.len_ #[t] ty #[x]).run P w) e:=by
 simp only[zaj,zA]at he;subst he;refine⟨_,?_,(RepC.t (.int _ _)).toV,rfl,rfl,rfl,rfl⟩;simp[Builtin.len_,zau ht,goInt]
theorem zt3 (hI:I.Ok N) (R:Rel N c ns A μ lam s a w) {x i:Operand} {x' i':Opd} {t el:TypeId} {n:Nat} {ag:Bool} (hx:opd I x=some x') (hi:opd I i=some i')
 (ht:P.underlying t=some (.slice el)) (A4:typ P el=some (ag,n))
 (he:zaj N.G p s (.iaddrS n x' i')=some e):zdb N A μ s w ((Instr.indexAt t (a.eval x) (a.eval i)).run P w) e:=by
 simp only[zaj,zC,zB]at he;obtain⟨m,hm,u,hu,he⟩:=he;obtain⟨k,hk⟩:=zc4 hI R hi hm;obtain⟨inf,g1,g2,g3,g4⟩:=zbr A4;have Ae:=zat hI R hx hu;split at he
 ·rename_i es;split at he
  ·rename_i hb;simp only[zB]at he;obtain⟨row,Ap,he⟩:=he;split at he
   ·rename_i AS;simp only[zA]at he;subst he;have Ad:m.toNat<es.length:=(zH.1 Ap).1
    generalize hv:a.eval x=v at Ae
    cases Ae.t_inv with
    | sl0 ad cap=>simp at Ap
    | sl r off cap sz _ vf h0 hc hA hs Bs hr=>
      have IX:sz=n:=by rw[<- hs _ row Ap,AS]
      subst IX;have Lo:m<(es.length:Int):=by omega
      refine⟨.pointer (some ⟨r,off+m.toNat*sz,none⟩),?_,(RepC.t (.ip r (off+m.toNat*sz) row (fun j=>vf m.toNat j) hA (fun j x hj=>Bs _ row j x Ap hj) (fun j x hj=>hr _ row j x Ap hj))).toV,rfl,rfl,rfl,rfl⟩;simp[Instr.indexAt,hk,asIntOf,zau ht,hb,Lo,zaO g1,g2,zcL]
   ·simp at he
  ·simp at he
 ·rename_i es;split at he
  ·rename_i hb;simp only[zB]at he;obtain⟨row,Ap,he⟩:=he;split at he
   ·rename_i AS;simp only[zA]at he;subst he;have Ad:m.toNat<es.length:=(zH.1 Ap).1
    generalize hv:a.eval x=v at Ae
    have hq:=Ae.t_inv
    cases hq with
    | slc ad _ HN=>
    generalize hw:Value.slice ad es.length es.length=v2 at HN hv
    cases HN with
    | sl0 ad cap=>simp at Ap
    | sl r off cap sz _ vf h0 hc hA hs Bs hr=>
      have IX:sz=n:=by rw[<- hs _ row Ap,AS]
      subst IX;have Lo:m<(es.length:Int):=by omega
      refine⟨.pointer (some ⟨r,off+m.toNat*sz,none⟩),?_,(RepC.t (.ip r (off+m.toNat*sz) row (fun j=>vf m.toNat j) hA (fun j x hj=>Bs _ row j x Ap hj) (fun j x hj=>hr _ row j x Ap hj))).toV,rfl,rfl,rfl,rfl⟩;simp[Instr.indexAt,hk,asIntOf,zau ht,hb,Lo,zaO g1,g2,zcL]
   ·simp at he
  ·simp at he
 ·rename_i kk j len;split at he<;>try(simp at he;done)
  rename_i sz rs frz AB;split at he
  ·rename_i hb;obtain⟨Cx,BM,rfl⟩:=hb;simp only[zA]at he;subst he
   generalize hv:a.eval x=v at Ae
   cases(Ae:RepC w A N.nm μ s.heap v _)with
   | ms _ _ _ cap sz' rs' frz' ad Ah AK hc ha=>
     rw[AB]at Ah;cases Ah;have Cw:cap≠0:=by omega
     obtain⟨rfl,_⟩:=ha.resolve_left Cw;refine⟨.pointer (some ⟨μ kk,(j+m.toNat)*sz,none⟩),?_,?_,rfl,rfl,rfl,rfl⟩
     ·simp[Instr.indexAt,hk,asIntOf,zau ht,Cx,BM,zaO g1,g2,zcL,Nat.add_mul]
     ·have:=RepC.mp (w:=w) (A:=A) (nm:=N.nm) (μ:=μ) (H:=s.heap) kk (j+m.toNat) 0 sz rs frz AB (by omega)
      simpa using this.toV
   | dms _ _ _ Ah=>rw[AB]at Ah;cases Ah
  ·simp at he
 ·simp at he
theorem ziL {t el:TypeId} {i:Value} {k:IntKind} {m:Int} {len n r off:Nat} {ag:Bool} {v:Value} (ht:P.underlying t=some (.array len el)) (A4:typ P el=some (ag,n))
 (hi:i= .int k m) (hb:0<=m/\m<len) (hv:v= .pointer (some ⟨r,off,none⟩)):(Instr.indexAt t v i).run P w= .ok (.pointer (some ⟨r,off+m.toNat*n,none⟩)) w:=by
 obtain⟨inf,g1,g2,g3,g4⟩:=zbr A4;simp[Instr.indexAt,hi,asIntOf,zau ht,hb,zaO g1,g2,zcL,hv,Instr.sureAddr]
theorem zrE (hI:I.Ok N) (R:Rel N c ns A μ lam s a w) {x i:Operand} {x' i':Opd} {t el:TypeId} {len n:Nat} {ag:Bool} (hx:opd I x=some x') (hi:opd I i=some i')
 (ht:P.underlying t=some (.array len el)) (A4:typ P el=some (ag,n)) (he:zaj N.G p s (.iaddrAL len n x' i')=some e):
 ∃v,(Instr.indexAt t (a.eval x) (a.eval i)).run P w= .ok v w/\zbl w A N.nm μ s.heap v e.val/\e.loc=none/\e.wloc=none/\e.hp=[]/\
  ∀b o,e.adr=some (b,o)->(s.loc b).isSome=true/\v= .pointer (some ⟨lam b,o,none⟩):=by
 simp only[zaj,zC,zB,Prod.exists]at he;obtain⟨m,hm,b,o,hr,cs,hb,he⟩:=he;obtain⟨k,hk⟩:=zc4 hI R hi hm;split at he
 ·rename_i Kz;simp only[zA]at he;subst he;refine⟨_,ziL ht A4 hk Kz (zio R hx hr hb),trivial,rfl,rfl,rfl,?_⟩;intro b' o' h;simp only[zA,Prod.mk.injEq]at h;obtain⟨rfl,rfl⟩:=h;exact⟨by rw[hb];rfl,rfl⟩
 ·simp at he
theorem zt4 (hI:I.Ok N) (R:Rel N c ns A μ lam s a w) {x i:Operand} {x' i':Opd} {t el:TypeId} {len n:Nat} {ag:Bool} (hx:opd I x=some x') (hi:opd I i=some i')
 (ht:P.underlying t=some (.array len el)) (A4:typ P el=some (ag,n)) (he:zaj N.G p s (.iaddrA len n x' i')=some e):
 zdb N A μ s w ((Instr.indexAt t (a.eval x) (a.eval i)).run P w) e:=by
 simp only[zaj,zC,zB]at he;obtain⟨m,hm,he⟩:=he;obtain⟨k,hk⟩:=zc4 hI R hi hm;split at he
 ·rename_i Kz;simp only[zB]at he;obtain⟨u,hu,he⟩:=he;have Ae:=zat hI R hx hu;split at he
  ·rename_i kk i' off;split at he<;>simp only[zA,reduceCtorEq]at he
   rename_i sz rs frz AB;subst he;obtain⟨hv,hi⟩:=Ae.mp_inv AB;refine⟨_,ziL ht A4 hk Kz hv,?_,rfl,rfl,rfl,rfl⟩;rw[Nat.add_assoc];exact(RepC.mp kk i' _ sz rs frz AB hi).toV
  ·simp only[zA]at he;subst he;obtain⟨r,off,vf,hv,hA,h1,h2⟩:=zbl.ip_inv Ae;exact⟨_,ziL ht A4 hk Kz hv,zsr _ hA h1 h2,rfl,rfl,rfl,rfl⟩
  ·simp at he
 ·simp at he
theorem zjr: ∀{l:List Opd} {vs:List V},zgE N.G s l=some vs->l.length=vs.length/\ ∀(i:Nat) (v:V),vs[i]? =some v-> ∃x,l[i]? =some x/\evl N.G s x=some v
 | [],vs,h=>by simp[zgE]at h;subst h;simp
 | x::l,vs,h=>by
   simp only[zgE,zC,zB,zA]at h;obtain⟨v,hv,us,Kh,rfl⟩:=h;obtain⟨h1,h2⟩:=zjr Kh;refine⟨by simp[h1],fun i z hz=> ?_⟩
   cases i with
   | zero=>simp at hz;subst hz;exact⟨x,rfl,hv⟩
   | succ i=>simp at hz;simpa using h2 i z hz
theorem zdz (hI:I.Ok N) (R:Rel N c ns A μ lam s a w) {xs:Array Operand} {ys:List Opd} {vs:List V} (hx:opds I xs=some ys) (hv:zgE N.G s ys=some vs):
 (xs.map a.eval).size=vs.length/\ ∀(i:Nat) (v:V),vs[i]? =some v-> ∃u,(xs.map a.eval)[i]? =some u/\zbl w A N.nm μ s.heap u v:=by
 obtain⟨h1,h2⟩:=zbb hx;obtain⟨h3,h4⟩:=zjr hv;refine⟨by simp at h1⊢;omega,fun i v hi=> ?_⟩;obtain⟨y,hy,Ak⟩:=h4 i v hi;obtain⟨x,Dc,ho⟩:=h2 i y hy;refine⟨a.eval x,?_,zat hI R ho Ak⟩;simp only[Array.getElem?_toList]at Dc;simp[Dc]
theorem zju: ∀{ks:List Nat} {as bs:List V} {r:Bool},zbh ks as bs=some r->as.length=ks.length/\bs.length=ks.length
 | [],[],[],_,_=>⟨rfl,rfl⟩
 | [],_::_,_,_,h=>by simp[zbh]at h
 | [],[],_::_,_,h=>by simp[zbh]at h
 | _::_,[],_,_,h=>by simp[zbh]at h
 | _::_,_::_,[],_,h=>by simp[zbh]at h
 | k::ks,a::as,b::bs,r,h=>by
   simp only[zbh,zC,zB,zA]at h;obtain⟨q,_,q',Eu,_⟩:=h;have:=zju Eu;exact⟨by simp[this.1],by simp[this.2]⟩
theorem zjv: ∀{k1 ks:List Nat} {as bs:List V} {r:Bool},zbh (k1++ks) as bs=some r->
 ∃q q',zbh k1 (as.take k1.length) (bs.take k1.length)=some q/\zbh ks (as.drop k1.length) (bs.drop k1.length)=some q'/\r=(q&&q')
 | [],ks,as,bs,r,h=>⟨true,r,rfl,by simpa using h,by simp⟩
 | k::k1,ks,[],bs,r,h=>by simp[zbh]at h
 | k::k1,ks,a::as,[],r,h=>by simp[zbh]at h
 | k::k1,ks,a::as,b::bs,r,h=>by
   simp only[List.cons_append,zbh,zC,zB,zA]at h;obtain⟨x,hx,y,hy,rfl⟩:=h;obtain⟨q,q',h1,h2,rfl⟩:=zjv hy;exact⟨x&&q,q',by simp[zbh,hx,h1],by simpa using h2,by rw[Bool.and_assoc]⟩
theorem zqd {t:TypeId} {k:Nat} {xa ya:V} {v u:Value} {q:Bool} {μ:Nat->Nat} {H:Nat->Option O} {nm:Nat->Nat} (d:Nat)
 (hk:zdA P t=some k) (E5:zbl w A nm μ H v xa) (DU:zbl w A nm μ H u ya) (hq:zg6 k xa ya=some q):
 (Op.equalIn (d+1) t v u).run P w= .ok q w:=by
 unfold zg6 at hq;split at hq
 ·split at hq
  ·rename_i AB;obtain⟨rfl,rfl⟩:=AB;simp only[zA]at hq;subst hq;cases E5.int_inv;cases DU.int_inv;unfold zdA at hk;split at hk<;>simp at hk
   rename_i A4;simp[Op.equalIn,zau A4]
  ·simp at hq
 ·split at hq
  ·rename_i AB;subst AB;simp only[zA]at hq;subst hq;cases E5.bool_inv;cases DU.bool_inv;unfold zdA at hk;split at hk<;>simp at hk
   rename_i A4;simp[Op.equalIn,zau A4]
  ·simp at hq
 ·split at hq
  ·rename_i AB;subst AB;simp only[zA]at hq;subst hq;cases E5.str_inv;cases DU.str_inv;unfold zdA at hk;split at hk<;>simp at hk
   rename_i A4;simp[Op.equalIn,zau A4,beq_toListBytes]
  ·simp at hq
 ·simp at hq
theorem zlg {fs:List Field} {xs ys:Array Value} {as bs:List V} {i:Nat} {ks:List Nat} {r:Bool} {μ:Nat->Nat} {H:Nat->Option O} {nm:Nat->Nat} (d:Nat)
 (hf:zcR P i fs=some ks) (hx:zfk w A nm μ H xs.toList as) (hy:zfk w A nm μ H ys.toList bs)
 (he:zbh ks (as.drop i) (bs.drop i)=some r):(Op.eqFields (d+2) xs ys fs).run P w= .ok r w:=by
 induction fs generalizing i r ks with
 | nil=>
   simp only[zcR,zA]at hf;subst hf;unfold zbh at he
   split at he<;>simp_all [Op.eqFields]
 | cons f fs ih=>
   unfold zcR at hf;split at hf
   ·rename_i k hk;simp only[zC,zB]at hf;obtain⟨ks',Dn,hf⟩:=hf;split at hf
    ·rename_i hc;obtain⟨hn,ho,DV⟩:=hc;simp only[zA]at hf;subst hf;unfold zbh at he;split at he
     ·simp_all
     ·rename_i n ns xa xs' ya ys' e1 e2 e3;cases e1;simp only[zC,zB,zA]at he;obtain⟨q,hq,q',Eu,rfl⟩:=he;have ea:as[i]? =some xa:=by have:=congrArg (·[0]?) e2;simpa using this
      have eb:bs[i]? =some ya:=by have:=congrArg (·[0]?) e3;simpa using this
      have ea':as.drop (i+1)=xs':=by have:=congrArg List.tail e2;simpa using this
      have eb':bs.drop (i+1)=ys':=by have:=congrArg List.tail e3;simpa using this
      obtain⟨v,hv,E5⟩:=hx.2 i _ ea;obtain⟨u,hu,DU⟩:=hy.2 i _ eb;obtain⟨inf,g1,g2,g3,g4⟩:=zbr DV;have ih':=ih Dn (by rw[ea',eb'];exact Eu)
      have Jh:(part f.type xs f.offset).run P w= .ok v w:=by
       simp only[Array.getElem?_toList]at hv;simp[part,g4 w,ho,hv]
      have KO:(part f.type ys f.offset).run P w= .ok u w:=by
       simp only[Array.getElem?_toList]at hu;simp[part,g4 w,ho,hu]
      have Fq:=zqd (P:=P) (d+1) hk E5.toV DU.toV hq;simp only[Op.eqFields,ne_eq,hn,not_false_eq_true,if_true,Sem.run_bind,Jh,KO,Result.andThen_ok,Fq];cases q
      ·simp
      ·simpa using ih'
     ·simp at he
    ·simp at hf
   ·rename_i hk;simp only[zC,zB]at hf;obtain⟨k1,AT,ks',Dn,hf⟩:=hf;split at hf
    ·rename_i hc;obtain⟨hn,ho,DV,CB⟩:=hc;simp only[zA]at hf;subst hf;obtain⟨q,q',hq,Eu,rfl⟩:=zjv he;have hl:=zju hq;rw[List.drop_drop,List.drop_drop]at Eu;have ih':=ih Dn Eu
     have Cu:rd as i k1.length=some ((as.drop i).take k1.length):=by
      unfold Rg.rd;rw[if_pos];have:=hl.1;rw[List.length_take,List.length_drop]at this;omega
     have Eb:rd bs i k1.length=some ((bs.drop i).take k1.length):=by
      unfold Rg.rd;rw[if_pos];have:=hl.2;rw[List.length_take,List.length_drop]at this;omega
     obtain⟨a1,a2,a3⟩:=hx.rd Cu;obtain⟨b1,b2,b3⟩:=hy.rd Eb
     have Jh:(part f.type xs f.offset).run P w= .ok (.agg ((xs.toList.drop i).take k1.length).toArray) w:=by
      rw[ho];exact zin (P:=P) (w:=w) DV (by simpa using a2)
     have KO:(part f.type ys f.offset).run P w= .ok (.agg ((ys.toList.drop i).take k1.length).toArray) w:=by
      rw[ho];exact zin (P:=P) (w:=w) DV (by simpa using b2)
     have Fq:(Op.equalIn (d+2) f.type (.agg ((xs.toList.drop i).take k1.length).toArray) (.agg ((ys.toList.drop i).take k1.length).toArray)).run P w= .ok q w:=by
      unfold zdB at AT;split at AT
      ·rename_i fields CW;split at AT
       ·rename_i hc;have I9:P.fieldsOf f.type=fields:=by simp[Program.fieldsOf,CW]
        have h0:=zhM (P:=P) (w:=w) (A:=A) (nm:=nm) (μ:=μ) (H:=H) (i:=0) (xs:=((xs.toList.drop i).take k1.length).toArray) (ys:=((ys.toList.drop i).take k1.length).toArray) d AT (by simpa using a1) (by simpa using b1) (by simpa using hq);have:=run_equalIn_struct (P:=P) w (d+1) f.type ((xs.toList.drop i).take k1.length).toArray ((ys.toList.drop i).take k1.length).toArray (by rw[I9];exact CW) hc.1;rw[this,I9];exact h0
       ·cases AT
      ·cases AT
     simp only[Op.eqFields,ne_eq,hn,not_false_eq_true,if_true,Sem.run_bind,Jh,KO,Result.andThen_ok,Fq];cases q
     ·simp
     ·simpa using ih'
    ·simp at hf
theorem zvG (hI:I.Ok N) (R:Rel N c ns A μ lam s a w) {x y:Operand} {x' y':Opd} {op:BinOp} {neg:Bool} {ks:List Nat} (hx:opd I x=some x') (hy:opd I y=some y')
 (he:zaj N.G p s (.eqa neg ks x' y')=some e) {t:TypeId} (ht:zlo P t=some ks) (Ao:op=if neg then .neq else .eql):
 zdb N A μ s w ((do eqGuard op t x y (a.eval x) (a.eval y);binOp op t (a.eval x) (a.eval y):Sem Value).run P w) e:=by
 simp only[zaj,zC,zB]at he;obtain⟨u,hu,v,hv,he⟩:=he;split at he
 ·rename_i as bs;simp only[zB,zA]at he;obtain⟨r,hr,rfl⟩:=he;obtain⟨xs,Ka,PD⟩:=(zat hI R hx hu).agg_inv;obtain⟨ys,FN,P4⟩:=(zat hI R hy hv).agg_inv;rw[Ka,FN];unfold zlo at ht;split at ht
  ·rename_i fields CW;split at ht
   ·rename_i hc;have I9:P.fieldsOf t=fields:=by simp[Program.fieldsOf,CW]
    have h0:=zlg (P:=P) (i:=0) 9997 ht PD P4 (by simpa using hr)
    have h1:(Op.equalIn 10000 t (.agg xs) (.agg ys)).run P w= .ok r w:=by
     have:=run_equalIn_struct (P:=P) w 9999 t xs ys (by rw[I9];exact CW) hc.1;rw[this,I9];exact h0
    have h2:=run_eqGuard_agg (P:=P) w op t x y xs ys hc.2;refine⟨.bool (r != neg),?_,(RepC.t (.bool _)).toV,rfl,rfl,rfl,rfl⟩;cases neg
    ·simp only[zG,if_false]at Ao;subst Ao;simp only[Sem.run_bind,h2,Result.andThen_ok];simp[run_eql_struct,h1]
    ·simp only[if_true]at Ao;subst Ao;simp only[Sem.run_bind,h2,Result.andThen_ok];simp[run_neq_struct,h1]
   ·simp at ht
  ·simp at ht
 ·simp at he
end
end Rg
end
