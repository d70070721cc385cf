/- Part of the proof of laws of relyguardlaw31. No condition. -/
import Derived.Laws.CopyRow
import Derived.Test.YtcmeofagpechdaaGreatDoorPartAA
import Derived.Laws.StructEq
set_option linter.unusedVariables false
set_option linter.unusedSimpArgs false
section
namespace Rg
open Go
theorem zc0 (a:Act) (d t:Nat) (v:Value) (h:d<a.tmps.size):
 (a.put (some d) v).tmps.getD t undef=if t=d then v else a.tmps.getD t undef:=by
 simp only[Act.put]
 by_cases ht:t=d
 ·subst ht;simp[h]
 ·simp[ht,Array.getD_eq_getD_getElem?,Ne.symm ht]
theorem ziv (a:Act) (d:Option Nat) (v:Value):(a.put d v).tmps.size=a.tmps.size:=by
 cases d<;>simp[Act.put]
theorem zfP (a:Act) (d:Option Nat) (v:Value):(a.put d v).defers=a.defers:=by
 cases d<;>rfl
theorem zbY {s:St} {d:Option Nat} {e:Eff} {b:Nat} (h:s.used b=true):(s.apply d e).used b=true:=by
 simp only[St.apply]
 cases e.adr with
 | none=>exact h
 | some x=>simp only[upd];split<;>simp_all
section
variable {N:Nam} {c:Ctx} {ns:Nat} {A:Nat->Prop} {μ lam:Nat->Nat} {s:St} {a:Act} {w:World}
theorem Rel.put (R:Rel N c ns A μ lam s a w) (d:Option Nat) (e:Eff) (v:Value) (hd: ∀x,d=some x->x<ns) (hf:s.free d e)
 (hl:e.loc=none) (hwl:e.wloc=none) (hh:e.hp=[]) (hv:RepV w A N.nm μ s.heap v e.val)
 (ha: ∀b o,e.adr=some (b,o)->(s.loc b).isSome=true/\v= .pointer (some ⟨lam b,o,none⟩)):
 Rel N c ns A μ lam (s.apply d e) (a.put d v) w:=by
 have hheap:(s.apply d e).heap=s.heap:=by simp[St.apply,hh,hpUpd]
 cases d with
 | none=>
   have h1:(s.apply none e).env=s.env:=rfl;have h2:(s.apply none e).adr=s.adr:=rfl;have h3:(s.apply none e).loc=s.loc:=by simp[St.apply,hwl]
   refine{ R with env:= ?_,loc:= ?_,adr:= ?_,heap:= ?_,hinj:= ?_,linj:= ?_,lh:= ?_,aH:= ?_,aL:= ?_,afz:=by rw[hheap];exact R.afz,fresh:= ?_,clive:= ?_,cloc:= ?_,chp:= ?_ }
   ·rw[hheap,h1];exact R.env
   ·rw[hheap,h3];exact R.loc
   ·intro t b o h;rw[h2]at h;obtain⟨g1,g2,g3⟩:=R.adr t b o h;exact⟨zbY g1,by rw[h3];exact g2,g3⟩
   ·rw[hheap];exact R.heap
   ·rw[hheap];exact R.hinj
   ·rw[h3];exact R.linj
   ·rw[hheap,h3];exact R.lh
   ·rw[hheap];exact R.aH
   ·rw[h3];exact R.aL
   ·rw[hheap];exact R.fresh
   ·rw[hheap];exact R.clive
   ·rw[h3];exact R.cloc
   ·rw[hheap];exact R.chp
 | some d=>
   have hdn:d<a.tmps.size:=by rw[R.size];exact hd d rfl
   obtain⟨hf1,hf2⟩:=hf d rfl;have h1:(s.apply (some d) e).env=upd s.env d e.val:=rfl;have h2:(s.apply (some d) e).adr=upd s.adr d e.adr:=rfl;have h3:(s.apply (some d) e).loc=upd s.loc d none:=by simp[St.apply,hwl,hl]
   have hsome: ∀t,((upd s.loc d none) t).isSome=true->t≠d/\(s.loc t).isSome=true:=by
    intro t h
    by_cases ht:t=d
    ·subst ht;simp at h
    ·exact⟨ht,by rwa[zaa _ _ ht]at h⟩
   refine{ R with size:=by rw[ziv];exact R.size,defers:=by rw[zfP];exact R.defers,env:= ?_,loc:= ?_,adr:= ?_,heap:= ?_,hinj:= ?_,linj:= ?_,lh:= ?_,aH:= ?_,aL:= ?_,afz:=by rw[hheap];exact R.afz,fresh:= ?_,clive:= ?_,cloc:= ?_,chp:= ?_ }
   ·intro t;rw[hheap,h1,zc0 a d t v hdn]
    by_cases ht:t=d
    ·subst ht;simpa using hv
    ·rw[zaa _ _ ht,if_neg ht];exact R.env t
   ·intro t cs h;rw[h3]at h;obtain⟨ht,_⟩:=hsome t (by rw[h];rfl);rw[zaa _ _ ht]at h;rw[hheap,zc0 a d t v hdn,if_neg ht];exact R.loc t cs h
   ·intro t b o h;rw[h2]at h;rw[h3,zc0 a d t v hdn]
    by_cases ht:t=d
    ·subst ht;simp only[upd_same]at h;obtain⟨g1,g2⟩:=ha b o h;have hb:b≠t:=hf2 b o h;refine⟨by simp[St.apply,h],by rw[zaa _ _ hb];exact g1,by simp[g2]⟩
    ·rw[zaa _ _ ht]at h;obtain⟨g1,g2,g3⟩:=R.adr t b o h;have hb:b≠d:=by intro hb;subst hb;simp[hf1]at g1
     exact⟨zbY g1,by rw[zaa _ _ hb];exact g2,by rw[if_neg ht];exact g3⟩
   ·rw[hheap];exact R.heap
   ·rw[hheap];exact R.hinj
   ·intro t t' g g';rw[h3]at g g';exact R.linj t t' (hsome t g).2 (hsome t' g').2
   ·intro t k o g;rw[h3]at g;rw[hheap];exact R.lh t k o (hsome t g).2
   ·rw[hheap];exact R.aH
   ·intro r hr ⟨t,g,he⟩;rw[h3]at g;exact R.aL r hr ⟨t,(hsome t g).2,he⟩
   ·rw[hheap];exact R.fresh
   ·rw[hheap];exact R.clive
   ·intro t g;rw[h3]at g;exact R.cloc t (hsome t g).2
   ·rw[hheap];exact R.chp
theorem Rel.world (R:Rel N c ns A μ lam s a w) {w':World} (hsz:w.heap.size<=w'.heap.size)
 (hb: ∀r,A r\/MBL s.loc lam r\/(∃k o,s.heap k=some o/\o.live=true/\μ k=r)->w'.heap[r]? =w.heap[r]?)
 (hk: ∀r,r<c.w0.heap.size-> ¬c.X r->w'.heap[r]? =w.heap[r]?)
 (hs: ∀r x,w.shape? r=some x->w'.shape? r=some x) (hmk:Marks c A w' a.defers) (hov:w'.os=w.os/\w'.output=w.output:=by exact⟨rfl,rfl⟩):Rel N c ns A μ lam s a w':=by
 have E:Evo w A μ s.heap w' A μ s.heap:=⟨fun r h=>hb r (.inl h),fun _ h=>h,fun _ o h=>⟨o,h,O.le_refl o,fun _=>rfl⟩,hs⟩
 refine{ R with defers:=hmk,env:=fun t=>(R.env t).evo E,loc:= ?_,heap:= ?_,glob:= ?_,alt:=fun r h=>Nat.lt_of_lt_of_le (R.alt r h) hsz,cout:=⟨hov.1.trans R.cout.1,hov.2.trans R.cout.2⟩,csize:=Nat.le_trans R.csize hsz,ckeep:= ?_,cshp:=fun r x h=>hs r x (R.cshp r x h) }
 ·intro t cs h;obtain⟨h1,cc,e,h2,h3⟩:=R.loc t cs h;exact⟨h1,cc,e,by rw[hb _ (.inr (.inl ⟨t,by rw[h];rfl,rfl⟩))];exact h2,h3.evo E⟩
 ·intro k o h;have:=R.heap k o h
  cases o with
  | dead=>trivial
  | rows sz rs frz=>
    obtain⟨cc,e,z,h1,h2,h3,h4,h5⟩:=this
    exact⟨cc,e,z,by rw[hb _ (.inr (.inr ⟨k,_,h,rfl,rfl⟩))];exact h1,h2,h3,h4,fun i row j x g1 g2=>let⟨v,hv,hr⟩:=h5 i row j x g1 g2;⟨v,hv,hr.evo E⟩⟩
  | map es=>
    obtain⟨ms,n,h1,h2,h3⟩:=this
    exact⟨ms,n,by rw[hb _ (.inr (.inr ⟨k,_,h,rfl,rfl⟩))];exact h1,h2,fun i k x g=>let⟨m,hm,hr,hv⟩:=h3 i k x g;⟨m,hm,hr,hv.evo E⟩⟩
  | loop env ps b st=>
    obtain⟨L,h1,h2,h3,h4,h5,h7,h6⟩:=this
    exact⟨L,by rw[hb _ (.inr (.inr ⟨k,_,h,rfl,rfl⟩))];exact h1,h2,h3,h4,h5,h7,fun t=>(h6 t).evo E⟩
  | raw x=>exact zml.evo this E (hb _ (.inr (.inr ⟨k,_,h,rfl,rfl⟩)))
 ·intro g j x h;obtain⟨h1,⟨te,hte⟩,v,hv,hr⟩:=R.glob g j x h;exact⟨h1,⟨te,E.shp _ _ hte⟩,v,by rw[cell?_eq (hb _ (.inl h1))];exact hv,hr.mono E.blk E.sub⟩
 ·intro r hr hx;rw[hk r hr hx];exact R.ckeep r hr hx
theorem shape?_push (w:World) (o:Go.Obj) (r:Nat) (x:TypeId×Nat) (h:w.shape? r=some x):(w.alloc o).shape? r=some x:=by
 have hlt:r<w.heap.size:=by
  rcases Nat.lt_or_ge r w.heap.size with h' | h'
  ·exact h'
  ·simp[World.shape?,Array.getElem?_eq_none h']at h
 have:(w.alloc o).heap[r]? =w.heap[r]? :=by simp only[World.alloc,Array.getElem?_push];simp[Nat.ne_of_lt hlt]
 simpa[World.shape?,this]using h
theorem zml.isCells {w:World} {tB tU:Nat} {μ:Nat->Nat} {H:Nat->Option O} {r:Nat} {x:Bx} (h:zml w tB tU μ H r x): ∃cs t z,w.heap[r]? =some (.cells cs t z):=by
 match x,h with
 | .bld none,⟨_,h,_⟩=>exact⟨_,_,_,h⟩
 | .bld (some _),⟨_,_,_,h,_⟩=>exact⟨_,_,_,h⟩
 | .mid,⟨_,_,h⟩=>exact⟨_,_,_,h⟩
 | .buf _,⟨_,h,_⟩=>exact⟨_,_,_,h⟩
theorem Rel.lt_live (R:Rel N c ns A μ lam s a w) {k:Nat} {o:O} (h:s.heap k=some o) (hl:o.live=true):μ k<w.heap.size:=by
 have:=R.heap k o h
 cases o with
 | dead=>simp[O.live]at hl
 | rows sz rs frz=>obtain⟨cc,e,z,h1,_⟩:=this;exact(Array.getElem?_eq_some_iff.1 h1).1
 | map es=>obtain⟨ms,n,h1,_⟩:=this;exact(Array.getElem?_eq_some_iff.1 h1).1
 | loop env ps b st=>obtain⟨L,h1,_⟩:=this;exact(Array.getElem?_eq_some_iff.1 h1).1
 | raw x=>
   obtain⟨_,_,_,h1⟩:=zml.isCells this;exact(Array.getElem?_eq_some_iff.1 h1).1
theorem Rel.ndef (R:Rel N c ns A μ lam s a w) {k:Nat} {o:O} (h:s.heap k=some o) (hl:o.live=true):w.heap[μ k]? ≠some (Obj.deferred (some [])):=by
 have:=R.heap k o h
 cases o with
 | dead=>simp[O.live]at hl
 | rows sz rs frz=>obtain⟨cc,e,z,h1,_⟩:=this;rw[h1];simp
 | map es=>obtain⟨ms,n,h1,_⟩:=this;rw[h1];simp
 | loop env ps b st=>obtain⟨L,h1,_⟩:=this;rw[h1];simp
 | raw x=>
   obtain⟨_,_,_,h1⟩:=zml.isCells this;rw[h1];simp
theorem Rel.ndef_loc (R:Rel N c ns A μ lam s a w) {t:Nat} (h:(s.loc t).isSome=true):w.heap[lam t]? ≠some (Obj.deferred (some [])):=by
 obtain⟨cs,h⟩:=Option.isSome_iff_exists.1 h;obtain⟨_,cc,e,h1,_⟩:=R.loc t cs h;rw[h1];simp
theorem Rel.lt_loc (R:Rel N c ns A μ lam s a w) {t:Nat} (h:(s.loc t).isSome=true):lam t<w.heap.size:=by
 obtain⟨cs,h⟩:=Option.isSome_iff_exists.1 h;obtain⟨_,cc,e,h1,_⟩:=R.loc t cs h;exact(Array.getElem?_eq_some_iff.1 h1).1
theorem zjX.evo {w w':World} {A A':Nat->Prop} {N:Nam} {μ μ':Nat->Nat} {H H':Nat->Option O} {r:Nat} {o:O} (h:zjX w A N μ H r o)
 (e:Evo w A μ H w' A' μ' H') (hr:w'.heap[r]? =w.heap[r]?):zjX w' A' N μ' H' r o:=by
 cases o with
 | dead=>trivial
 | rows sz rs frz=>
   obtain⟨cc,e0,z,h1,h2,h3,h4,h5⟩:=h
   exact⟨cc,e0,z,by rw[hr];exact h1,h2,h3,h4,fun i row j x g1 g2=>let⟨v,hv,hr⟩:=h5 i row j x g1 g2;⟨v,hv,hr.evo e⟩⟩
 | map es=>
   obtain⟨ms,n,h1,h2,h3⟩:=h
   exact⟨ms,n,by rw[hr];exact h1,h2,fun i k x g=>let⟨m,hm,hr,hv⟩:=h3 i k x g;⟨m,hm,hr,hv.evo e⟩⟩
 | loop env ps b st=>
   obtain⟨L,h1,h2,h3,h4,h5,h7,h6⟩:=h
   exact⟨L,by rw[hr];exact h1,h2,h3,h4,h5,h7,fun t=>(h6 t).evo e⟩
 | raw x=>exact zml.evo h e hr
theorem zpl.evo {w w':World} {A A':Nat->Prop} {nm μ μ':Nat->Nat} {H H':Nat->Option O} {r:Nat} {cs:List V} (h:zpl w A nm μ H r cs)
 (e:Evo w A μ H w' A' μ' H') (hr:w'.heap[r]? =w.heap[r]?):zpl w' A' nm μ' H' r cs:=by
 obtain⟨cc,e0,h1,h2⟩:=h;exact⟨cc,e0,by rw[hr];exact h1,h2.evo e⟩
structure Orphan (c:Ctx) (A:Nat->Prop) (μ lam:Nat->Nat) (s:St) (r:Nat):Prop where
 a: ¬A r
 l: ∀t,(s.loc t).isSome=true->lam t≠r
 h: ∀k o,s.heap k=some o->o.live=true->μ k≠r
 x:c.X r\/c.w0.heap.size<=r
theorem Rel.orphan_new (R:Rel N c ns A μ lam s a w):Orphan c A μ lam s w.heap.size:=
 ⟨fun h=>Nat.lt_irrefl _ (R.alt _ h),fun _ h e=>Nat.lt_irrefl _ (e▸R.lt_loc h),fun _ _ h hl e=>Nat.lt_irrefl _ (e▸R.lt_live h hl),.inr R.csize⟩
theorem Rel.alloc (R:Rel N c ns A μ lam s a w) (o:Go.Obj):Rel N c ns A μ lam s a (w.alloc o):=by
 have hlt: ∀r,r<w.heap.size->(w.alloc o).heap[r]? =w.heap[r]? :=by
  intro r hr;simp only[World.alloc,Array.getElem?_push];simp[Nat.ne_of_lt hr]
 refine R.world (by simp) ?_ ?_ (fun r x h=>shape?_push w o r x h) (R.defers.evo (fun r h=>hlt r (Array.getElem?_eq_some_iff.1 h).1) (fun _ _ h=>h))
 ·rintro r (h | ⟨t,h,rfl⟩ | ⟨k,o',h,hl,rfl⟩)
  ·exact hlt r (R.alt r h)
  ·exact hlt _ (R.lt_loc h)
  ·exact hlt _ (R.lt_live h hl)
 ·intro r hr _;exact hlt r (Nat.lt_of_lt_of_le hr R.csize)
theorem Rel.drew (R:Rel N c ns A μ lam s a w):Rel N c ns A μ lam s a w.drew:=
 R.world (Nat.le_refl _) (fun _ _=>rfl) (fun _ _ _=>rfl) (fun _ _ h=>h) R.defers
theorem shape?_setRow {w:World} {g:Nat} {old cs:Array Value} {t:TypeId} {fr:Nat×Nat} (hg:w.heap[g]? =some (.cells old t fr)) (hs:cs.size=old.size)
 (r:Nat) (x:TypeId×Nat) (h:w.shape? r=some x):(w.setRow g cs).shape? r=some x:=by
 by_cases hr:r=g
 ·subst hr;simp only[World.shape?,hg,setRow_heap w r old cs t fr hg]at h⊢;simpa[hs]using h
 ·simpa[World.shape?,setRow_other w g r cs hr]using h
theorem Rel.setOrphan (R:Rel N c ns A μ lam s a w) {r:Nat} (hr:Orphan c A μ lam s r) {old cs:Array Value} {t:TypeId} {fr:Nat×Nat}
 (hg:w.heap[r]? =some (.cells old t fr)) (hs:cs.size=old.size):Rel N c ns A μ lam s a (w.setRow r cs):=by
 refine R.world (by simp) ?_ ?_ (shape?_setRow hg hs) (R.defers.evo (fun r' h=>setRow_other w r r' cs (fun e=>by subst e;rw[hg]at h;simp at h)) (fun _ _ h=>h))
 ·rintro r' (h | ⟨t,h,rfl⟩ | ⟨k,o',h,hl,rfl⟩)
  ·exact setRow_other w r r' cs (fun e=>hr.a (e▸h))
  ·exact setRow_other w r _ cs (hr.l t h)
  ·exact setRow_other w r _ cs (hr.h k o' h hl)
 ·intro r' h1 h2;refine setRow_other w r r' cs (fun e=> ?_);subst e;rcases hr.x with h | h
  ·exact h2 h
  ·omega
theorem Rel.adoptH (R:Rel N c ns A μ lam s a w) {k r:Nat} {o:O} (hk:s.heap k=none) (hn:k<s.nxt) (hr:Orphan c A μ lam s r)
 (ho:zjX w A N μ s.heap r o) (hno: ∀sz rs,o≠ .rows sz rs true):Rel N c ns A (upd μ k r) lam { s with heap:=upd s.heap k (some o) } a w:=by
 have hne: ∀k' o',s.heap k'=some o'->k'≠k:=by rintro k' o' h rfl;simp[hk]at h
 have E:Evo w A μ s.heap w A (upd μ k r) (upd s.heap k (some o)):=
  ⟨fun _ _=>rfl,fun _ h=>h,fun k' o' h=>⟨o',by rw[zaa _ _ (hne k' o' h)];exact h,O.le_refl o',fun _=>zaa _ _ (hne k' o' h)⟩,fun _ _ h=>h⟩
 have hsplit: ∀k' o',(upd s.heap k (some o)) k'=some o'->(k'=k/\o'=o)\/(k'≠k/\s.heap k'=some o'):=by
  intro k' o' h
  by_cases e:k'=k
  ·subst e;simp at h;exact .inl ⟨rfl,h.symm⟩
  ·rw[zaa _ _ e]at h;exact .inr ⟨e,h⟩
 refine{ R with env:=fun t=>(R.env t).evo E,loc:= ?_,heap:= ?_,hinj:= ?_,lh:= ?_,aH:= ?_,afz:= ?_,fresh:= ?_,clive:= ?_,chp:= ?_ }
 ·intro t cs h;obtain⟨h1,h2⟩:=R.loc t cs h;exact⟨h1,h2.evo E rfl⟩
 ·intro k' o' h;rcases hsplit k' o' h with⟨rfl,rfl⟩ | ⟨e,h⟩
  ·simp only[upd_same];exact ho.evo E rfl
  ·simp only[zaa _ _ e];exact(R.heap k' o' h).evo E rfl
 ·intro k1 k2 o1 o2 h1 h2 l1 l2 he;rcases hsplit k1 o1 h1 with⟨rfl,rfl⟩ | ⟨e1,g1⟩<;>rcases hsplit k2 o2 h2 with⟨rfl,rfl⟩ | ⟨e2,g2⟩
  ·rfl
  ·simp only[upd_same,zaa _ _ e2]at he;exact absurd he.symm (hr.h k2 o2 g2 l2)
  ·simp only[upd_same,zaa _ _ e1]at he;exact absurd he (hr.h k1 o1 g1 l1)
  ·simp only[zaa _ _ e1,zaa _ _ e2]at he;exact R.hinj k1 k2 o1 o2 g1 g2 l1 l2 he
 ·intro t k' o' ht h hl;rcases hsplit k' o' h with⟨rfl,rfl⟩ | ⟨e,h⟩
  ·simp only[upd_same];exact hr.l t ht
  ·simp only[zaa _ _ e];exact R.lh t k' o' ht h hl
 ·rintro r' hA ⟨k',o',h,hm,hl,he⟩;rcases hsplit k' o' h with⟨rfl,rfl⟩ | ⟨e,h⟩
  ·simp only[upd_same]at he;subst he;exact hr.a hA
  ·simp only[zaa _ _ e]at he;exact R.aH r' hA ⟨k',o',h,hm,hl,he⟩
 ·intro k' sz rs h;rcases hsplit k' _ h with⟨rfl,g⟩ | ⟨e,h⟩
  ·exact absurd g.symm (hno sz rs)
  ·simp only[zaa _ _ e];exact R.afz k' sz rs h
 ·intro k' h;have:k'≠k:=fun e=>by subst e;exact absurd h (Nat.not_le.2 hn)
  simp only[zaa _ _ this];exact R.fresh k' h
 ·rintro r' ⟨k',o',h,hm,hl,he⟩;rcases hsplit k' o' h with⟨rfl,rfl⟩ | ⟨e,h⟩
  ·simp only[upd_same]at he;subst he;exact hr.x
  ·simp only[zaa _ _ e]at he;exact R.clive r' ⟨k',o',h,hm,hl,he⟩
 ·intro k' o' h;obtain⟨o1,h1,h2,h3⟩:=R.chp k' o' h;have e:=hne k' o1 h1;exact⟨o1,by simp only[zaa _ _ e];exact h1,h2,fun hl=>by rw[zaa _ _ e];exact h3 hl⟩
theorem Rel.changeH (R:Rel N c ns A μ lam s a w) {k:Nat} {o o':O} {w':World} (hk:s.heap k=some o) (hle:O.le o o') (hl:o.live=true)
 (hm: ∀sz rs,o≠ .rows sz rs true) (hm': ∀sz rs,o'≠ .rows sz rs true) (hl':o'.live=true)
 (hsz:w'.heap.size=w.heap.size) (hother: ∀r,r≠μ k->w'.heap[r]? =w.heap[r]?) (hs: ∀r x,w.shape? r=some x->w'.shape? r=some x)
 (ho:Evo w A μ s.heap w' A μ (upd s.heap k (some o'))->zjX w' A N μ (upd s.heap k (some o')) (μ k) o') (hov:w'.os=w.os/\w'.output=w.output:=by exact⟨rfl,rfl⟩):
 Rel N c ns A μ lam { s with heap:=upd s.heap k (some o') } a w':=by
 have hA: ∀r,A r->r≠μ k:=fun r h e=>R.aH r h ⟨k,o,hk,hm,hl,e.symm⟩
 have E:Evo w A μ s.heap w' A μ (upd s.heap k (some o')):=by
  refine⟨fun r h=>hother r (hA r h),fun _ h=>h,fun k1 o1 h=> ?_,hs⟩
  by_cases e:k1=k
  ·subst e;rw[hk]at h;cases h;exact⟨o',by simp,hle,fun _=>rfl⟩
  ·exact⟨o1,by rw[zaa _ _ e];exact h,O.le_refl o1,fun _=>rfl⟩
 have hsplit: ∀k1 o1,(upd s.heap k (some o')) k1=some o1->(k1=k/\o1=o')\/(k1≠k/\s.heap k1=some o1):=by
  intro k1 o1 h
  by_cases e:k1=k
  ·subst e;simp at h;exact .inl ⟨rfl,h.symm⟩
  ·rw[zaa _ _ e]at h;exact .inr ⟨e,h⟩
 have hback: ∀k1 o1,(upd s.heap k (some o')) k1=some o1->o1.live=true-> ∃o2,s.heap k1=some o2/\o2.live=true:=by
  intro k1 o1 h hl1;rcases hsplit k1 o1 h with⟨rfl,rfl⟩ | ⟨_,h⟩
  ·exact⟨o,hk,hl⟩
  ·exact⟨o1,h,hl1⟩
 have hdf: ∀r:Nat,w.heap[r]? =some (Obj.deferred (some []))->w'.heap[r]? =w.heap[r]? :=fun r h=>hother r (fun e=>R.ndef hk hl (e▸h))
 refine{ R with defers:=R.defers.evo hdf (fun _ _ h=>h),env:=fun t=>(R.env t).evo E,loc:= ?_,heap:= ?_,hinj:= ?_,lh:= ?_,aH:= ?_,alt:= ?_,afz:= ?_,fresh:= ?_,glob:= ?_,cout:=⟨hov.1.trans R.cout.1,hov.2.trans R.cout.2⟩,csize:= ?_,ckeep:= ?_,cshp:= ?_,clive:= ?_,chp:= ?_ }
 ·intro t cs h;obtain⟨h1,h2⟩:=R.loc t cs h;exact⟨h1,h2.evo E (hother _ (R.lh t k o (by rw[h];rfl) hk hl))⟩
 ·intro k1 o1 h;rcases hsplit k1 o1 h with⟨rfl,rfl⟩ | ⟨e,h⟩
  ·exact ho E
  ·cases hl1:o1.live with
   | false=>cases o1<;>simp_all [O.live];trivial
   | true=>exact(R.heap k1 o1 h).evo E (hother _ (fun he=>e (R.hinj k1 k o1 o h hk hl1 hl he)))
 ·intro k1 k2 o1 o2 h1 h2 l1 l2 he;obtain⟨p1,q1,m1⟩:=hback k1 o1 h1 l1;obtain⟨p2,q2,m2⟩:=hback k2 o2 h2 l2;exact R.hinj k1 k2 p1 p2 q1 q2 m1 m2 he
 ·intro t k1 o1 ht h hl1;obtain⟨p1,q1,m1⟩:=hback k1 o1 h hl1;exact R.lh t k1 p1 ht q1 m1
 ·rintro r hAr ⟨k1,o1,h,hmm,hl1,he⟩;rcases hsplit k1 o1 h with⟨rfl,rfl⟩ | ⟨e,h⟩
  ·exact hA r hAr he.symm
  ·exact R.aH r hAr ⟨k1,o1,h,hmm,hl1,he⟩
 ·intro r h;rw[hsz];exact R.alt r h
 ·intro k1 sz rs h;rcases hsplit k1 _ h with⟨rfl,g⟩ | ⟨e,h⟩
  ·exact absurd g.symm (hm' sz rs)
  ·exact R.afz k1 sz rs h
 ·intro k1 h;have:k1≠k:=by rintro rfl;have:=R.fresh k1 h;simp[hk]at this
  simp only[zaa _ _ this];exact R.fresh k1 h
 ·intro g j x h;obtain⟨h1,⟨te,hte⟩,v,hv,hr⟩:=R.glob g j x h;exact⟨h1,⟨te,E.shp _ _ hte⟩,v,by rw[cell?_eq (hother _ (hA _ h1))];exact hv,hr.mono E.blk E.sub⟩
 ·rw[hsz];exact R.csize
 ·intro r h1 h2;rw[hother r ?_]
  ·exact R.ckeep r h1 h2
  ·rintro rfl;rcases R.clive _ ⟨k,o,hk,hm,hl,rfl⟩with h | h
   ·exact h2 h
   ·omega
 ·intro r x h;exact hs r x (R.cshp r x h)
 ·rintro r ⟨k1,o1,h,hmm,hl1,he⟩;rcases hsplit k1 o1 h with⟨rfl,rfl⟩ | ⟨e,h⟩
  ·exact R.clive r ⟨k1,o,hk,hm,hl,he⟩
  ·exact R.clive r ⟨k1,o1,h,hmm,hl1,he⟩
 ·intro k1 o1 h;obtain⟨o2,h2,h3,h4⟩:=R.chp k1 o1 h
  by_cases e:k1=k
  ·subst e;rw[hk]at h2;cases h2;exact⟨o',by simp,O.le_trans h3 hle,fun _=>h4 hl⟩
  ·exact⟨o2,by simp only[zaa _ _ e];exact h2,h3,h4⟩
theorem Rel.kill (R:Rel N c ns A μ lam s a w) {k:Nat} {o:O} (hk:s.heap k=some o):Rel N c ns A μ lam { s with heap:=upd s.heap k (some .dead) } a w:=by
 have E:Evo w A μ s.heap w A μ (upd s.heap k (some .dead)):=by
  refine⟨fun _ _=>rfl,fun _ h=>h,fun k1 o1 h=> ?_,fun _ _ h=>h⟩
  by_cases e:k1=k
  ·subst e;exact⟨.dead,by simp,by cases o1<;>trivial,fun _=>rfl⟩
  ·exact⟨o1,by rw[zaa _ _ e];exact h,O.le_refl o1,fun _=>rfl⟩
 have hback: ∀k1 o1,(upd s.heap k (some .dead)) k1=some o1->o1.live=true->k1≠k/\s.heap k1=some o1:=by
  intro k1 o1 h hl1
  by_cases e:k1=k
  ·subst e;simp at h;subst h;simp[O.live]at hl1
  ·rw[zaa _ _ e]at h;exact⟨e,h⟩
 refine{ R with env:=fun t=>(R.env t).evo E,loc:= ?_,heap:= ?_,hinj:= ?_,lh:= ?_,aH:= ?_,afz:=fun k1 sz rs h=>R.afz k1 sz rs (hback k1 _ h rfl).2,fresh:= ?_,clive:= ?_,chp:= ?_ }
 ·intro t cs h;obtain⟨h1,h2⟩:=R.loc t cs h;exact⟨h1,h2.evo E rfl⟩
 ·intro k1 o1 h
  cases hl1:o1.live with
  | false=>cases o1<;>simp_all [O.live];trivial
  | true=>exact(R.heap k1 o1 (hback k1 o1 h hl1).2).evo E rfl
 ·intro k1 k2 o1 o2 h1 h2 l1 l2 he;exact R.hinj k1 k2 o1 o2 (hback k1 o1 h1 l1).2 (hback k2 o2 h2 l2).2 l1 l2 he
 ·intro t k1 o1 ht h hl1;exact R.lh t k1 o1 ht (hback k1 o1 h hl1).2 hl1
 ·rintro r hAr ⟨k1,o1,h,hmm,hl1,he⟩;exact R.aH r hAr ⟨k1,o1,(hback k1 o1 h hl1).2,hmm,hl1,he⟩
 ·intro k1 h;have:k1≠k:=by rintro rfl;have:=R.fresh k1 h;simp[hk]at this
  simp only[zaa _ _ this];exact R.fresh k1 h
 ·rintro r ⟨k1,o1,h,hmm,hl1,he⟩;exact R.clive r ⟨k1,o1,(hback k1 o1 h hl1).2,hmm,hl1,he⟩
 ·intro k1 o1 h;obtain⟨o2,h2,h3,h4⟩:=R.chp k1 o1 h;obtain⟨o3,h5,h6,h7⟩:=E.hp k1 o2 h2;refine⟨o3,h5,O.le_trans h3 h6,fun hl3=>h4 ?_⟩;have:=hback k1 o3 h5 hl3;rw[this.2]at h2;cases h2;exact hl3
theorem Rel.orphan_kill (R:Rel N c ns A μ lam s a w) {k:Nat} {o:O} (hk:s.heap k=some o) (hl:o.live=true) (hm: ∀sz rs,o≠ .rows sz rs true):
 Orphan c A μ lam { s with heap:=upd s.heap k (some .dead) } (μ k):=by
 refine⟨fun h=>R.aH _ h ⟨k,o,hk,hm,hl,rfl⟩,fun t h=>R.lh t k o h hk hl,fun k1 o1 h hl1 he=> ?_,R.clive _ ⟨k,o,hk,hm,hl,rfl⟩⟩
 by_cases e:k1=k
 ·subst e;simp at h;subst h;simp[O.live]at hl1
 ·simp only[zaa _ _ e]at h;exact e (R.hinj k1 k o1 o h hk hl1 hl he)
theorem Rel.adoptL (R:Rel N c ns A μ lam s a w) (d:Nat) (hd:d<ns) (hu:s.used d=false) {r:Nat} (hr:Orphan c A μ lam s r) {cs:List V}
 (ho:zpl w A N.nm μ s.heap r cs):
 Rel N c ns A μ (upd lam d r) (s.apply (some d) { val:=.lb,loc:=some cs }) (a.put (some d) (.pointer (some ⟨r,0,none⟩))) w:=by
 have hdn:d<a.tmps.size:=by rw[R.size];exact hd
 have h0:s.apply (some d) { val:=.lb,loc:=some cs }= { s with env:=upd s.env d .lb,adr:=upd s.adr d none,loc:=upd s.loc d (some cs) }:=rfl;rw[h0]
 have hsplit: ∀t,((upd s.loc d (some cs)) t).isSome=true->t=d\/(t≠d/\(s.loc t).isSome=true):=by
  intro t h
  by_cases e:t=d
  ·exact .inl e
  ·exact .inr ⟨e,by rwa[zaa _ _ e]at h⟩
 refine{ R with size:=by rw[ziv];exact R.size,defers:=by rw[zfP];exact R.defers,env:= ?_,loc:= ?_,adr:= ?_,linj:= ?_,lh:= ?_,aL:= ?_,cloc:= ?_ }
 ·intro t;rw[zc0 a d t _ hdn]
  by_cases ht:t=d
  ·subst ht;simp[RepV]
  ·simp only[zaa _ _ ht,if_neg ht];exact R.env t
 ·intro t cs' h;rw[zc0 a d t _ hdn]
  by_cases ht:t=d
  ·subst ht;simp only[upd_same,zA]at h;subst h;simp only[upd_same,if_true];exact⟨trivial,ho⟩
  ·simp only[zaa _ _ ht]at h;simp only[zaa _ _ ht,if_neg ht];exact R.loc t cs' h
 ·intro t b o h;rw[zc0 a d t _ hdn]
  by_cases ht:t=d
  ·subst ht;simp at h
  ·simp only[zaa _ _ ht]at h;obtain⟨g1,g2,g3⟩:=R.adr t b o h;have hb:b≠d:=by intro hb;subst hb;simp[hu]at g1
   simp only[zaa _ _ hb,if_neg ht];exact⟨g1,g2,g3⟩
 ·intro t t' g g' he;rcases hsplit t g with rfl | ⟨e,q⟩<;>rcases hsplit t' g' with rfl | ⟨e',q'⟩
  ·rfl
  ·simp only[upd_same,zaa _ _ e']at he;exact absurd he.symm (hr.l t' q')
  ·simp only[upd_same,zaa _ _ e]at he;exact absurd he (hr.l t q)
  ·simp only[zaa _ _ e,zaa _ _ e']at he;exact R.linj t t' q q' he
 ·intro t k o g h hl;rcases hsplit t g with rfl | ⟨e,g⟩
  ·simp only[upd_same];exact fun e=>hr.h k o h hl e.symm
  ·simp only[zaa _ _ e];exact R.lh t k o g h hl
 ·rintro r' hA ⟨t,g,he⟩;rcases hsplit t g with rfl | ⟨e,g⟩
  ·simp only[upd_same]at he;subst he;exact hr.a hA
  ·simp only[zaa _ _ e]at he;exact R.aL r' hA ⟨t,g,he⟩
 ·intro t g;rcases hsplit t g with rfl | ⟨e,g⟩
  ·simp only[upd_same];exact hr.x
  ·simp only[zaa _ _ e];exact R.cloc t g
theorem Rel.changeL (R:Rel N c ns A μ lam s a w) {b:Nat} {cs cs':List V} {w':World} (hb:s.loc b=some cs)
 (hsz:w'.heap.size=w.heap.size) (hother: ∀r,r≠lam b->w'.heap[r]? =w.heap[r]?) (hs: ∀r x,w.shape? r=some x->w'.shape? r=some x)
 (ho:Evo w A μ s.heap w' A μ s.heap->zpl w' A N.nm μ s.heap (lam b) cs') (hov:w'.os=w.os/\w'.output=w.output:=by exact⟨rfl,rfl⟩):
 Rel N c ns A μ lam { s with loc:=upd s.loc b (some cs') } a w':=by
 have hbs:(s.loc b).isSome=true:=by rw[hb];rfl
 have hA: ∀r,A r->r≠lam b:=fun r h e=>R.aL r h ⟨b,hbs,e.symm⟩
 have E:Evo w A μ s.heap w' A μ s.heap:=⟨fun r h=>hother r (hA r h),fun _ h=>h,fun _ o h=>⟨o,h,O.le_refl o,fun _=>rfl⟩,hs⟩
 have hback: ∀t,((upd s.loc b (some cs')) t).isSome=true->(s.loc t).isSome=true:=by
  intro t h
  by_cases e:t=b
  ·subst e;exact hbs
  ·rwa[zaa _ _ e]at h
 have hdf: ∀r:Nat,w.heap[r]? =some (Obj.deferred (some []))->w'.heap[r]? =w.heap[r]? :=fun r h=>hother r (fun e=>R.ndef_loc hbs (e▸h))
 refine{ R with defers:=R.defers.evo hdf (fun _ _ h=>h),env:=fun t=>(R.env t).evo E,loc:= ?_,adr:= ?_,heap:= ?_,linj:= ?_,lh:= ?_,aL:= ?_,alt:= ?_,glob:= ?_,cout:=⟨hov.1.trans R.cout.1,hov.2.trans R.cout.2⟩,csize:= ?_,ckeep:= ?_,cshp:= ?_,cloc:= ?_ }
 ·intro t ds h
  by_cases e:t=b
  ·subst e;simp only[upd_same,zA]at h;subst h;exact⟨(R.loc t cs hb).1,ho E⟩
  ·simp only[zaa _ _ e]at h;obtain⟨h1,h2⟩:=R.loc t ds h;exact⟨h1,h2.evo E (hother _ (fun he=>e (R.linj t b (by rw[h];rfl) hbs he)))⟩
 ·intro t b' o h;obtain⟨g1,g2,g3⟩:=R.adr t b' o h;refine⟨g1,?_,g3⟩
  by_cases e:b'=b
  ·subst e;simp
  ·simp only[zaa _ _ e];exact g2
 ·intro k o h
  cases hl:o.live with
  | false=>cases o<;>simp_all [O.live];trivial
  | true=>exact(R.heap k o h).evo E (hother _ (fun he=>R.lh b k o hbs h hl he.symm))
 ·intro t t' g g';exact R.linj t t' (hback t g) (hback t' g')
 ·intro t k o g;exact R.lh t k o (hback t g)
 ·rintro r hr ⟨t,g,he⟩;exact R.aL r hr ⟨t,hback t g,he⟩
 ·intro r h;rw[hsz];exact R.alt r h
 ·intro g j x h;obtain⟨h1,⟨te,hte⟩,v,hv,hr⟩:=R.glob g j x h;exact⟨h1,⟨te,E.shp _ _ hte⟩,v,by rw[cell?_eq (hother _ (hA _ h1))];exact hv,hr.mono E.blk E.sub⟩
 ·rw[hsz];exact R.csize
 ·intro r h1 h2;rw[hother r ?_]
  ·exact R.ckeep r h1 h2
  ·rintro rfl;rcases R.cloc b hbs with h | h
   ·exact h2 h
   ·omega
 ·intro r x h;exact hs r x (R.cshp r x h)
 ·intro t g;exact R.cloc t (hback t g)
theorem Rel.freeze (R:Rel N c ns A μ lam s a w) {k sz:Nat} {rs:List (List V)} {frz:Bool} (hk:s.heap k=some (.rows sz rs frz)):
 Rel N c ns (fun r=>A r\/r=μ k) μ lam { s with heap:=upd s.heap k (some (.rows sz rs true)) } a w:=by
 have E:Evo w A μ s.heap w (fun r=>A r\/r=μ k) μ (upd s.heap k (some (.rows sz rs true))):=by
  refine⟨fun _ _=>rfl,fun _ h=> .inl h,fun k1 o1 h=> ?_,fun _ _ h=>h⟩
  by_cases e:k1=k
  ·subst e;rw[hk]at h;cases h;exact⟨.rows sz rs true,by simp,⟨rfl,rfl⟩,fun _=>rfl⟩
  ·exact⟨o1,by rw[zaa _ _ e];exact h,O.le_refl o1,fun _=>rfl⟩
 have hsplit: ∀k1 o1,(upd s.heap k (some (.rows sz rs true))) k1=some o1->(k1=k/\o1= .rows sz rs true)\/(k1≠k/\s.heap k1=some o1):=by
  intro k1 o1 h
  by_cases e:k1=k
  ·subst e;simp at h;exact .inl ⟨rfl,h.symm⟩
  ·rw[zaa _ _ e]at h;exact .inr ⟨e,h⟩
 have hback: ∀k1 o1,(upd s.heap k (some (.rows sz rs true))) k1=some o1->o1.live=true-> ∃o2,s.heap k1=some o2/\o2.live=true:=by
  intro k1 o1 h hl1;rcases hsplit k1 o1 h with⟨rfl,rfl⟩ | ⟨_,h⟩
  ·exact⟨_,hk,rfl⟩
  ·exact⟨o1,h,hl1⟩
 have hdf: ∀r:Nat,w.heap[r]? =some (Obj.deferred (some []))->(A r\/r=μ k)->A r:=fun r h h'=>h'.resolve_right (fun e=>R.ndef hk rfl (e▸h))
 refine{ R with defers:=R.defers.evo (fun _ _=>rfl) hdf,env:=fun t=>(R.env t).evo E,loc:= ?_,heap:= ?_,hinj:= ?_,lh:= ?_,aH:= ?_,aL:= ?_,alt:= ?_,afz:= ?_,fresh:= ?_,glob:= ?_,csub:= ?_,canew:= ?_,clive:= ?_,chp:= ?_ }
 ·intro t cs h;obtain⟨h1,h2⟩:=R.loc t cs h;exact⟨h1,h2.evo E rfl⟩
 ·intro k1 o1 h;rcases hsplit k1 o1 h with⟨rfl,rfl⟩ | ⟨e,h⟩
  ·obtain⟨cc,e0,z,h1,h2,h3,h4,h5⟩:=(R.heap k1 _ hk).evo E rfl;exact⟨cc,e0,z,h1,(by simp),h3,h4,h5⟩
  ·exact(R.heap k1 o1 h).evo E rfl
 ·intro k1 k2 o1 o2 h1 h2 l1 l2 he;obtain⟨p1,q1,m1⟩:=hback k1 o1 h1 l1;obtain⟨p2,q2,m2⟩:=hback k2 o2 h2 l2;exact R.hinj k1 k2 p1 p2 q1 q2 m1 m2 he
 ·intro t k1 o1 ht h hl1;obtain⟨p1,q1,m1⟩:=hback k1 o1 h hl1;exact R.lh t k1 p1 ht q1 m1
 ·rintro r hAr ⟨k1,o1,h,hmm,hl1,he⟩;rcases hsplit k1 o1 h with⟨rfl,rfl⟩ | ⟨e,h⟩
  ·exact hmm sz rs rfl
  ·rcases hAr with hAr | rfl
   ·exact R.aH r hAr ⟨k1,o1,h,hmm,hl1,he⟩
   ·exact e (R.hinj k1 k o1 _ h hk hl1 rfl he)
 ·rintro r (hAr | rfl) ⟨t,g,he⟩
  ·exact R.aL r hAr ⟨t,g,he⟩
  ·exact R.lh t k _ g hk rfl he
 ·rintro r (h | rfl)
  ·exact R.alt r h
  ·exact R.lt_live hk rfl
 ·intro k1 sz1 rs1 h;rcases hsplit k1 _ h with⟨rfl,h⟩ | ⟨e,h⟩
  ·exact .inr rfl
  ·exact .inl (R.afz k1 sz1 rs1 h)
 ·intro k1 h;have:k1≠k:=by rintro rfl;have:=R.fresh k1 h;simp[hk]at this
  simp only[zaa _ _ this];exact R.fresh k1 h
 ·intro g j x h;obtain⟨h1,⟨te,hte⟩,v,hv,hr⟩:=R.glob g j x h;exact⟨.inl h1,⟨te,hte⟩,v,hv,hr.mono E.blk E.sub⟩
 ·intro r h;exact .inl (R.csub r h)
 ·rintro r (h | rfl)
  ·exact R.canew r h
  ·cases frz with
   | true=>exact R.canew _ (R.afz k sz rs hk)
   | false=>exact .inr (R.clive _ ⟨k,_,hk,by simp,rfl,rfl⟩)
 ·rintro r ⟨k1,o1,h,hmm,hl1,he⟩;rcases hsplit k1 o1 h with⟨rfl,rfl⟩ | ⟨e,h⟩
  ·exact absurd rfl (hmm sz rs)
  ·exact R.clive r ⟨k1,o1,h,hmm,hl1,he⟩
 ·intro k1 o1 h;obtain⟨o2,h2,h3,h4⟩:=R.chp k1 o1 h;obtain⟨o3,h5,h6,h7⟩:=E.hp k1 o2 h2;refine⟨o3,h5,O.le_trans h3 h6,fun hl3=>h4 ?_⟩;obtain⟨o4,h8,h9⟩:=hback k1 o3 h5 hl3;rw[h8]at h2;cases h2;exact h9
end
end Rg
end
section
namespace Rg
open Go
structure Inv where
 fi:Nat->Option Nat
 gi:Nat->Option Nat
 tB:Option Nat
structure Inv.Ok (I:Inv) (N:Nam):Prop where
 f: ∀f k,I.fi f=some k->N.nm k=f
 g: ∀g k,I.gi g=some k->N.gm k=g/\N.G k≠[]
 b: ∀t,I.tB=some t->N.tB=t
def zhn:Value->Option V
 | .int k n=>some (.t (.int k n))
 | .bool b=>some (.t (.bool b))
 | .string s=>some (.t (.str s))
 | .pointer none=>some (.t .nilp)
 | .slice none 0 0=>some (.t .nils)
 | .map none=>some (.t .nilm)
 | .nilFunc=>some (.t .nilf)
 | .nilIface=>some (.t .nili)
 | _=>none
def cellsOf (v:Value):Option (List V):=v.cells.toList.mapM zhn
def constOf:Value->Option V
 | .agg cs=>(cs.toList.mapM zhn).map V.agg
 | v=>zhn v
section
variable (P:Program) (I:Inv)
def opd:Operand->Option Opd
 | .tmp t=>some (.s t)
 | .const v=>(constOf v).map .c
 | .global g=>(I.gi g).map .g
 | .func f=>(I.fi f).map fun k=> .c (.t (.fn k [] []))
def zhw:Option Operand->Option (Option Opd)
 | none=>some none
 | some x=>(opd I x).map some
def opds (xs:Array Operand):Option (List Opd):=xs.toList.mapM (opd I)
def typ (t:TypeId):Option (Bool×Nat):=
 match P.info? t,P.underlying t with
 | some i,some (.struct _)=>some (true,i.size)
 | some i,some (.array _ _)=>some (true,i.size)
 | some i,some _=>if i.size=1 then some (false,1)else none
 | _,_=>none
def zby (t:TypeId):Option (List V):=
 match P.info? t with
 | some i=>match i.zero with
   | some z=>cellsOf z
   | none=>none
 | none=>none
def zmm (t:TypeId):Option V:=do
 let i<- P.info? t
 let v<- i.zero
 constOf v
def zm3 (isL:Nat->Bool):Operand->Bool
 | .tmp t=>isL t
 | _=>false
def zqk (isL:Nat->Bool):Option Nat->Bool
 | some d=>isL d
 | none=>false
def zbx (t:TypeId):Option Nat:=
 match P.underlying t with
 | some (.int _)=>some 0
 | some .bool=>some 1
 | some .string=>some 2
 | _=>none
def zaD (i:Nat):List Field->Option (List Nat)
 | []=>some []
 | f::fs=>do
   let k<- zbx P f.type
   let ks<- zaD (i+1) fs
   if f.name ≠ "_" /\ f.offset = i /\ typ P f.type = some (false, 1) then some (k :: ks) else none
def plainEq (t:TypeId):Option (List Nat):=
 match P.underlying t with
 | some (.struct fields)=>if P.stoodInHeld t=false/\P.eqGuardType P.depth t=false then zaD P 0 fields.toList else none
 | _=>none
def zbc (i:Nat):List Field->Option (List Nat)
 | []=>some []
 | f::fs=>match zbx P f.type with
   | some k=>do
     let ks<- zbc (i+1) fs
     if f.name ≠ "_" /\ f.offset = i /\ typ P f.type = some (false, 1) then some (k :: ks) else none
   | none=>do
     let k1<- plainEq P f.type
     let ks<- zbc (i+k1.length) fs
     if f.name ≠ "_" /\ f.offset = i /\ typ P f.type = some (true, k1.length) /\ 0 < k1.length then some (k1 ++ ks) else none
def zf8 (t:TypeId):Option (List Nat):=
 match P.underlying t with
 | some (.struct fields)=>if P.stoodInHeld t=false/\P.eqGuardType P.depth t=false then zbc P 0 fields.toList else none
 | _=>none
def zcA (t:TypeId):Option Nat:=
 match zbx P t with
 | some k=>some k
 | none=>(plainEq P t).map fun ks=>3+zeR ks
def zpC (k:Nat):Bool:=k==197
def zoL (t:TypeId):Bool:=
 match(P.info? t).bind (·.zero)with
 | some (.agg cs)=>match cs.toList with
   | [.pointer none,.slice none 0 0]=>true
   | _=>false
 | _=>false
def zaG (isL:Nat->Bool) (dst:Option Nat):Op->Option AOp
 | .move x | .assign x=>(opd I x).map .mv
 | .pick c a b=>do
   let c<- opd I c
   let a<- opd I a
   let b<- opd I b
   some (.pick c a b)
 | .alloc t=>do
   let z<- zby P t
   if I.tB=some t then if zqk isL dst=false/\zoL P t=true then some .allocB else none
   else if zqk isL dst then some (.allocL z)else some (.allocH z)
 | .box t x=>do
   let(_,n)<- typ P t
   let x<- opd I x
   if zqk isL dst then some (.boxL n x)else some (.boxH n x)
 | .build t parts=>do
   let z<- zby P t
   match P.underlying t with
   | some (.struct fields)=>do
     let ps<- parts.toList.mapM fun(i,x)=>do
      let f<- fields[i]?
      let(_,n)<- typ P f.type
      let x<- opd I x
      some (f.offset,n,x)
     if fields.toList.all (fun f=>(typ P f.type).isSome)then some (.build z ps)else none
   | some (.array _ e)=>do
     let(_,n)<- typ P e
     let ps<- parts.toList.mapM fun(i,x)=>do
      let x<- opd I x
      some (i*n,n,x)
     some (.build z ps)
   | _=>none
 | .buildSlice t len parts=>do
   match P.underlying t with
   | some (.slice e)=>do
     let(_,n)<- typ P e
     let z<- zby P e
     let ps<- parts.toList.mapM fun(i,x)=>do
      let x<- opd I x
      some (i,x)
     if len*n<=2^24/\0<n/\z.length=n then some (.bslice n len z ps)else none
   | _=>none
 | .load t a=>do
   let(ag,n)<- typ P t
   let x<- opd I a
   if zm3 isL a then some (.loadL ag n x)else some (.load ag n x)
 | .store t a v=>do
   let(_,n)<- typ P t
   let x<- opd I a
   let v<- opd I v
   if dst.isSome then none else if zm3 isL a then some (.storeL n x v)else some (.store n x v)
 | .nilCheck x=>(opd I x).map .nilchk
 | .binOp op t x y _=>do
   let a<- opd I x
   let b<- opd I y
   match P.underlying t with
   | some (.int _)=>some (.bin op a b)
   | some .string=>some (.bin op a b)
   | some .bool=>match op with
     | .eql=>some (.eqb false a b)
     | .neq=>some (.eqb true a b)
     | _=>none
   | some (.struct _)=>do
     let n<- zf8 P t
     match op with
     | .eql=>some (.eqa false n a b)
     | .neq=>some (.eqa true n a b)
     | _=>none
   | _=>none
 | .unOp op _ x=>(opd I x).map (.un op)
 | .convert src dst x=>do
   let a<- opd I x
   match P.underlying src,P.underlying dst with
   | some (.int _),some (.int k)=>some (.conv k a)
   | some (.slice e),some .string=>match P.underlying e with
     | some (.int .u8)=>some (.bstr a)
     | _=>none
   | _,_=>none
 | .makeFunc (.func f) first cap=>do
   let k<- I.fi f
   let a<- opds I first
   let b<- opds I cap
   match zpC k,a,b with
   | true,[],[x]=>some (.mkfnT k x)
   | _,_,_=>some (.mkfn k a b)
 | .makeSlice t l c=>do
   match P.underlying t with
   | some (.slice e)=>do
     let(_,n)<- typ P e
     let z<- zby P e
     let i<- P.info? e
     let l<- opd I l
     let c<- opd I c
     if 0<n/\z.length=n then some (.mkslice n i.bytes z l c)else none
   | _=>none
 | .slice t x lo hi mx=>do
   let a<- opd I x
   let l<- zhw I lo
   let h<- zhw I hi
   let m<- zhw I mx
   match P.underlying t with
   | some (.slice e)=>do
     let(_,n)<- typ P e
     some (.slice n a l h m)
   | some .string=>if m.isNone then some (.slstr a l h)else none
   | _=>none
 | .fieldAddr t x f=>do
   let a<- opd I x
   match P.underlying t with
   | some (.struct fields)=>do
     let f<- fields[f]?
     let(_,n)<- typ P f.type
     if 0<n then if zm3 isL x then some (.faddrL f.offset a)else some (.faddr f.offset a)
     else none
   | _=>none
 | .field t x f=>do
   let a<- opd I x
   match P.underlying t with
   | some (.struct fields)=>do
     let f<- fields[f]?
     let(ag,n)<- typ P f.type
     some (.field ag f.offset n a)
   | _=>none
 | .indexAddr t x i=>do
   let a<- opd I x
   let j<- opd I i
   match P.underlying t with
   | some (.slice e)=>do
     let(_,n)<- typ P e
     some (.iaddrS n a j)
   | some (.array len e)=>do
     let(_,n)<- typ P e
     if zm3 isL x then some (.iaddrAL len n a j)else some (.iaddrA len n a j)
   | _=>none
 | .index t x i=>do
   let a<- opd I x
   let j<- opd I i
   match P.underlying t with
   | some (.array len e)=>do
     let(ag,n)<- typ P e
     some (.idxA ag len n a j)
   | some .string=>some (.idxS a j)
   | _=>none
 | .extract x i=>do
   let a<- opd I x
   some (.extr a i)
 | .makeMap t r=>do
   match P.underlying t,r with
   | some (.map _ _),none=>some .mkmap
   | some (.map _ _),some (.const (.int _ _))=>some .mkmap
   | _,_=>none
 | .lookup t x y ok=>do
   let a<- opd I x
   let b<- opd I y
   match P.underlying t with
   | some (.map kt et)=>do
     let kd<- zcA P kt
     let z<- zmm P et
     some (.lookup kd z ok a b)
   | _=>none
 | .mapUpdate t x y v=>do
   let a<- opd I x
   let b<- opd I y
   let u<- opd I v
   match P.underlying t with
   | some (.map kt _)=>do
     let kd<- zcA P kt
     if dst.isSome then none else some (.mapupd kd a b u)
   | _=>none
 | .insert t x y v=>do
   let a<- opd I x
   let b<- opd I y
   let u<- opd I v
   match P.underlying t with
   | some (.map kt _)=>do
     let kd<- zcA P kt
     if dst.isSome then none else some (.mapupd kd a b u)
   | _=>none
 | .call c=>do
   match c.callee with
   | .value _=>none
   | .builtin .len=>do
     match c.argTypes.toList,c.args.toList with
     | [t],[x]=>match P.underlying t with
       | some (.slice _)=>(opd I x).map .len
       | some .string=>(opd I x).map .slen
       | some (.array n _)=>some (.lenA n)
       | _=>none
     | _,_=>none
   | .builtin .append=>do
     match c.argTypes.toList,c.args.toList with
     | [t,u],[x,y]=>do
       let a<- opd I x
       let b<- opd I y
       match P.underlying t,P.underlying u with
       | some (.slice e),some (.slice _)=>do
         let(_,n)<- typ P e
         let i<- P.info? e
         let z<- zby P e
         if 0<n/\z.length=n then some (.append n i.bytes a b)else none
       | _,_=>none
     | _,_=>none
   | .builtin .copy=>do
     match c.argTypes.toList,c.args.toList with
     | [t,_],[x,y]=>do
       let a<- opd I x
       let b<- opd I y
       match P.underlying t with
       | some (.slice e)=>do
         let(_,n)<- typ P e
         if 0<n then some (.copy n a b)else none
       | _=>none
     | _,_=>none
   | .builtin .max=>do
     match c.argTypes.toList,c.args.toList with
     | [_,_],[x,y]=>do
       let a<- opd I x
       let b<- opd I y
       some (.mx false a b)
     | _,_=>none
   | .builtin .min=>do
     match c.argTypes.toList,c.args.toList with
     | [_,_],[x,y]=>do
       let a<- opd I x
       let b<- opd I y
       some (.mx true a b)
     | _,_=>none
   | .builtin .clear=>do
     match c.argTypes.toList,c.args.toList with
     | [t],[x]=>do
       let a<- opd I x
       match P.underlying t with
       | some (.slice e)=>do
         let(_,n)<- typ P e
         let z<- zby P e
         if 0<n/\z.length=n then some (.clear n z a)else none
       | _=>none
     | _,_=>none
   | _=>none
 | _=>none
end
end Rg
end
section
namespace Rg
open Go
theorem za1 (r o n:Nat):(⟨r,o,none⟩:Addr).add n=⟨r,o+n,none⟩:=by
 unfold Addr.add;split<;>simp_all
theorem RepV.t_inv {w:World} {A:Nat->Prop} {nm μ:Nat->Nat} {H:Nat->Option O} {v:Value} {x:T} (h:RepV w A nm μ H v (.t x)):RepT w A nm v x:=by
 cases(h:RepC w A nm μ H v (.t x));assumption
theorem RepV.int_inv {w:World} {A:Nat->Prop} {nm μ:Nat->Nat} {H:Nat->Option O} {v:Value} {k:IntKind} {n:Int} (h:RepV w A nm μ H v (.t (.int k n))):v= .int k n:=by
 cases h.t_inv;rfl
theorem RepV.bool_inv {w:World} {A:Nat->Prop} {nm μ:Nat->Nat} {H:Nat->Option O} {v:Value} {b:Bool} (h:RepV w A nm μ H v (.t (.bool b))):v= .bool b:=by
 cases h.t_inv;rfl
theorem RepV.str_inv {w:World} {A:Nat->Prop} {nm μ:Nat->Nat} {H:Nat->Option O} {v:Value} {b:ByteArray} (h:RepV w A nm μ H v (.t (.str b))):v= .string b:=by
 cases h.t_inv;rfl
theorem cellOf_rep {w:World} {A:Nat->Prop} {nm μ:Nat->Nat} {H:Nat->Option O} {v:Value} {x:V} (h:zhn v=some x):RepC w A nm μ H v x:=by
 unfold zhn at h
 split at h<;>first
  | (simp at h;done)
  | (simp only[zA]at h;subst h;exact .t (by constructor))
theorem zaw {α β:Type} {f:α->Option β}: ∀{l:List α} {r:List β},l.mapM f=some r->l.length=r.length/\ ∀(i:Nat) (y:β),r[i]? =some y-> ∃x,l[i]? =some x/\f x=some y
 | [],r,h=>by simp at h;subst h;simp
 | x::l,r,h=>by
   simp only[List.mapM_cons,zC,zB,Option.pure_def,zA]at h;obtain⟨y,hy,ys,hys,rfl⟩:=h;obtain⟨h1,h2⟩:=zaw hys;refine⟨by simp[h1],fun i z hz=> ?_⟩
   cases i with
   | zero=>simp at hz;subst hz;exact⟨x,rfl,hy⟩
   | succ i=>simp at hz;simpa using h2 i z hz
theorem cellsOf_rep {w:World} {A:Nat->Prop} {nm μ:Nat->Nat} {H:Nat->Option O} {v:Value} {cs:List V} (h:cellsOf v=some cs):
 zct w A nm μ H v.cells.toList cs:=by
 obtain⟨h1,h2⟩:=zaw h;exact⟨h1,fun i c hi=>let⟨x,hx,hf⟩:=h2 i c hi;⟨x,hx,cellOf_rep hf⟩⟩
theorem zie {w:World} {A:Nat->Prop} {nm μ:Nat->Nat} {H:Nat->Option O} {v:Value} {x:V} (h:constOf v=some x):RepV w A nm μ H v x:=by
 unfold constOf at h;split at h
 ·simp only[zE]at h;obtain⟨cs,hcs,rfl⟩:=h;obtain⟨h1,h2⟩:=zaw hcs;exact⟨_,rfl,h1,fun i c hi=>let⟨x,hx,hf⟩:=h2 i c hi;⟨x,hx,cellOf_rep hf⟩⟩
 ·exact(cellOf_rep h).toV
section
variable {P:Program} {N:Nam} {I:Inv} {c:Ctx} {ns:Nat} {A:Nat->Prop} {μ lam:Nat->Nat} {s:St} {a:Act} {w:World}
theorem opd_eval (hI:I.Ok N) (R:Rel N c ns A μ lam s a w) {x:Operand} {y:Opd} {v:V} (hx:opd I x=some y) (hv:evl N.G s y=some v):
 RepV w A N.nm μ s.heap (a.eval x) v:=by
 cases x with
 | tmp t=>
   simp only[opd,zA]at hx;subst hx;have he:=R.env t;simp only[evl]at hv;split at hv<;>first | (simp at hv;done) | skip
   simp only[zA]at hv;subst hv
   exact he
 | const v0=>
   simp only[opd,zE]at hx;obtain⟨x0,h0,rfl⟩:=hx;simp only[evl,zA]at hv;subst hv
   exact zie h0
 | global g=>
   simp only[opd,zE]at hx;obtain⟨k,h0,rfl⟩:=hx;simp only[evl,zA]at hv;subst hv;obtain⟨rfl,hne⟩:=hI.g g k h0
   have hA:A (N.gm k):=by
    cases hG:N.G k with
    | nil=>exact absurd hG hne
    | cons x l=>exact(R.glob k 0 x (by simp[hG])).1
   show RepC w A N.nm μ s.heap _ _;refine .t (.ip (N.gm k) 0 (N.G k) (fun j=>(w.cell? ⟨N.gm k,0+j,none⟩).getD undef) hA ?_ ?_)
   ·intro j x hj;obtain⟨_,_,v,hv,_⟩:=R.glob k j x hj;simp[hv]
   ·intro j x hj;obtain⟨_,_,v,hv,hr⟩:=R.glob k j x hj
    simpa[hv]using hr
 | func f=>
   simp only[opd,zE]at hx;obtain⟨k,h0,rfl⟩:=hx;simp only[evl,zA]at hv;subst hv;have:=hI.f f k h0;subst this;show RepC w A N.nm μ s.heap _ _;exact .t (.fn k [] [] #[] #[] (fun _=>undef) (fun _=>undef) rfl rfl (by simp) (by simp) (by simp) (by simp))
theorem ref_eval (R:Rel N c ns A μ lam s a w) {x:Operand} {y:Opd} {b o:Nat} {cs:List V} (hx:opd I x=some y) (hr:refL s y=some (b,o)) (hb:s.loc b=some cs):
 a.eval x= .pointer (some ⟨lam b,o,none⟩):=by
 cases x with
 | tmp t=>
   simp only[opd,zA]at hx;subst hx;simp only[refL]at hr;split at hr
   ·rename_i r hadr;simp only[zA]at hr;subst hr;exact(R.adr t b o hadr).2.2
   ·split at hr<;>first | (simp at hr;done) | skip
    simp only[zA,Prod.mk.injEq]at hr;obtain⟨rfl,rfl⟩:=hr
    exact(R.loc t cs hb).1
 | const v0=>
   simp only[opd,zE]at hx;obtain⟨_,_,rfl⟩:=hx
   simp[refL]at hr
 | global g=>
   simp only[opd,zE]at hx;obtain⟨_,_,rfl⟩:=hx
   simp[refL]at hr
 | func f=>
   simp only[opd,zE]at hx;obtain⟨_,_,rfl⟩:=hx;simp[refL]at hr
theorem zbq (hI:I.Ok N) (R:Rel N c ns A μ lam s a w) {x:Operand} {y:Opd} {n:Int} (hx:opd I x=some y) (hv:zb6 N.G s y=some n):
 ∃k,a.eval x= .int k n:=by
 unfold zb6 at hv;split at hv<;>first | (simp at hv;done) | skip
 rename_i k m he;simp only[zA]at hv;subst hv;exact⟨_,(opd_eval hI R hx he).int_inv⟩
theorem bool_eval (hI:I.Ok N) (R:Rel N c ns A μ lam s a w) {x:Operand} {y:Opd} {b:Bool} (hx:opd I x=some y) (hv:zv9 N.G s y=some b):
 a.eval x= .bool b:=by
 unfold zv9 at hv;split at hv<;>first | (simp at hv;done) | skip
 rename_i m he;simp only[zA]at hv;subst hv;exact(opd_eval hI R hx he).bool_inv
end
theorem zdp {P:Program} {w:World} {t:TypeId} {i:TypeInfo} (h:P.info? t=some i):(typeInfo t).run P w= .ok i w:=by
 simp[typeInfo,h]
theorem zam {P:Program} {w:World} {t:TypeId} {i:TypeInfo} (h:P.info? t=some i):(Go.sizeOf t).run P w= .ok i.size w:=by
 simp[Go.sizeOf,zdp h]
theorem zag {P:Program} {w:World} {t:TypeId} {d:TypeDesc} (h:P.underlying t=some d):(underlying t).run P w= .ok d w:=by
 simp[underlying,h]
theorem zaI {P:Program} {t:TypeId} {ag:Bool} {n:Nat} (h:typ P t=some (ag,n)):
 ∃i,P.info? t=some i/\i.size=n/\(ag=false->n=1)/\ ∀w,(isAgg t).run P w= .ok ag w:=by
 unfold typ at h;split at h
 ·rename_i i fs h1 h2;simp only[zA,Prod.mk.injEq]at h;obtain⟨rfl,rfl⟩:=h;exact⟨i,h1,rfl,by simp,fun w=>by simp[isAgg,zag h2]⟩
 ·rename_i i l e h1 h2;simp only[zA,Prod.mk.injEq]at h;obtain⟨rfl,rfl⟩:=h;exact⟨i,h1,rfl,by simp,fun w=>by simp[isAgg,zag h2]⟩
 ·rename_i i d h2 h3 h1 h4;split at h
  ·rename_i hs;simp only[zA,Prod.mk.injEq]at h;obtain⟨rfl,rfl⟩:=h;refine⟨i,h1,hs,by simp,fun w=> ?_⟩;simp only[isAgg,Sem.run_bind,zag h4,Result.andThen_ok];cases d<;>simp_all
  ·simp at h
 ·simp at h
def wrapV (ag:Bool) (vs:List Value):Value:=if ag then .agg vs.toArray else vs.headD undef
theorem zbH {P:Program} {w:World} {t:TypeId} {ag:Bool} {n:Nat} (h:typ P t=some (ag,n)) (r off:Nat) (vs:List Value) (hl:vs.length=n)
 (hv: ∀(j:Nat) (v:Value),vs[j]? =some v->w.cell? ⟨r,off+j,none⟩=some v):(loadVar t ⟨r,off,none⟩).run P w= .ok (wrapV ag vs) w:=by
 obtain⟨i,h1,rfl,h3,h4⟩:=zaI h
 cases ag with
 | true=>
   have hload:=run_loadCells_list (P:=P) (w:=w) ⟨r,off,none⟩ vs (fun j v hj=>by rw[za1];exact hv j v hj);rw[hl]at hload
   simp[loadVar,h4 w,zam h1,hload,wrapV]
 | false=>
   have hn:vs.length=1:=by rw[hl,h3 rfl]
   match vs,hn with
   | [v],_=>
     have:=hv 0 v rfl;simp only[Nat.add_zero]at this;simp[loadVar,h4 w,this,wrapV]
section
variable {w:World} {A:Nat->Prop} {nm μ:Nat->Nat} {H:Nat->Option O}
theorem zct.rd {vs:List Value} {cs r:List V} {off n:Nat} (h:zct w A nm μ H vs cs) (hr:rd cs off n=some r):
 zct w A nm μ H ((vs.drop off).take n) r/\off+n<=vs.length/\r.length=n:=by
 unfold Rg.rd at hr;split at hr
 ·rename_i hle;simp only[zA]at hr;subst hr;refine⟨⟨by simp[h.1],fun i c hi=> ?_⟩,by rw[h.1];exact hle,by simp;omega⟩;simp only[List.getElem?_take,List.getElem?_drop]at hi⊢;split at hi
  ·rename_i hin;obtain⟨v,hv,hrep⟩:=h.2 _ c hi;exact⟨v,by simp[hin,hv],hrep⟩
  ·simp at hi
 ·simp at hr
theorem zct.wrap1 {vs:List Value} {r:List V} {ag:Bool} {v:V} (h:zct w A nm μ H vs r) (hw:wrapAg ag r=some v):RepV1 w A nm μ H (wrapV ag vs) v:=by
 cases ag with
 | true=>
   simp only[wrapAg,if_true,zA]at hw;subst hw
   exact⟨_,rfl,by simpa using h⟩
 | false=>
   simp only[wrapAg,zG,if_false]at hw;split at hw
   ·simp only[zA]at hw;subst hw;rename_i x;obtain⟨u,hu,hr⟩:=h.2 0 x rfl
    match vs,h.1,hu with
    | [u'],_,hu=>simp at hu;subst hu;simpa[wrapV]using hr.toV1
   ·simp at hw
theorem zct.wrap {vs:List Value} {r:List V} {ag:Bool} {v:V} (h:zct w A nm μ H vs r) (hw:wrapAg ag r=some v):RepV w A nm μ H (wrapV ag vs) v:=(h.wrap1 hw).toV
end
end Rg
end
section
namespace Rg
open Go
def Plain (e:Eff):Prop:=e.adr=none/\e.loc=none/\e.wloc=none/\e.hp=[]
def zbj (N:Nam) (A:Nat->Prop) (μ:Nat->Nat) (s:St) (w:World) (r:Result Value) (e:Eff):Prop:=
 ∃v,r= .ok v w/\RepV w A N.nm μ s.heap v e.val/\Plain e
section
variable {P:Program} {N:Nam} {I:Inv} {c:Ctx} {ns p:Nat} {A:Nat->Prop} {μ lam:Nat->Nat} {s:St} {a:Act} {w:World} {e:Eff}
theorem RepV.ip_inv {w:World} {A:Nat->Prop} {nm μ:Nat->Nat} {H:Nat->Option O} {v:Value} {cs:List T} (h:RepV w A nm μ H v (.t (.ip cs))):
 ∃(r off:Nat) (vf:Nat->Value),v= .pointer (some ⟨r,off,none⟩)/\A r/\(∀(j:Nat) (x:T),cs[j]? =some x->w.cell? ⟨r,off+j,none⟩=some (vf j))/\(∀(j:Nat) (x:T),cs[j]? =some x->RepT w A nm (vf j) x):=by
 cases h.t_inv with
 | ip r off _ vf hA hv hr=>exact⟨r,off,vf,rfl,hA,hv,hr⟩
theorem RepV.mp_inv {w:World} {A:Nat->Prop} {nm μ:Nat->Nat} {H:Nat->Option O} {v:Value} {k i off sz:Nat} {rs:List (List V)} {frz:Bool}
 (h:RepV w A nm μ H v (.mp k i off)) (hk:H k=some (.rows sz rs frz)):v= .pointer (some ⟨μ k,i*sz+off,none⟩)/\i<rs.length:=by
 cases(h:RepC w A nm μ H v (.mp k i off))with
 | mp _ _ _ sz' rs' frz' hk' hi=>rw[hk]at hk';cases hk';exact⟨rfl,hi⟩
 | mb _ _ hk'=>rw[hk]at hk';cases hk'
 | dmp _ _ _ hk'=>rw[hk]at hk';cases hk'
theorem RepV.agg_inv {w:World} {A:Nat->Prop} {nm μ:Nat->Nat} {H:Nat->Option O} {v:Value} {cs:List V} (h:RepV w A nm μ H v (.agg cs)):
 ∃vs,v= .agg vs/\zct w A nm μ H vs.toList cs:=h
theorem zgK (R:Rel N c ns A μ lam s a w) {k sz i:Nat} {rs:List (List V)} {frz:Bool} {row:List V} (hk:s.heap k=some (.rows sz rs frz)) (hrow:rs[i]? =some row):
 ∃vs:List Value,zct w A N.nm μ s.heap vs row/\ ∀(j:Nat) (v:Value),vs[j]? =some v->w.cell? ⟨μ k,i*sz+j,none⟩=some v:=by
 obtain⟨cc,e0,z,h1,h2,h3,h4,h5⟩:=R.heap k _ hk;have hi:i<rs.length:=(zH.1 hrow).1;have hrl:=h4 i row hrow
 have hle:i*sz+sz<=cc.size:=by
  have:(i+1)*sz<=rs.length*sz:=Nat.mul_le_mul_right _ hi;rw[Nat.succ_mul]at this;omega
 refine⟨(cc.toList.drop (i*sz)).take sz,⟨by simp;omega,fun j x hj=> ?_⟩,fun j v hj=> ?_⟩
 ·have hjl:j<row.length:=(zH.1 hj).1;obtain⟨v,hv,hr⟩:=h5 i row j x hrow hj;refine⟨v,?_,hr⟩;simp only[List.getElem?_take,List.getElem?_drop,Array.getElem?_toList];rw[if_pos (by omega)];exact hv
 ·simp only[List.getElem?_take,List.getElem?_drop,Array.getElem?_toList]at hj;split at hj
  ·simp[World.cell?,h1,hj]
  ·simp at hj
theorem ztC (hI:I.Ok N) (R:Rel N c ns A μ lam s a w) {x:Operand} {y:Opd} (hx:opd I x=some y) (he:zv7 N.G p s (.mv y)=some e):
 RepV w A N.nm μ s.heap (a.eval x) e.val/\Plain e:=by
 simp only[zv7,zC,zB,zA]at he;obtain⟨v,hv,rfl⟩:=he;exact⟨opd_eval hI R hx hv,rfl,rfl,rfl,rfl⟩
theorem zpJ (hI:I.Ok N) (R:Rel N c ns A μ lam s a w) {xc xa xb:Operand} {yc ya yb:Opd} (hc:opd I xc=some yc) (ha:opd I xa=some ya) (hb:opd I xb=some yb)
 (he:zv7 N.G p s (.pick yc ya yb)=some e): ∃t,a.eval xc= .bool t/\RepV w A N.nm μ s.heap (if t then a.eval xa else a.eval xb) e.val/\Plain e:=by
 simp only[zv7,zC,zB,zA]at he;obtain⟨t,ht,v,hv,rfl⟩:=he;refine⟨t,bool_eval hI R hc ht,?_,rfl,rfl,rfl,rfl⟩;cases t
 ·exact opd_eval hI R hb hv
 ·exact opd_eval hI R ha hv
theorem s_loadL (R:Rel N c ns A μ lam s a w) {x:Operand} {y:Opd} {t:TypeId} {ag:Bool} {n:Nat} (hx:opd I x=some y) (ht:typ P t=some (ag,n))
 (he:zv7 N.G p s (.loadL ag n y)=some e):zbj N A μ s w ((Instr.loadAt t (a.eval x)).run P w) e:=by
 simp only[zv7,zC,zB,zA,Prod.exists]at he;obtain⟨b,o,hr,cs,hb,r,hrd,v,hw,rfl⟩:=he;obtain⟨_,cc,e0,h1,h2⟩:=R.loc b cs hb;obtain⟨h3,h4,h5⟩:=h2.rd hrd;refine⟨wrapV ag ((cc.toList.drop o).take n),?_,h3.wrap hw,rfl,rfl,rfl,rfl⟩
 have hl:=zbH (w:=w) ht (lam b) o ((cc.toList.drop o).take n) (by simp at h4⊢;omega) (fun j v hj=>by
  simp only[List.getElem?_take,List.getElem?_drop,Array.getElem?_toList]at hj;split at hj
  ·simp[World.cell?,h1,hj]
  ·simp at hj)
 simp[Instr.loadAt,ref_eval R hx hr hb,Instr.sureAddr,hl]
theorem s_load (hI:I.Ok N) (R:Rel N c ns A μ lam s a w) {x:Operand} {y:Opd} {t:TypeId} {ag:Bool} {n:Nat} (hx:opd I x=some y) (ht:typ P t=some (ag,n))
 (he:zv7 N.G p s (.load ag n y)=some e):zbj N A μ s w ((Instr.loadAt t (a.eval x)).run P w) e:=by
 simp only[zv7,zC,zB]at he;obtain⟨u,hu,he⟩:=he;have hrep:=opd_eval hI R hx hu;split at he
 ·rename_i k i off;split at he
  ·rename_i sz rs frz hk;simp only[zB,zA]at he;obtain⟨row,hrow,r,hrd,v,hw,rfl⟩:=he;obtain⟨hv,_⟩:=RepV.mp_inv hrep hk;obtain⟨vs,h1,h2⟩:=zgK R hk hrow;obtain⟨h3,h4,h5⟩:=h1.rd hrd;refine⟨wrapV ag ((vs.drop off).take n),?_,h3.wrap hw,rfl,rfl,rfl,rfl⟩
   have hl:=zbH (w:=w) ht (μ k) (i*sz+off) ((vs.drop off).take n) (by simp;omega) (fun j v hj=>by
    simp only[List.getElem?_take,List.getElem?_drop]at hj;split at hj
    ·rw[Nat.add_assoc];exact h2 _ v hj
    ·simp at hj)
   simp[Instr.loadAt,hv,Instr.sureAddr,hl]
  ·simp at he
 ·rename_i cs;simp only[zB,zA]at he;obtain⟨r,hrd,v,hw,rfl⟩:=he;obtain⟨r0,off,vf,hv,hA,h1,h2⟩:=RepV.ip_inv hrep
  have h3:zct w A N.nm μ s.heap ((List.range cs.length).map vf) (cs.map V.t):=by
   refine⟨by simp,fun j x hj=> ?_⟩;simp only[zJ,zE]at hj;obtain⟨y,hy,rfl⟩:=hj;have hjl:j<cs.length:=(zH.1 hy).1;exact⟨vf j,by simp[hjl],.t (h2 j y hy)⟩
  have hrd':rd (cs.map V.t) 0 n=some (r.map V.t):=by
   unfold rd at hrd⊢;split at hrd
   ·rename_i hle;simp only[zA]at hrd;subst hrd;rw[if_pos (by simpa using hle)];simp
   ·simp at hrd
  obtain⟨h4,h5,h6⟩:=h3.rd hrd';refine⟨wrapV ag ((((List.range cs.length).map vf).drop 0).take n),?_,h4.wrap hw,rfl,rfl,rfl,rfl⟩
  have hl:=zbH (w:=w) ht r0 off ((((List.range cs.length).map vf).drop 0).take n) (by simp at h5⊢;omega) (fun j v hj=>by
   simp only[List.drop_zero,List.getElem?_take]at hj;split at hj
   ·rename_i hjn;simp only[zJ,zE]at hj;obtain⟨j',hj',rfl⟩:=hj
    have:j<cs.length:=by
     have:=(zH.1 hj').1;simpa using this
    simp only[List.getElem?_range this,zA]at hj';subst hj';exact h1 j _ (zI this)
   ·simp at hj)
  simp only[Instr.loadAt,hv,Instr.sureAddr,Sem.run_bind,Sem.run_pure,Result.andThen_ok,hl]
 ·simp at he
end
end Rg
end
section
namespace Rg
open Go
theorem zoj {P:Program} {w:World} {A:Nat->Prop} {nm:Nat->Nat} {op:BinOp} {x y r:T} {v u:Value} (h:binT op x y=some r) (hx:RepT w A nm v x) (hy:RepT w A nm u y)
 (t:TypeId) (xo yo:Operand): ∃z,(do eqGuard op t xo yo v u;binOp op t v u:Sem Value).run P w= .ok z w/\RepT w A nm z r:=by
 cases hx<;>(try(simp[binT]at h;done))<;>cases hy<;>(try(simp[binT]at h;done))
 ·rename_i k m k' n;simp only[binT]at h;cases op<;>simp only at h
  case shl=>
   split at h
   ·simp at h
   ·rename_i hn;simp only[zA]at h;subst h;exact⟨_,by simp[eqGuard,binOp,Op.shift,hn],.int _ _⟩
  case shr=>
   split at h
   ·simp at h
   ·rename_i hn;simp only[zA]at h;subst h;exact⟨_,by simp[eqGuard,binOp,Op.shift,hn],.int _ _⟩
  case quo=>
   split at h
   ·rename_i hk;subst hk;split at h
    ·simp at h
    ·rename_i hn;simp only[zA]at h;subst h;exact⟨_,by simp[eqGuard,binOp,Op.intDiv,hn],.int _ _⟩
   ·simp at h
  case rem=>
   split at h
   ·rename_i hk;subst hk;split at h
    ·simp at h
    ·rename_i hn;simp only[zA]at h;subst h;exact⟨_,by simp[eqGuard,binOp,Op.intDiv,hn],.int _ _⟩
   ·simp at h
  case add | sub | mul=>
   split at h
   ·rename_i hk;subst hk;simp only[zA]at h;subst h;exact⟨_,by simp[eqGuard,binOp,Op.intArith],.int _ _⟩
   ·simp at h
  case and | or | xor | andNot=>
   split at h
   ·rename_i hk;subst hk;simp only[zA]at h;subst h;refine⟨_,?_,.int _ _⟩;simp only[eqGuard,binOp,Op.intBits];simp
   ·simp at h
  all_goals
   split at h
   ·rename_i hk;subst hk;simp only[zA]at h;subst h;exact⟨_,by simp[eqGuard,binOp,Op.intCmp],.bool _⟩
   ·simp at h
 ·rename_i b c;simp only[binT]at h;cases op<;>simp only at h<;>(try(simp at h;done))
  case add=>
   split at h
   ·rename_i hle;simp only[zA]at h;subst h;refine⟨_,?_,.str _⟩
    have : ¬((b.size+c.size:Nat):Int)>IntKind.i64.max:=by
     have:IntKind.i64.max=9223372036854775807:=by decide
     omega
    simp only[eqGuard,binOp,Op.stringOp];simp;omega
   ·simp at h
  all_goals
   simp only[zA]at h;subst h;exact⟨_,by simp[eqGuard,binOp,Op.stringOp],.bool _⟩
section
variable {P:Program} {N:Nam} {I:Inv} {c:Ctx} {ns p:Nat} {A:Nat->Prop} {μ lam:Nat->Nat} {s:St} {a:Act} {w:World} {e:Eff}
theorem s_bin (hI:I.Ok N) (R:Rel N c ns A μ lam s a w) {x y:Operand} {x' y':Opd} {op:BinOp} (hx:opd I x=some x') (hy:opd I y=some y')
 (he:zv7 N.G p s (.bin op x' y')=some e) (t:TypeId):
 zbj N A μ s w ((do eqGuard op t x y (a.eval x) (a.eval y);binOp op t (a.eval x) (a.eval y):Sem Value).run P w) e:=by
 simp only[zv7,zC,zB]at he;obtain⟨u,hu,v,hv,he⟩:=he;split at he
 ·rename_i b d;simp only[zB,zA]at he;obtain⟨r,hr,rfl⟩:=he;obtain⟨z,hz,hrep⟩:=zoj (P:=P) hr (opd_eval hI R hx hu).t_inv (opd_eval hI R hy hv).t_inv t x y;exact⟨z,hz,(RepC.t hrep).toV,rfl,rfl,rfl,rfl⟩
 ·simp at he
theorem s_mx (hI:I.Ok N) (R:Rel N c ns A μ lam s a w) {x y:Operand} {x' y':Opd} {mn:Bool} (hx:opd I x=some x') (hy:opd I y=some y')
 (he:zv7 N.G p s (.mx mn x' y')=some e) (ts:Array TypeId) (t:TypeId):
 zbj N A μ s w ((if mn then Builtin.min_ ts t #[a.eval x,a.eval y]else Builtin.max_ ts t #[a.eval x,a.eval y]:Sem Value).run P w) e:=by
 simp only[zv7,zC,zB]at he;obtain⟨u,hu,v,hv,he⟩:=he;split at he
 ·rename_i b d;simp only[zB,zA]at he;obtain⟨r,hr,rfl⟩:=he;have h1:=(opd_eval hI R hx hu).t_inv;have h2:=(opd_eval hI R hy hv).t_inv;unfold mxT at hr;split at hr
  ·rename_i k m k' m';split at hr
   ·rename_i hk;subst hk;simp only[zA]at hr;subst hr
    generalize a.eval x=vx at h1
    generalize a.eval y=vy at h2
    cases h1;cases h2;cases mn
    ·exact⟨_,by simp[Builtin.max_,Builtin.max2],(RepC.t (.int _ _)).toV,rfl,rfl,rfl,rfl⟩
    ·exact⟨_,by simp[Builtin.min_,Builtin.min2],(RepC.t (.int _ _)).toV,rfl,rfl,rfl,rfl⟩
   ·simp at hr
  ·simp at hr
 ·simp at he
theorem s_eqb (hI:I.Ok N) (R:Rel N c ns A μ lam s a w) {x y:Operand} {x' y':Opd} {op:BinOp} {neg:Bool} (hx:opd I x=some x') (hy:opd I y=some y')
 (he:zv7 N.G p s (.eqb neg x' y')=some e) {t:TypeId} (ht:P.underlying t=some .bool) (hop:op=if neg then .neq else .eql):
 zbj N A μ s w ((do eqGuard op t x y (a.eval x) (a.eval y);binOp op t (a.eval x) (a.eval y):Sem Value).run P w) e:=by
 simp only[zv7,zC,zB,zA]at he;obtain⟨b,hb,d,hd,rfl⟩:=he;rw[bool_eval hI R hx hb,bool_eval hI R hy hd];subst hop;refine⟨.bool ((b==d) != neg),?_,(RepC.t (.bool _)).toV,rfl,rfl,rfl,rfl⟩;have h1: ∀n,(Op.equalIn (n+1) t (.bool b) (.bool d)).run P w= .ok (b==d) w:=fun n=>by simp[Op.equalIn,zag ht]
 have h2:(Op.equal t (.bool b) (.bool d)).run P w= .ok (b==d) w:=h1 9999;cases neg<;>simp[eqGuard,binOp,h2]
theorem zdY {fs:List Field} {xs ys:Array Value} {as bs:List V} {i:Nat} {ks:List Nat} {r:Bool} {μ:Nat->Nat} {H:Nat->Option O} {nm:Nat->Nat} (d:Nat)
 (hf:zaD P i fs=some ks) (hx:zct w A nm μ H xs.toList as) (hy:zct w A nm μ H ys.toList bs)
 (he:eqCells ks (as.drop i) (bs.drop i)=some r):(Op.eqFields (d+1) xs ys fs).run P w= .ok r w:=by
 induction fs generalizing i r ks with
 | nil=>
   simp only[zaD,zA]at hf;subst hf;unfold eqCells at he
   split at he<;>simp_all [Op.eqFields]
 | cons f fs ih=>
   simp only[zaD,zC,zB]at hf;obtain⟨k,hk,ks',hks,hf⟩:=hf;split at hf
   ·rename_i hc;obtain⟨hn,ho,htyp⟩:=hc;simp only[zA]at hf;subst hf;unfold eqCells at he;split at he
    ·simp_all
    ·rename_i n ns xa xs' ya ys' e1 e2 e3;cases e1;simp only[zC,zB,zA]at he;obtain⟨q,hq,q',hq',rfl⟩:=he;have ea:as[i]? =some xa:=by have:=congrArg (·[0]?) e2;simpa using this
     have eb:bs[i]? =some ya:=by have:=congrArg (·[0]?) e3;simpa using this
     have ea':as.drop (i+1)=xs':=by have:=congrArg List.tail e2;simpa using this
     have eb':bs.drop (i+1)=ys':=by have:=congrArg List.tail e3;simpa using this
     obtain⟨v,hv,hvr⟩:=hx.2 i _ ea;obtain⟨u,hu,hur⟩:=hy.2 i _ eb;obtain⟨inf,g1,g2,g3,g4⟩:=zaI htyp;have ih':=ih hks (by rw[ea',eb'];exact hq')
     have hpx:(part f.type xs f.offset).run P w= .ok v w:=by
      simp only[Array.getElem?_toList]at hv;simp[part,g4 w,ho,hv]
     have hpy:(part f.type ys f.offset).run P w= .ok u w:=by
      simp only[Array.getElem?_toList]at hu;simp[part,g4 w,ho,hu]
     have heq:(Op.equalIn (d+1) f.type v u).run P w= .ok q w:=by
      unfold zdz at hq;split at hq
      ·split at hq
       ·rename_i hkk;obtain⟨rfl,rfl⟩:=hkk;simp only[zA]at hq;subst hq;cases hvr.toV.int_inv;cases hur.toV.int_inv;unfold zbx at hk;split at hk<;>simp at hk
        rename_i hty;simp[Op.equalIn,zag hty]
       ·simp at hq
      ·split at hq
       ·rename_i hkk;subst hkk;simp only[zA]at hq;subst hq;cases hvr.toV.bool_inv;cases hur.toV.bool_inv;unfold zbx at hk;split at hk<;>simp at hk
        rename_i hty;simp[Op.equalIn,zag hty]
       ·simp at hq
      ·split at hq
       ·rename_i hkk;subst hkk;simp only[zA]at hq;subst hq;cases hvr.toV.str_inv;cases hur.toV.str_inv;unfold zbx at hk;split at hk<;>simp at hk
        rename_i hty;simp[Op.equalIn,zag hty,beq_toListBytes]
       ·simp at hq
      ·simp at hq
     simp only[Op.eqFields,ne_eq,hn,not_false_eq_true,if_true,Sem.run_bind,hpx,hpy,Result.andThen_ok,heq];cases q
     ·simp
     ·simpa using ih'
    ·simp at he
   ·simp at hf
end
end Rg
end
