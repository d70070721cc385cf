/- Part of the proof of the laws of the package relyguardlaw30: an abstract machine for the program's functions, what they compute, and that the machine is the program's. No condition. (RgC RgD RgE) -/
import Derived.Laws.CopyRow
import Derived.Test.YtcgkpboneipghaaGreatDoorPartAB
section
namespace Rg
open Go
theorem getD_put (a:Act) (d t:Nat) (v:Value) (h:d<a.tmps.size) :
 (a.put (some d) v).tmps.getD t undef=if t=d then v else a.tmps.getD t undef:=by
 simp only [Act.put]
 by_cases ht:t=d
 ·subst ht; simp [h]
 ·simp [ht,Array.getD_eq_getD_getElem?,Ne.symm ht]
theorem size_put (a:Act) (d:Option Nat) (v:Value):(a.put d v).tmps.size=a.tmps.size:=by
 cases d <;> simp [Act.put]
theorem defers_put (a:Act) (d:Option Nat) (v:Value):(a.put d v).defers=a.defers:=by
 cases d <;> rfl
theorem used_mono {s:St} {d:Option Nat} {e:Eff} {b:Nat} (h:s.used b=true):(s.apply d e).used b=true:=by
 simp only [St.apply]
 cases e.adr with
 | none=>exact h
 | some x=>simp only [upd]; split <;> simp_all
section
variable {N:Nam} {c:Ctx} {ns:Nat} {A:Nat->Prop} {μ lam:Nat->Nat} {s:St} {a:Act} {w:World}
theorem Rel.put (R:Rel N c ns A μ lam s a w) (d:Option Nat) (e:Eff) (v:Value) (hd : ∀ x,d=some x->x<ns) (hf:s.free d e)
 (hl:e.loc=none) (hwl:e.wloc=none) (hh:e.hp=[]) (hv:RepV w A N.nm μ s.heap v e.val)
 (ha : ∀ b o,e.adr=some (b,o)->(s.loc b).isSome=true/\v = .pointer (some ⟨lam b,o,none⟩)) :
 Rel N c ns A μ lam (s.apply d e) (a.put d v) w:=by
 have hheap:(s.apply d e).heap=s.heap:=by simp [St.apply,hh,hpUpd]
 cases d with
 | none =>
   have h1:(s.apply none e).env=s.env:=rfl
   have h2:(s.apply none e).adr=s.adr:=rfl
   have h3:(s.apply none e).loc=s.loc:=by simp [St.apply,hwl]
   refine { R with env := ?_,loc := ?_,adr := ?_,heap := ?_,hinj := ?_,linj := ?_,lh := ?_,aH := ?_,aL := ?_,afz:=by rw [hheap]; exact R.afz,fresh := ?_,clive := ?_,cloc := ?_,chp := ?_ }
   ·rw [hheap,h1]; exact R.env
   ·rw [hheap,h3]; exact R.loc
   ·intro t b o h
    rw [h2] at h
    obtain ⟨g1,g2,g3⟩:=R.adr t b o h
    exact ⟨used_mono g1,by rw [h3]; exact g2,g3⟩
   ·rw [hheap]; exact R.heap
   ·rw [hheap]; exact R.hinj
   ·rw [h3]; exact R.linj
   ·rw [hheap,h3]; exact R.lh
   ·rw [hheap]; exact R.aH
   ·rw [h3]; exact R.aL
   ·rw [hheap]; exact R.fresh
   ·rw [hheap]; exact R.clive
   ·rw [h3]; exact R.cloc
   ·rw [hheap]; exact R.chp
 | some d =>
   have hdn:d<a.tmps.size:=by rw [R.size]; exact hd d rfl
   obtain ⟨hf1,hf2⟩:=hf d rfl
   have h1:(s.apply (some d) e).env=upd s.env d e.val:=rfl
   have h2:(s.apply (some d) e).adr=upd s.adr d e.adr:=rfl
   have h3:(s.apply (some d) e).loc=upd s.loc d none:=by simp [St.apply,hwl,hl]
   have hsome : ∀ t,((upd s.loc d none) t).isSome=true->t≠d/\(s.loc t).isSome=true:=by
    intro t h
    by_cases ht:t=d
    ·subst ht; simp at h
    ·exact ⟨ht,by rwa [upd_other _ _ ht] at h⟩
   refine { R with size:=by rw [size_put]; exact R.size,defers:=by rw [defers_put]; exact R.defers,env := ?_,loc := ?_,adr := ?_,heap := ?_,hinj := ?_,linj := ?_,lh := ?_,aH := ?_,aL := ?_,afz:=by rw [hheap]; exact R.afz,fresh := ?_,clive := ?_,cloc := ?_,chp := ?_ }
   ·intro t
    rw [hheap,h1,getD_put a d t v hdn]
    by_cases ht:t=d
    ·subst ht; simpa using hv
    ·rw [upd_other _ _ ht,if_neg ht]; exact R.env t
   ·intro t cs h
    rw [h3] at h
    obtain ⟨ht,_⟩:=hsome t (by rw [h]; rfl)
    rw [upd_other _ _ ht] at h
    rw [hheap,getD_put a d t v hdn,if_neg ht]
    exact R.loc t cs h
   ·intro t b o h
    rw [h2] at h
    rw [h3,getD_put a d t v hdn]
    by_cases ht:t=d
    ·subst ht
     simp only [upd_same] at h
     obtain ⟨g1,g2⟩:=ha b o h
     have hb:b≠t:=hf2 b o h
     refine ⟨by simp [St.apply,h],by rw [upd_other _ _ hb]; exact g1,by simp [g2]⟩
    ·rw [upd_other _ _ ht] at h
     obtain ⟨g1,g2,g3⟩:=R.adr t b o h
     have hb:b≠d:=by intro hb; subst hb; simp [hf1] at g1
     exact ⟨used_mono g1,by rw [upd_other _ _ hb]; exact g2,by rw [if_neg ht]; exact g3⟩
   ·rw [hheap]; exact R.heap
   ·rw [hheap]; exact R.hinj
   ·intro t t' g g'
    rw [h3] at g g'
    exact R.linj t t' (hsome t g).2 (hsome t' g').2
   ·intro t k o g
    rw [h3] at g
    rw [hheap]
    exact R.lh t k o (hsome t g).2
   ·rw [hheap]; exact R.aH
   ·intro r hr ⟨t,g,he⟩
    rw [h3] at g
    exact R.aL r hr ⟨t,(hsome t g).2,he⟩
   ·rw [hheap]; exact R.fresh
   ·rw [hheap]; exact R.clive
   ·intro t g
    rw [h3] at g
    exact R.cloc t (hsome t g).2
   ·rw [hheap]; exact R.chp
theorem Rel.world (R:Rel N c ns A μ lam s a w) {w' : World} (hsz:w.heap.size<=w'.heap.size)
 (hb : ∀ r,A r\/MBL s.loc lam r\/(∃ k o,s.heap k=some o/\o.live=true/\μ k=r)->w'.heap[r]? = w.heap[r]?)
 (hk : ∀ r,r<c.w0.heap.size -> ¬ c.X r->w'.heap[r]? = w.heap[r]?)
 (hs : ∀ r x,w.shape? r=some x->w'.shape? r=some x) (hmk:Marks c A w' a.defers) (hov:w'.os=w.os/\w'.output=w.output:=by exact ⟨rfl,rfl⟩):Rel N c ns A μ lam s a w' := by
 have E:Evo w A μ s.heap w' A μ s.heap:=⟨fun r h=>hb r (.inl h),fun _ h=>h,fun _ o h=>⟨o,h,O.le_refl o,fun _=>rfl⟩,hs⟩
 refine { R with defers:=hmk,env:=fun t=>(R.env t).evo E,loc := ?_,heap := ?_,glob := ?_,alt:=fun r h=>Nat.lt_of_lt_of_le (R.alt r h) hsz,cout:=⟨hov.1.trans R.cout.1,hov.2.trans R.cout.2⟩,csize:=Nat.le_trans R.csize hsz,ckeep := ?_,cshp:=fun r x h=>hs r x (R.cshp r x h) }
 ·intro t cs h
  obtain ⟨h1,cc,e,h2,h3⟩:=R.loc t cs h
  exact ⟨h1,cc,e,by rw [hb _ (.inr (.inl ⟨t,by rw [h]; rfl,rfl⟩))]; exact h2,h3.evo E⟩
 ·intro k o h
  have:=R.heap k o h
  cases o with
  | dead=>trivial
  | rows sz rs frz =>
    obtain ⟨cc,e,z,h1,h2,h3,h4,h5⟩:=this
    exact ⟨cc,e,z,by rw [hb _ (.inr (.inr ⟨k,_,h,rfl,rfl⟩))]; exact h1,h2,h3,h4,fun i row j x g1 g2=>let ⟨v,hv,hr⟩:=h5 i row j x g1 g2; ⟨v,hv,hr.evo E⟩⟩
  | map es =>
    obtain ⟨ms,n,h1,h2,h3⟩:=this
    exact ⟨ms,n,by rw [hb _ (.inr (.inr ⟨k,_,h,rfl,rfl⟩))]; exact h1,h2,fun i k x g=>let ⟨m,hm,hr,hv⟩:=h3 i k x g; ⟨m,hm,hr,hv.evo E⟩⟩
  | loop env ps b st =>
    obtain ⟨L,h1,h2,h3,h4,h5,h7,h6⟩:=this
    exact ⟨L,by rw [hb _ (.inr (.inr ⟨k,_,h,rfl,rfl⟩))]; exact h1,h2,h3,h4,h5,h7,fun t=>(h6 t).evo E⟩
  | raw x=>exact BObj.evo this E (hb _ (.inr (.inr ⟨k,_,h,rfl,rfl⟩)))
 ·intro g j x h
  obtain ⟨h1,⟨te,hte⟩,v,hv,hr⟩:=R.glob g j x h
  exact ⟨h1,⟨te,E.shp _ _ hte⟩,v,by rw [cell?_eq (hb _ (.inl h1))]; exact hv,hr.mono E.blk E.sub⟩
 ·intro r hr hx
  rw [hk r hr hx]; exact R.ckeep r hr hx
theorem shape?_push (w:World) (o:Go.Obj) (r:Nat) (x:TypeId×Nat) (h:w.shape? r=some x):(w.alloc o).shape? r=some x:=by
 have hlt:r<w.heap.size:=by
  rcases Nat.lt_or_ge r w.heap.size with h' | h'
  ·exact h'
  ·simp [World.shape?,Array.getElem?_eq_none h'] at h
 have:(w.alloc o).heap[r]? = w.heap[r]? := by simp only [World.alloc,Array.getElem?_push]; simp [Nat.ne_of_lt hlt]
 simpa [World.shape?,this] using h
theorem BObj.isCells {w:World} {tB tU:Nat} {μ:Nat->Nat} {H:Nat->Option O} {r:Nat} {x:Bx} (h:BObj w tB tU μ H r x) : ∃ cs t z,w.heap[r]? = some (.cells cs t z):=by
 match x,h with
 | .bld none,⟨_,h,_⟩=>exact ⟨_,_,_,h⟩
 | .bld (some _),⟨_,_,_,h,_⟩=>exact ⟨_,_,_,h⟩
 | .mid,⟨_,_,h⟩=>exact ⟨_,_,_,h⟩
 | .buf _,⟨_,h,_⟩=>exact ⟨_,_,_,h⟩
theorem Rel.lt_live (R:Rel N c ns A μ lam s a w) {k:Nat} {o:O} (h:s.heap k=some o) (hl:o.live=true):μ k<w.heap.size:=by
 have:=R.heap k o h
 cases o with
 | dead=>simp [O.live] at hl
 | rows sz rs frz=>obtain ⟨cc,e,z,h1,_⟩:=this; exact (Array.getElem?_eq_some_iff.1 h1).1
 | map es=>obtain ⟨ms,n,h1,_⟩:=this; exact (Array.getElem?_eq_some_iff.1 h1).1
 | loop env ps b st=>obtain ⟨L,h1,_⟩:=this; exact (Array.getElem?_eq_some_iff.1 h1).1
 | raw x =>
   obtain ⟨_,_,_,h1⟩:=BObj.isCells this
   exact (Array.getElem?_eq_some_iff.1 h1).1
theorem Rel.ndef (R:Rel N c ns A μ lam s a w) {k:Nat} {o:O} (h:s.heap k=some o) (hl:o.live=true):w.heap[μ k]? ≠ some (Obj.deferred (some [])):=by
 have:=R.heap k o h
 cases o with
 | dead=>simp [O.live] at hl
 | rows sz rs frz=>obtain ⟨cc,e,z,h1,_⟩:=this; rw [h1]; simp
 | map es=>obtain ⟨ms,n,h1,_⟩:=this; rw [h1]; simp
 | loop env ps b st=>obtain ⟨L,h1,_⟩:=this; rw [h1]; simp
 | raw x =>
   obtain ⟨_,_,_,h1⟩:=BObj.isCells this
   rw [h1]; simp
theorem Rel.ndef_loc (R:Rel N c ns A μ lam s a w) {t:Nat} (h:(s.loc t).isSome=true):w.heap[lam t]? ≠ some (Obj.deferred (some [])):=by
 obtain ⟨cs,h⟩:=Option.isSome_iff_exists.1 h
 obtain ⟨_,cc,e,h1,_⟩:=R.loc t cs h
 rw [h1]; simp
theorem Rel.lt_loc (R:Rel N c ns A μ lam s a w) {t:Nat} (h:(s.loc t).isSome=true):lam t<w.heap.size:=by
 obtain ⟨cs,h⟩:=Option.isSome_iff_exists.1 h
 obtain ⟨_,cc,e,h1,_⟩:=R.loc t cs h
 exact (Array.getElem?_eq_some_iff.1 h1).1
theorem HObj.evo {w w' : World} {A A' : Nat->Prop} {N:Nam} {μ μ' : Nat->Nat} {H H' : Nat->Option O} {r:Nat} {o:O} (h:HObj w A N μ H r o)
 (e:Evo w A μ H w' A' μ' H') (hr:w'.heap[r]? = w.heap[r]?):HObj w' A' N μ' H' r o:=by
 cases o with
 | dead=>trivial
 | rows sz rs frz =>
   obtain ⟨cc,e0,z,h1,h2,h3,h4,h5⟩:=h
   exact ⟨cc,e0,z,by rw [hr]; exact h1,h2,h3,h4,fun i row j x g1 g2=>let ⟨v,hv,hr⟩:=h5 i row j x g1 g2; ⟨v,hv,hr.evo e⟩⟩
 | map es =>
   obtain ⟨ms,n,h1,h2,h3⟩:=h
   exact ⟨ms,n,by rw [hr]; exact h1,h2,fun i k x g=>let ⟨m,hm,hr,hv⟩:=h3 i k x g; ⟨m,hm,hr,hv.evo e⟩⟩
 | loop env ps b st =>
   obtain ⟨L,h1,h2,h3,h4,h5,h7,h6⟩:=h
   exact ⟨L,by rw [hr]; exact h1,h2,h3,h4,h5,h7,fun t=>(h6 t).evo e⟩
 | raw x=>exact BObj.evo h e hr
theorem LObj.evo {w w' : World} {A A' : Nat->Prop} {nm μ μ' : Nat->Nat} {H H' : Nat->Option O} {r:Nat} {cs:List V} (h:LObj w A nm μ H r cs)
 (e:Evo w A μ H w' A' μ' H') (hr:w'.heap[r]? = w.heap[r]?):LObj w' A' nm μ' H' r cs:=by
 obtain ⟨cc,e0,h1,h2⟩:=h
 exact ⟨cc,e0,by rw [hr]; exact h1,h2.evo e⟩
structure Orphan (c:Ctx) (A:Nat->Prop) (μ lam:Nat->Nat) (s:St) (r:Nat):Prop where
 a : ¬ A r
 l : ∀ t,(s.loc t).isSome=true->lam t≠r
 h : ∀ k o,s.heap k=some o->o.live=true->μ k≠r
 x:c.X r\/c.w0.heap.size<=r
theorem Rel.orphan_new (R:Rel N c ns A μ lam s a w):Orphan c A μ lam s w.heap.size :=
 ⟨fun h=>Nat.lt_irrefl _ (R.alt _ h),fun _ h e=>Nat.lt_irrefl _ (e ▸ R.lt_loc h),fun _ _ h hl e=>Nat.lt_irrefl _ (e ▸ R.lt_live h hl), .inr R.csize⟩
theorem Rel.alloc (R:Rel N c ns A μ lam s a w) (o:Go.Obj):Rel N c ns A μ lam s a (w.alloc o):=by
 have hlt : ∀ r,r<w.heap.size->(w.alloc o).heap[r]? = w.heap[r]? := by
  intro r hr
  simp only [World.alloc,Array.getElem?_push]; simp [Nat.ne_of_lt hr]
 refine R.world (by simp) ?_ ?_ (fun r x h=>shape?_push w o r x h) (R.defers.evo (fun r h=>hlt r (Array.getElem?_eq_some_iff.1 h).1) (fun _ _ h=>h))
 ·rintro r (h | ⟨t,h,rfl⟩ | ⟨k,o',h,hl,rfl⟩)
  ·exact hlt r (R.alt r h)
  ·exact hlt _ (R.lt_loc h)
  ·exact hlt _ (R.lt_live h hl)
 ·intro r hr _
  exact hlt r (Nat.lt_of_lt_of_le hr R.csize)
theorem Rel.drew (R:Rel N c ns A μ lam s a w):Rel N c ns A μ lam s a w.drew :=
 R.world (Nat.le_refl _) (fun _ _=>rfl) (fun _ _ _=>rfl) (fun _ _ h=>h) R.defers
theorem shape?_setRow {w:World} {g:Nat} {old cs:Array Value} {t:TypeId} {fr:Nat×Nat} (hg:w.heap[g]? = some (.cells old t fr)) (hs:cs.size=old.size)
 (r:Nat) (x:TypeId×Nat) (h:w.shape? r=some x):(w.setRow g cs).shape? r=some x:=by
 by_cases hr:r=g
 ·subst hr
  simp only [World.shape?,hg,setRow_heap w r old cs t fr hg] at h ⊢
  simpa [hs] using h
 ·simpa [World.shape?,setRow_other w g r cs hr] using h
theorem Rel.setOrphan (R:Rel N c ns A μ lam s a w) {r:Nat} (hr:Orphan c A μ lam s r) {old cs:Array Value} {t:TypeId} {fr:Nat×Nat}
 (hg:w.heap[r]? = some (.cells old t fr)) (hs:cs.size=old.size):Rel N c ns A μ lam s a (w.setRow r cs):=by
 refine R.world (by simp) ?_ ?_ (shape?_setRow hg hs) (R.defers.evo (fun r' h=>setRow_other w r r' cs (fun e=>by subst e; rw [hg] at h; simp at h)) (fun _ _ h=>h))
 ·rintro r' (h | ⟨t,h,rfl⟩ | ⟨k,o',h,hl,rfl⟩)
  ·exact setRow_other w r r' cs (fun e=>hr.a (e ▸ h))
  ·exact setRow_other w r _ cs (hr.l t h)
  ·exact setRow_other w r _ cs (hr.h k o' h hl)
 ·intro r' h1 h2
  refine setRow_other w r r' cs (fun e => ?_)
  subst e
  rcases hr.x with h | h
  ·exact h2 h
  ·omega
theorem Rel.adoptH (R:Rel N c ns A μ lam s a w) {k r:Nat} {o:O} (hk:s.heap k=none) (hn:k<s.nxt) (hr:Orphan c A μ lam s r)
 (ho:HObj w A N μ s.heap r o) (hno : ∀ sz rs,o ≠ .rows sz rs true):Rel N c ns A (upd μ k r) lam { s with heap:=upd s.heap k (some o) } a w:=by
 have hne : ∀ k' o',s.heap k' = some o' -> k' ≠ k:=by rintro k' o' h rfl; simp [hk] at h
 have E:Evo w A μ s.heap w A (upd μ k r) (upd s.heap k (some o)) :=
  ⟨fun _ _=>rfl,fun _ h=>h,fun k' o' h=>⟨o',by rw [upd_other _ _ (hne k' o' h)]; exact h,O.le_refl o',fun _=>upd_other _ _ (hne k' o' h)⟩,fun _ _ h=>h⟩
 have hsplit : ∀ k' o',(upd s.heap k (some o)) k' = some o' -> (k' = k/\o' = o)\/(k' ≠ k/\s.heap k' = some o'):=by
  intro k' o' h
  by_cases e:k' = k
  ·subst e; simp at h; exact .inl ⟨rfl,h.symm⟩
  ·rw [upd_other _ _ e] at h; exact .inr ⟨e,h⟩
 refine { R with env:=fun t=>(R.env t).evo E,loc := ?_,heap := ?_,hinj := ?_,lh := ?_,aH := ?_,afz := ?_,fresh := ?_,clive := ?_,chp := ?_ }
 ·intro t cs h
  obtain ⟨h1,h2⟩:=R.loc t cs h
  exact ⟨h1,h2.evo E rfl⟩
 ·intro k' o' h
  rcases hsplit k' o' h with ⟨rfl,rfl⟩ | ⟨e,h⟩
  ·simp only [upd_same]; exact ho.evo E rfl
  ·simp only [upd_other _ _ e]; exact (R.heap k' o' h).evo E rfl
 ·intro k1 k2 o1 o2 h1 h2 l1 l2 he
  rcases hsplit k1 o1 h1 with ⟨rfl,rfl⟩ | ⟨e1,g1⟩ <;> rcases hsplit k2 o2 h2 with ⟨rfl,rfl⟩ | ⟨e2,g2⟩
  ·rfl
  ·simp only [upd_same,upd_other _ _ e2] at he; exact absurd he.symm (hr.h k2 o2 g2 l2)
  ·simp only [upd_same,upd_other _ _ e1] at he; exact absurd he (hr.h k1 o1 g1 l1)
  ·simp only [upd_other _ _ e1,upd_other _ _ e2] at he; exact R.hinj k1 k2 o1 o2 g1 g2 l1 l2 he
 ·intro t k' o' ht h hl
  rcases hsplit k' o' h with ⟨rfl,rfl⟩ | ⟨e,h⟩
  ·simp only [upd_same]; exact hr.l t ht
  ·simp only [upd_other _ _ e]; exact R.lh t k' o' ht h hl
 ·rintro r' hA ⟨k',o',h,hm,hl,he⟩
  rcases hsplit k' o' h with ⟨rfl,rfl⟩ | ⟨e,h⟩
  ·simp only [upd_same] at he; subst he; exact hr.a hA
  ·simp only [upd_other _ _ e] at he; exact R.aH r' hA ⟨k',o',h,hm,hl,he⟩
 ·intro k' sz rs h
  rcases hsplit k' _ h with ⟨rfl,g⟩ | ⟨e,h⟩
  ·exact absurd g.symm (hno sz rs)
  ·simp only [upd_other _ _ e]; exact R.afz k' sz rs h
 ·intro k' h
  have:k' ≠ k:=fun e=>by subst e; exact absurd h (Nat.not_le.2 hn)
  simp only [upd_other _ _ this]; exact R.fresh k' h
 ·rintro r' ⟨k',o',h,hm,hl,he⟩
  rcases hsplit k' o' h with ⟨rfl,rfl⟩ | ⟨e,h⟩
  ·simp only [upd_same] at he; subst he; exact hr.x
  ·simp only [upd_other _ _ e] at he; exact R.clive r' ⟨k',o',h,hm,hl,he⟩
 ·intro k' o' h
  obtain ⟨o1,h1,h2,h3⟩:=R.chp k' o' h
  have e:=hne k' o1 h1
  exact ⟨o1,by simp only [upd_other _ _ e]; exact h1,h2,fun hl=>by rw [upd_other _ _ e]; exact h3 hl⟩
theorem Rel.changeH (R:Rel N c ns A μ lam s a w) {k:Nat} {o o' : O} {w' : World} (hk:s.heap k=some o) (hle:O.le o o') (hl:o.live=true)
 (hm : ∀ sz rs,o ≠ .rows sz rs true) (hm' : ∀ sz rs,o' ≠ .rows sz rs true) (hl' : o'.live=true)
 (hsz:w'.heap.size=w.heap.size) (hother : ∀ r,r≠μ k->w'.heap[r]? = w.heap[r]?) (hs : ∀ r x,w.shape? r=some x->w'.shape? r=some x)
 (ho:Evo w A μ s.heap w' A μ (upd s.heap k (some o'))->HObj w' A N μ (upd s.heap k (some o')) (μ k) o') (hov:w'.os=w.os/\w'.output=w.output:=by exact ⟨rfl,rfl⟩) :
 Rel N c ns A μ lam { s with heap:=upd s.heap k (some o') } a w' := by
 have hA : ∀ r,A r->r≠μ k:=fun r h e=>R.aH r h ⟨k,o,hk,hm,hl,e.symm⟩
 have E:Evo w A μ s.heap w' A μ (upd s.heap k (some o')):=by
  refine ⟨fun r h=>hother r (hA r h),fun _ h=>h,fun k1 o1 h => ?_,hs⟩
  by_cases e:k1=k
  ·subst e; rw [hk] at h; cases h; exact ⟨o',by simp,hle,fun _=>rfl⟩
  ·exact ⟨o1,by rw [upd_other _ _ e]; exact h,O.le_refl o1,fun _=>rfl⟩
 have hsplit : ∀ k1 o1,(upd s.heap k (some o')) k1=some o1->(k1=k/\o1=o')\/(k1≠k/\s.heap k1=some o1):=by
  intro k1 o1 h
  by_cases e:k1=k
  ·subst e; simp at h; exact .inl ⟨rfl,h.symm⟩
  ·rw [upd_other _ _ e] at h; exact .inr ⟨e,h⟩
 have hback : ∀ k1 o1,(upd s.heap k (some o')) k1=some o1->o1.live=true -> ∃ o2,s.heap k1=some o2/\o2.live=true:=by
  intro k1 o1 h hl1
  rcases hsplit k1 o1 h with ⟨rfl,rfl⟩ | ⟨_,h⟩
  ·exact ⟨o,hk,hl⟩
  ·exact ⟨o1,h,hl1⟩
 have hdf : ∀ r:Nat,w.heap[r]? = some (Obj.deferred (some []))->w'.heap[r]? = w.heap[r]? := fun r h=>hother r (fun e=>R.ndef hk hl (e ▸ h))
 refine { R with defers:=R.defers.evo hdf (fun _ _ h=>h),env:=fun t=>(R.env t).evo E,loc := ?_,heap := ?_,hinj := ?_,lh := ?_,aH := ?_,alt := ?_,afz := ?_,fresh := ?_,glob := ?_,cout:=⟨hov.1.trans R.cout.1,hov.2.trans R.cout.2⟩,csize := ?_,ckeep := ?_,cshp := ?_,clive := ?_,chp := ?_ }
 ·intro t cs h
  obtain ⟨h1,h2⟩:=R.loc t cs h
  exact ⟨h1,h2.evo E (hother _ (R.lh t k o (by rw [h]; rfl) hk hl))⟩
 ·intro k1 o1 h
  rcases hsplit k1 o1 h with ⟨rfl,rfl⟩ | ⟨e,h⟩
  ·exact ho E
  ·cases hl1:o1.live with
   | false=>cases o1 <;> simp_all [O.live]; trivial
   | true=>exact (R.heap k1 o1 h).evo E (hother _ (fun he=>e (R.hinj k1 k o1 o h hk hl1 hl he)))
 ·intro k1 k2 o1 o2 h1 h2 l1 l2 he
  obtain ⟨p1,q1,m1⟩:=hback k1 o1 h1 l1
  obtain ⟨p2,q2,m2⟩:=hback k2 o2 h2 l2
  exact R.hinj k1 k2 p1 p2 q1 q2 m1 m2 he
 ·intro t k1 o1 ht h hl1
  obtain ⟨p1,q1,m1⟩:=hback k1 o1 h hl1
  exact R.lh t k1 p1 ht q1 m1
 ·rintro r hAr ⟨k1,o1,h,hmm,hl1,he⟩
  rcases hsplit k1 o1 h with ⟨rfl,rfl⟩ | ⟨e,h⟩
  ·exact hA r hAr he.symm
  ·exact R.aH r hAr ⟨k1,o1,h,hmm,hl1,he⟩
 ·intro r h; rw [hsz]; exact R.alt r h
 ·intro k1 sz rs h
  rcases hsplit k1 _ h with ⟨rfl,g⟩ | ⟨e,h⟩
  ·exact absurd g.symm (hm' sz rs)
  ·exact R.afz k1 sz rs h
 ·intro k1 h
  have:k1≠k:=by rintro rfl; have:=R.fresh k1 h; simp [hk] at this
  simp only [upd_other _ _ this]; exact R.fresh k1 h
 ·intro g j x h
  obtain ⟨h1,⟨te,hte⟩,v,hv,hr⟩:=R.glob g j x h
  exact ⟨h1,⟨te,E.shp _ _ hte⟩,v,by rw [cell?_eq (hother _ (hA _ h1))]; exact hv,hr.mono E.blk E.sub⟩
 ·rw [hsz]; exact R.csize
 ·intro r h1 h2
  rw [hother r ?_]
  ·exact R.ckeep r h1 h2
  ·rintro rfl
   rcases R.clive _ ⟨k,o,hk,hm,hl,rfl⟩ with h | h
   ·exact h2 h
   ·omega
 ·intro r x h; exact hs r x (R.cshp r x h)
 ·rintro r ⟨k1,o1,h,hmm,hl1,he⟩
  rcases hsplit k1 o1 h with ⟨rfl,rfl⟩ | ⟨e,h⟩
  ·exact R.clive r ⟨k1,o,hk,hm,hl,he⟩
  ·exact R.clive r ⟨k1,o1,h,hmm,hl1,he⟩
 ·intro k1 o1 h
  obtain ⟨o2,h2,h3,h4⟩:=R.chp k1 o1 h
  by_cases e:k1=k
  ·subst e
   rw [hk] at h2; cases h2
   exact ⟨o',by simp,O.le_trans h3 hle,fun _=>h4 hl⟩
  ·exact ⟨o2,by simp only [upd_other _ _ e]; exact h2,h3,h4⟩
theorem Rel.kill (R:Rel N c ns A μ lam s a w) {k:Nat} {o:O} (hk:s.heap k=some o):Rel N c ns A μ lam { s with heap:=upd s.heap k (some .dead) } a w:=by
 have E:Evo w A μ s.heap w A μ (upd s.heap k (some .dead)):=by
  refine ⟨fun _ _=>rfl,fun _ h=>h,fun k1 o1 h => ?_,fun _ _ h=>h⟩
  by_cases e:k1=k
  ·subst e; exact ⟨.dead,by simp,by cases o1 <;> trivial,fun _=>rfl⟩
  ·exact ⟨o1,by rw [upd_other _ _ e]; exact h,O.le_refl o1,fun _=>rfl⟩
 have hback : ∀ k1 o1,(upd s.heap k (some .dead)) k1=some o1->o1.live=true->k1≠k/\s.heap k1=some o1:=by
  intro k1 o1 h hl1
  by_cases e:k1=k
  ·subst e; simp at h; subst h; simp [O.live] at hl1
  ·rw [upd_other _ _ e] at h; exact ⟨e,h⟩
 refine { R with env:=fun t=>(R.env t).evo E,loc := ?_,heap := ?_,hinj := ?_,lh := ?_,aH := ?_,afz:=fun k1 sz rs h=>R.afz k1 sz rs (hback k1 _ h rfl).2,fresh := ?_,clive := ?_,chp := ?_ }
 ·intro t cs h
  obtain ⟨h1,h2⟩:=R.loc t cs h
  exact ⟨h1,h2.evo E rfl⟩
 ·intro k1 o1 h
  cases hl1:o1.live with
  | false=>cases o1 <;> simp_all [O.live]; trivial
  | true=>exact (R.heap k1 o1 (hback k1 o1 h hl1).2).evo E rfl
 ·intro k1 k2 o1 o2 h1 h2 l1 l2 he
  exact R.hinj k1 k2 o1 o2 (hback k1 o1 h1 l1).2 (hback k2 o2 h2 l2).2 l1 l2 he
 ·intro t k1 o1 ht h hl1
  exact R.lh t k1 o1 ht (hback k1 o1 h hl1).2 hl1
 ·rintro r hAr ⟨k1,o1,h,hmm,hl1,he⟩
  exact R.aH r hAr ⟨k1,o1,(hback k1 o1 h hl1).2,hmm,hl1,he⟩
 ·intro k1 h
  have:k1≠k:=by rintro rfl; have:=R.fresh k1 h; simp [hk] at this
  simp only [upd_other _ _ this]; exact R.fresh k1 h
 ·rintro r ⟨k1,o1,h,hmm,hl1,he⟩
  exact R.clive r ⟨k1,o1,(hback k1 o1 h hl1).2,hmm,hl1,he⟩
 ·intro k1 o1 h
  obtain ⟨o2,h2,h3,h4⟩:=R.chp k1 o1 h
  obtain ⟨o3,h5,h6,h7⟩:=E.hp k1 o2 h2
  refine ⟨o3,h5,O.le_trans h3 h6,fun hl3=>h4 ?_⟩
  have:=hback k1 o3 h5 hl3
  rw [this.2] at h2; cases h2; exact hl3
theorem Rel.orphan_kill (R:Rel N c ns A μ lam s a w) {k:Nat} {o:O} (hk:s.heap k=some o) (hl:o.live=true) (hm : ∀ sz rs,o ≠ .rows sz rs true) :
 Orphan c A μ lam { s with heap:=upd s.heap k (some .dead) } (μ k):=by
 refine ⟨fun h=>R.aH _ h ⟨k,o,hk,hm,hl,rfl⟩,fun t h=>R.lh t k o h hk hl,fun k1 o1 h hl1 he => ?_,R.clive _ ⟨k,o,hk,hm,hl,rfl⟩⟩
 by_cases e:k1=k
 ·subst e; simp at h; subst h; simp [O.live] at hl1
 ·simp only [upd_other _ _ e] at h; exact e (R.hinj k1 k o1 o h hk hl1 hl he)
theorem Rel.adoptL (R:Rel N c ns A μ lam s a w) (d:Nat) (hd:d<ns) (hu:s.used d=false) {r:Nat} (hr:Orphan c A μ lam s r) {cs:List V}
 (ho:LObj w A N.nm μ s.heap r cs) :
 Rel N c ns A μ (upd lam d r) (s.apply (some d) { val:=.lb,loc:=some cs }) (a.put (some d) (.pointer (some ⟨r,0,none⟩))) w:=by
 have hdn:d<a.tmps.size:=by rw [R.size]; exact hd
 have h0:s.apply (some d) { val:=.lb,loc:=some cs } = { s with env:=upd s.env d .lb,adr:=upd s.adr d none,loc:=upd s.loc d (some cs) }:=rfl
 rw [h0]
 have hsplit : ∀ t,((upd s.loc d (some cs)) t).isSome=true->t=d\/(t≠d/\(s.loc t).isSome=true):=by
  intro t h
  by_cases e:t=d
  ·exact .inl e
  ·exact .inr ⟨e,by rwa [upd_other _ _ e] at h⟩
 refine { R with size:=by rw [size_put]; exact R.size,defers:=by rw [defers_put]; exact R.defers,env := ?_,loc := ?_,adr := ?_,linj := ?_,lh := ?_,aL := ?_,cloc := ?_ }
 ·intro t
  rw [getD_put a d t _ hdn]
  by_cases ht:t=d
  ·subst ht; simp [RepV]
  ·simp only [upd_other _ _ ht,if_neg ht]; exact R.env t
 ·intro t cs' h
  rw [getD_put a d t _ hdn]
  by_cases ht:t=d
  ·subst ht
   simp only [upd_same,Option.some.injEq] at h
   subst h
   simp only [upd_same,if_true]
   exact ⟨trivial,ho⟩
  ·simp only [upd_other _ _ ht] at h
   simp only [upd_other _ _ ht,if_neg ht]
   exact R.loc t cs' h
 ·intro t b o h
  rw [getD_put a d t _ hdn]
  by_cases ht:t=d
  ·subst ht; simp at h
  ·simp only [upd_other _ _ ht] at h
   obtain ⟨g1,g2,g3⟩:=R.adr t b o h
   have hb:b≠d:=by intro hb; subst hb; simp [hu] at g1
   simp only [upd_other _ _ hb,if_neg ht]
   exact ⟨g1,g2,g3⟩
 ·intro t t' g g' he
  rcases hsplit t g with rfl | ⟨e,q⟩ <;> rcases hsplit t' g' with rfl | ⟨e',q'⟩
  ·rfl
  ·simp only [upd_same,upd_other _ _ e'] at he; exact absurd he.symm (hr.l t' q')
  ·simp only [upd_same,upd_other _ _ e] at he; exact absurd he (hr.l t q)
  ·simp only [upd_other _ _ e,upd_other _ _ e'] at he; exact R.linj t t' q q' he
 ·intro t k o g h hl
  rcases hsplit t g with rfl | ⟨e,g⟩
  ·simp only [upd_same]; exact fun e=>hr.h k o h hl e.symm
  ·simp only [upd_other _ _ e]; exact R.lh t k o g h hl
 ·rintro r' hA ⟨t,g,he⟩
  rcases hsplit t g with rfl | ⟨e,g⟩
  ·simp only [upd_same] at he; subst he; exact hr.a hA
  ·simp only [upd_other _ _ e] at he; exact R.aL r' hA ⟨t,g,he⟩
 ·intro t g
  rcases hsplit t g with rfl | ⟨e,g⟩
  ·simp only [upd_same]; exact hr.x
  ·simp only [upd_other _ _ e]; exact R.cloc t g
theorem Rel.changeL (R:Rel N c ns A μ lam s a w) {b:Nat} {cs cs' : List V} {w' : World} (hb:s.loc b=some cs)
 (hsz:w'.heap.size=w.heap.size) (hother : ∀ r,r≠lam b->w'.heap[r]? = w.heap[r]?) (hs : ∀ r x,w.shape? r=some x->w'.shape? r=some x)
 (ho:Evo w A μ s.heap w' A μ s.heap->LObj w' A N.nm μ s.heap (lam b) cs') (hov:w'.os=w.os/\w'.output=w.output:=by exact ⟨rfl,rfl⟩) :
 Rel N c ns A μ lam { s with loc:=upd s.loc b (some cs') } a w' := by
 have hbs:(s.loc b).isSome=true:=by rw [hb]; rfl
 have hA : ∀ r,A r->r≠lam b:=fun r h e=>R.aL r h ⟨b,hbs,e.symm⟩
 have E:Evo w A μ s.heap w' A μ s.heap:=⟨fun r h=>hother r (hA r h),fun _ h=>h,fun _ o h=>⟨o,h,O.le_refl o,fun _=>rfl⟩,hs⟩
 have hback : ∀ t,((upd s.loc b (some cs')) t).isSome=true->(s.loc t).isSome=true:=by
  intro t h
  by_cases e:t=b
  ·subst e; exact hbs
  ·rwa [upd_other _ _ e] at h
 have hdf : ∀ r:Nat,w.heap[r]? = some (Obj.deferred (some []))->w'.heap[r]? = w.heap[r]? := fun r h=>hother r (fun e=>R.ndef_loc hbs (e ▸ h))
 refine { R with defers:=R.defers.evo hdf (fun _ _ h=>h),env:=fun t=>(R.env t).evo E,loc := ?_,adr := ?_,heap := ?_,linj := ?_,lh := ?_,aL := ?_,alt := ?_,glob := ?_,cout:=⟨hov.1.trans R.cout.1,hov.2.trans R.cout.2⟩,csize := ?_,ckeep := ?_,cshp := ?_,cloc := ?_ }
 ·intro t ds h
  by_cases e:t=b
  ·subst e
   simp only [upd_same,Option.some.injEq] at h
   subst h
   exact ⟨(R.loc t cs hb).1,ho E⟩
  ·simp only [upd_other _ _ e] at h
   obtain ⟨h1,h2⟩:=R.loc t ds h
   exact ⟨h1,h2.evo E (hother _ (fun he=>e (R.linj t b (by rw [h]; rfl) hbs he)))⟩
 ·intro t b' o h
  obtain ⟨g1,g2,g3⟩:=R.adr t b' o h
  refine ⟨g1, ?_,g3⟩
  by_cases e:b' = b
  ·subst e; simp
  ·simp only [upd_other _ _ e]; exact g2
 ·intro k o h
  cases hl:o.live with
  | false=>cases o <;> simp_all [O.live]; trivial
  | true=>exact (R.heap k o h).evo E (hother _ (fun he=>R.lh b k o hbs h hl he.symm))
 ·intro t t' g g'; exact R.linj t t' (hback t g) (hback t' g')
 ·intro t k o g; exact R.lh t k o (hback t g)
 ·rintro r hr ⟨t,g,he⟩; exact R.aL r hr ⟨t,hback t g,he⟩
 ·intro r h; rw [hsz]; exact R.alt r h
 ·intro g j x h
  obtain ⟨h1,⟨te,hte⟩,v,hv,hr⟩:=R.glob g j x h
  exact ⟨h1,⟨te,E.shp _ _ hte⟩,v,by rw [cell?_eq (hother _ (hA _ h1))]; exact hv,hr.mono E.blk E.sub⟩
 ·rw [hsz]; exact R.csize
 ·intro r h1 h2
  rw [hother r ?_]
  ·exact R.ckeep r h1 h2
  ·rintro rfl
   rcases R.cloc b hbs with h | h
   ·exact h2 h
   ·omega
 ·intro r x h; exact hs r x (R.cshp r x h)
 ·intro t g; exact R.cloc t (hback t g)
theorem Rel.freeze (R:Rel N c ns A μ lam s a w) {k sz:Nat} {rs:List (List V)} {frz:Bool} (hk:s.heap k=some (.rows sz rs frz)) :
 Rel N c ns (fun r=>A r\/r=μ k) μ lam { s with heap:=upd s.heap k (some (.rows sz rs true)) } a w:=by
 have E:Evo w A μ s.heap w (fun r=>A r\/r=μ k) μ (upd s.heap k (some (.rows sz rs true))):=by
  refine ⟨fun _ _=>rfl,fun _ h => .inl h,fun k1 o1 h => ?_,fun _ _ h=>h⟩
  by_cases e:k1=k
  ·subst e; rw [hk] at h; cases h; exact ⟨.rows sz rs true,by simp,⟨rfl,rfl⟩,fun _=>rfl⟩
  ·exact ⟨o1,by rw [upd_other _ _ e]; exact h,O.le_refl o1,fun _=>rfl⟩
 have hsplit : ∀ k1 o1,(upd s.heap k (some (.rows sz rs true))) k1=some o1->(k1=k/\o1 = .rows sz rs true)\/(k1≠k/\s.heap k1=some o1):=by
  intro k1 o1 h
  by_cases e:k1=k
  ·subst e; simp at h; exact .inl ⟨rfl,h.symm⟩
  ·rw [upd_other _ _ e] at h; exact .inr ⟨e,h⟩
 have hback : ∀ k1 o1,(upd s.heap k (some (.rows sz rs true))) k1=some o1->o1.live=true -> ∃ o2,s.heap k1=some o2/\o2.live=true:=by
  intro k1 o1 h hl1
  rcases hsplit k1 o1 h with ⟨rfl,rfl⟩ | ⟨_,h⟩
  ·exact ⟨_,hk,rfl⟩
  ·exact ⟨o1,h,hl1⟩
 have hdf : ∀ r:Nat,w.heap[r]? = some (Obj.deferred (some []))->(A r\/r=μ k)->A r:=fun r h h' => h'.resolve_right (fun e=>R.ndef hk rfl (e ▸ h))
 refine { R with defers:=R.defers.evo (fun _ _=>rfl) hdf,env:=fun t=>(R.env t).evo E,loc := ?_,heap := ?_,hinj := ?_,lh := ?_,aH := ?_,aL := ?_,alt := ?_,afz := ?_,fresh := ?_,glob := ?_,csub := ?_,canew := ?_,clive := ?_,chp := ?_ }
 ·intro t cs h
  obtain ⟨h1,h2⟩:=R.loc t cs h
  exact ⟨h1,h2.evo E rfl⟩
 ·intro k1 o1 h
  rcases hsplit k1 o1 h with ⟨rfl,rfl⟩ | ⟨e,h⟩
  ·obtain ⟨cc,e0,z,h1,h2,h3,h4,h5⟩:=(R.heap k1 _ hk).evo E rfl
   exact ⟨cc,e0,z,h1,(by simp),h3,h4,h5⟩
  ·exact (R.heap k1 o1 h).evo E rfl
 ·intro k1 k2 o1 o2 h1 h2 l1 l2 he
  obtain ⟨p1,q1,m1⟩:=hback k1 o1 h1 l1
  obtain ⟨p2,q2,m2⟩:=hback k2 o2 h2 l2
  exact R.hinj k1 k2 p1 p2 q1 q2 m1 m2 he
 ·intro t k1 o1 ht h hl1
  obtain ⟨p1,q1,m1⟩:=hback k1 o1 h hl1
  exact R.lh t k1 p1 ht q1 m1
 ·rintro r hAr ⟨k1,o1,h,hmm,hl1,he⟩
  rcases hsplit k1 o1 h with ⟨rfl,rfl⟩ | ⟨e,h⟩
  ·exact hmm sz rs rfl
  ·rcases hAr with hAr | rfl
   ·exact R.aH r hAr ⟨k1,o1,h,hmm,hl1,he⟩
   ·exact e (R.hinj k1 k o1 _ h hk hl1 rfl he)
 ·rintro r (hAr | rfl) ⟨t,g,he⟩
  ·exact R.aL r hAr ⟨t,g,he⟩
  ·exact R.lh t k _ g hk rfl he
 ·rintro r (h | rfl)
  ·exact R.alt r h
  ·exact R.lt_live hk rfl
 ·intro k1 sz1 rs1 h
  rcases hsplit k1 _ h with ⟨rfl,h⟩ | ⟨e,h⟩
  ·exact .inr rfl
  ·exact .inl (R.afz k1 sz1 rs1 h)
 ·intro k1 h
  have:k1≠k:=by rintro rfl; have:=R.fresh k1 h; simp [hk] at this
  simp only [upd_other _ _ this]; exact R.fresh k1 h
 ·intro g j x h
  obtain ⟨h1,⟨te,hte⟩,v,hv,hr⟩:=R.glob g j x h
  exact ⟨.inl h1,⟨te,hte⟩,v,hv,hr.mono E.blk E.sub⟩
 ·intro r h; exact .inl (R.csub r h)
 ·rintro r (h | rfl)
  ·exact R.canew r h
  ·cases frz with
   | true=>exact R.canew _ (R.afz k sz rs hk)
   | false=>exact .inr (R.clive _ ⟨k,_,hk,by simp,rfl,rfl⟩)
 ·rintro r ⟨k1,o1,h,hmm,hl1,he⟩
  rcases hsplit k1 o1 h with ⟨rfl,rfl⟩ | ⟨e,h⟩
  ·exact absurd rfl (hmm sz rs)
  ·exact R.clive r ⟨k1,o1,h,hmm,hl1,he⟩
 ·intro k1 o1 h
  obtain ⟨o2,h2,h3,h4⟩:=R.chp k1 o1 h
  obtain ⟨o3,h5,h6,h7⟩:=E.hp k1 o2 h2
  refine ⟨o3,h5,O.le_trans h3 h6,fun hl3=>h4 ?_⟩
  obtain ⟨o4,h8,h9⟩:=hback k1 o3 h5 hl3
  rw [h8] at h2; cases h2; exact h9
end
end Rg
end
section
namespace Rg
open Go
structure Inv where
 fi:Nat->Option Nat
 gi:Nat->Option Nat
 tB:Option Nat
structure Inv.Ok (I:Inv) (N:Nam):Prop where
 f : ∀ f k,I.fi f=some k->N.nm k=f
 g : ∀ g k,I.gi g=some k->N.gm k=g/\N.G k≠[]
 b : ∀ t,I.tB=some t->N.tB=t
def cellOf:Value->Option V
 | .int k n=>some (.t (.int k n))
 | .bool b=>some (.t (.bool b))
 | .string s=>some (.t (.str s))
 | .pointer none=>some (.t .nilp)
 | .slice none 0 0=>some (.t .nils)
 | .map none=>some (.t .nilm)
 | .nilFunc=>some (.t .nilf)
 | .nilIface=>some (.t .nili)
 | _=>none
def cellsOf (v:Value):Option (List V):=v.cells.toList.mapM cellOf
def constOf:Value->Option V
 | .agg cs=>(cs.toList.mapM cellOf).map V.agg
 | v=>cellOf v
section
variable (P:Program) (I:Inv)
def opd:Operand->Option Opd
 | .tmp t=>some (.s t)
 | .const v=>(constOf v).map .c
 | .global g=>(I.gi g).map .g
 | .func f=>(I.fi f).map fun k => .c (.t (.fn k [] []))
def opdO:Option Operand->Option (Option Opd)
 | none=>some none
 | some x=>(opd I x).map some
def opds (xs:Array Operand):Option (List Opd):=xs.toList.mapM (opd I)
def typ (t:TypeId):Option (Bool×Nat) :=
 match P.info? t,P.underlying t with
 | some i,some (.struct _)=>some (true,i.size)
 | some i,some (.array _ _)=>some (true,i.size)
 | some i,some _=>if i.size=1 then some (false,1) else none
 | _,_=>none
def zeroOf (t:TypeId):Option (List V) :=
 match P.info? t with
 | some i=>match i.zero with
   | some z=>cellsOf z
   | none=>none
 | none=>none
def zeroV (t:TypeId):Option V:=do
 let i <- P.info? t
 let v <- i.zero
 constOf v
def isLoc (isL:Nat->Bool):Operand->Bool
 | .tmp t=>isL t
 | _=>false
def dstL (isL:Nat->Bool):Option Nat->Bool
 | some d=>isL d
 | none=>false
def kindOf (t:TypeId):Option Nat :=
 match P.underlying t with
 | some (.int _)=>some 0
 | some .bool=>some 1
 | some .string=>some 2
 | _=>none
def plainFields (i:Nat):List Field->Option (List Nat)
 | []=>some []
 | f::fs=>do
   let k <- kindOf P f.type
   let ks <- plainFields (i+1) fs
   if f.name ≠ "_" /\ f.offset = i /\ typ P f.type = some (false, 1) then some (k :: ks) else none
def plainEq (t:TypeId):Option (List Nat) :=
 match P.underlying t with
 | some (.struct fields)=>if P.stoodInHeld t=false/\P.eqGuardType P.depth t=false then plainFields P 0 fields.toList else none
 | _=>none
def plainFields2 (i:Nat):List Field->Option (List Nat)
 | []=>some []
 | f::fs=>match kindOf P f.type with
   | some k=>do
     let ks <- plainFields2 (i+1) fs
     if f.name ≠ "_" /\ f.offset = i /\ typ P f.type = some (false, 1) then some (k :: ks) else none
   | none=>do
     let k1 <- plainEq P f.type
     let ks <- plainFields2 (i+k1.length) fs
     if f.name ≠ "_" /\ f.offset = i /\ typ P f.type = some (true, k1.length) /\ 0 < k1.length then some (k1 ++ ks) else none
def plainEq2 (t:TypeId):Option (List Nat) :=
 match P.underlying t with
 | some (.struct fields)=>if P.stoodInHeld t=false/\P.eqGuardType P.depth t=false then plainFields2 P 0 fields.toList else none
 | _=>none
def keyKindOf (t:TypeId):Option Nat :=
 match kindOf P t with
 | some k=>some k
 | none=>(plainEq P t).map fun ks=>3+kcode ks
def treeFn (k:Nat):Bool:=k==197
def isBld (t:TypeId):Bool :=
 match (P.info? t).bind (·.zero) with
 | some (.agg cs)=>match cs.toList with
   | [.pointer none, .slice none 0 0]=>true
   | _=>false
 | _=>false
def compOp (isL:Nat->Bool) (dst:Option Nat):Op->Option AOp
 | .move x | .assign x=>(opd I x).map .mv
 | .pick c a b=>do
   let c <- opd I c
   let a <- opd I a
   let b <- opd I b
   some (.pick c a b)
 | .alloc t=>do
   let z <- zeroOf P t
   if I.tB=some t then if dstL isL dst=false/\isBld P t=true then some .allocB else none
   else if dstL isL dst then some (.allocL z) else some (.allocH z)
 | .box t x=>do
   let (_,n) <- typ P t
   let x <- opd I x
   if dstL isL dst then some (.boxL n x) else some (.boxH n x)
 | .build t parts=>do
   let z <- zeroOf P t
   match P.underlying t with
   | some (.struct fields)=>do
     let ps <- parts.toList.mapM fun (i,x)=>do
      let f <- fields[i]?
      let (_,n) <- typ P f.type
      let x <- opd I x
      some (f.offset,n,x)
     if fields.toList.all (fun f=>(typ P f.type).isSome) then some (.build z ps) else none
   | some (.array _ e)=>do
     let (_,n) <- typ P e
     let ps <- parts.toList.mapM fun (i,x)=>do
      let x <- opd I x
      some (i*n,n,x)
     some (.build z ps)
   | _=>none
 | .buildSlice t len parts=>do
   match P.underlying t with
   | some (.slice e)=>do
     let (_,n) <- typ P e
     let z <- zeroOf P e
     let ps <- parts.toList.mapM fun (i,x)=>do
      let x <- opd I x
      some (i,x)
     if len*n<=2^24/\0<n/\z.length=n then some (.bslice n len z ps) else none
   | _=>none
 | .load t a=>do
   let (ag,n) <- typ P t
   let x <- opd I a
   if isLoc isL a then some (.loadL ag n x) else some (.load ag n x)
 | .store t a v=>do
   let (_,n) <- typ P t
   let x <- opd I a
   let v <- opd I v
   if dst.isSome then none else if isLoc isL a then some (.storeL n x v) else some (.store n x v)
 | .nilCheck x=>(opd I x).map .nilchk
 | .binOp op t x y _=>do
   let a <- opd I x
   let b <- opd I y
   match P.underlying t with
   | some (.int _)=>some (.bin op a b)
   | some .string=>some (.bin op a b)
   | some .bool=>match op with
     | .eql=>some (.eqb false a b)
     | .neq=>some (.eqb true a b)
     | _=>none
   | some (.struct _)=>do
     let n <- plainEq2 P t
     match op with
     | .eql=>some (.eqa false n a b)
     | .neq=>some (.eqa true n a b)
     | _=>none
   | _=>none
 | .unOp op _ x=>(opd I x).map (.un op)
 | .convert src dst x=>do
   let a <- opd I x
   match P.underlying src,P.underlying dst with
   | some (.int _),some (.int k)=>some (.conv k a)
   | some (.slice e),some .string=>match P.underlying e with
     | some (.int .u8)=>some (.bstr a)
     | _=>none
   | _,_=>none
 | .makeFunc (.func f) first cap=>do
   let k <- I.fi f
   let a <- opds I first
   let b <- opds I cap
   match treeFn k,a,b with
   | true,[],[x]=>some (.mkfnT k x)
   | _,_,_=>some (.mkfn k a b)
 | .makeSlice t l c=>do
   match P.underlying t with
   | some (.slice e)=>do
     let (_,n) <- typ P e
     let z <- zeroOf P e
     let i <- P.info? e
     let l <- opd I l
     let c <- opd I c
     if 0<n/\z.length=n then some (.mkslice n i.bytes z l c) else none
   | _=>none
 | .slice t x lo hi mx=>do
   let a <- opd I x
   let l <- opdO I lo
   let h <- opdO I hi
   let m <- opdO I mx
   match P.underlying t with
   | some (.slice e)=>do
     let (_,n) <- typ P e
     some (.slice n a l h m)
   | some .string=>if m.isNone then some (.slstr a l h) else none
   | _=>none
 | .fieldAddr t x f=>do
   let a <- opd I x
   match P.underlying t with
   | some (.struct fields)=>do
     let f <- fields[f]?
     let (_,n) <- typ P f.type
     if 0<n then if isLoc isL x then some (.faddrL f.offset a) else some (.faddr f.offset a)
     else none
   | _=>none
 | .field t x f=>do
   let a <- opd I x
   match P.underlying t with
   | some (.struct fields)=>do
     let f <- fields[f]?
     let (ag,n) <- typ P f.type
     some (.field ag f.offset n a)
   | _=>none
 | .indexAddr t x i=>do
   let a <- opd I x
   let j <- opd I i
   match P.underlying t with
   | some (.slice e)=>do
     let (_,n) <- typ P e
     some (.iaddrS n a j)
   | some (.array len e)=>do
     let (_,n) <- typ P e
     if isLoc isL x then some (.iaddrAL len n a j) else some (.iaddrA len n a j)
   | _=>none
 | .index t x i=>do
   let a <- opd I x
   let j <- opd I i
   match P.underlying t with
   | some (.array len e)=>do
     let (ag,n) <- typ P e
     some (.idxA ag len n a j)
   | some .string=>some (.idxS a j)
   | _=>none
 | .extract x i=>do
   let a <- opd I x
   some (.extr a i)
 | .makeMap t r=>do
   match P.underlying t,r with
   | some (.map _ _),none=>some .mkmap
   | some (.map _ _),some (.const (.int _ _))=>some .mkmap
   | _,_=>none
 | .lookup t x y ok=>do
   let a <- opd I x
   let b <- opd I y
   match P.underlying t with
   | some (.map kt et)=>do
     let kd <- keyKindOf P kt
     let z <- zeroV P et
     some (.lookup kd z ok a b)
   | _=>none
 | .mapUpdate t x y v=>do
   let a <- opd I x
   let b <- opd I y
   let u <- opd I v
   match P.underlying t with
   | some (.map kt _)=>do
     let kd <- keyKindOf P kt
     if dst.isSome then none else some (.mapupd kd a b u)
   | _=>none
 | .call c=>do
   match c.callee with
   | .value _=>none
   | .builtin .len=>do
     match c.argTypes.toList,c.args.toList with
     | [t],[x]=>match P.underlying t with
       | some (.slice _)=>(opd I x).map .len
       | some .string=>(opd I x).map .slen
       | some (.array n _)=>some (.lenA n)
       | _=>none
     | _,_=>none
   | .builtin .append=>do
     match c.argTypes.toList,c.args.toList with
     | [t,u],[x,y]=>do
       let a <- opd I x
       let b <- opd I y
       match P.underlying t,P.underlying u with
       | some (.slice e),some (.slice _)=>do
         let (_,n) <- typ P e
         let i <- P.info? e
         let z <- zeroOf P e
         if 0<n/\z.length=n then some (.append n i.bytes a b) else none
       | _,_=>none
     | _,_=>none
   | .builtin .copy=>do
     match c.argTypes.toList,c.args.toList with
     | [t,_],[x,y]=>do
       let a <- opd I x
       let b <- opd I y
       match P.underlying t with
       | some (.slice e)=>do
         let (_,n) <- typ P e
         if 0<n then some (.copy n a b) else none
       | _=>none
     | _,_=>none
   | .builtin .clear=>do
     match c.argTypes.toList,c.args.toList with
     | [t],[x]=>do
       let a <- opd I x
       match P.underlying t with
       | some (.slice e)=>do
         let (_,n) <- typ P e
         let z <- zeroOf P e
         if 0<n/\z.length=n then some (.clear n z a) else none
       | _=>none
     | _,_=>none
   | _=>none
 | _=>none
end
end Rg
end
section
namespace Rg
open Go
theorem addr_add (r o n:Nat):(⟨r,o,none⟩:Addr).add n=⟨r,o+n,none⟩:=by
 unfold Addr.add; split <;> simp_all
theorem RepV.t_inv {w:World} {A:Nat->Prop} {nm μ:Nat->Nat} {H:Nat->Option O} {v:Value} {x:T} (h:RepV w A nm μ H v (.t x)):RepT w A nm v x:=by
 cases (h:RepC w A nm μ H v (.t x)); assumption
theorem RepV.int_inv {w:World} {A:Nat->Prop} {nm μ:Nat->Nat} {H:Nat->Option O} {v:Value} {k:IntKind} {n:Int} (h:RepV w A nm μ H v (.t (.int k n))):v = .int k n:=by
 cases h.t_inv; rfl
theorem RepV.bool_inv {w:World} {A:Nat->Prop} {nm μ:Nat->Nat} {H:Nat->Option O} {v:Value} {b:Bool} (h:RepV w A nm μ H v (.t (.bool b))):v = .bool b:=by
 cases h.t_inv; rfl
theorem RepV.str_inv {w:World} {A:Nat->Prop} {nm μ:Nat->Nat} {H:Nat->Option O} {v:Value} {b:ByteArray} (h:RepV w A nm μ H v (.t (.str b))):v = .string b:=by
 cases h.t_inv; rfl
theorem cellOf_rep {w:World} {A:Nat->Prop} {nm μ:Nat->Nat} {H:Nat->Option O} {v:Value} {x:V} (h:cellOf v=some x):RepC w A nm μ H v x:=by
 unfold cellOf at h
 split at h <;> first
  | (simp at h; done)
  | (simp only [Option.some.injEq] at h; subst h; exact .t (by constructor))
theorem mapM_some {α β:Type} {f:α->Option β} : ∀ {l:List α} {r:List β},l.mapM f=some r->l.length=r.length /\ ∀ (i:Nat) (y:β),r[i]? = some y -> ∃ x,l[i]? = some x/\f x=some y
 | [],r,h=>by simp at h; subst h; simp
 | x::l,r,h=>by
   simp only [List.mapM_cons,Option.bind_eq_bind,Option.bind_eq_some_iff,Option.pure_def,Option.some.injEq] at h
   obtain ⟨y,hy,ys,hys,rfl⟩:=h
   obtain ⟨h1,h2⟩:=mapM_some hys
   refine ⟨by simp [h1],fun i z hz => ?_⟩
   cases i with
   | zero=>simp at hz; subst hz; exact ⟨x,rfl,hy⟩
   | succ i=>simp at hz; simpa using h2 i z hz
theorem cellsOf_rep {w:World} {A:Nat->Prop} {nm μ:Nat->Nat} {H:Nat->Option O} {v:Value} {cs:List V} (h:cellsOf v=some cs) :
 RepL w A nm μ H v.cells.toList cs:=by
 obtain ⟨h1,h2⟩:=mapM_some h
 exact ⟨h1,fun i c hi=>let ⟨x,hx,hf⟩:=h2 i c hi; ⟨x,hx,cellOf_rep hf⟩⟩
theorem constOf_rep {w:World} {A:Nat->Prop} {nm μ:Nat->Nat} {H:Nat->Option O} {v:Value} {x:V} (h:constOf v=some x):RepV w A nm μ H v x:=by
 unfold constOf at h
 split at h
 ·simp only [Option.map_eq_some_iff] at h
  obtain ⟨cs,hcs,rfl⟩:=h
  obtain ⟨h1,h2⟩:=mapM_some hcs
  exact ⟨_,rfl,h1,fun i c hi=>let ⟨x,hx,hf⟩:=h2 i c hi; ⟨x,hx,cellOf_rep hf⟩⟩
 ·exact (cellOf_rep h).toV
section
variable {P:Program} {N:Nam} {I:Inv} {c:Ctx} {ns:Nat} {A:Nat->Prop} {μ lam:Nat->Nat} {s:St} {a:Act} {w:World}
theorem opd_eval (hI:I.Ok N) (R:Rel N c ns A μ lam s a w) {x:Operand} {y:Opd} {v:V} (hx:opd I x=some y) (hv:evl N.G s y=some v) :
 RepV w A N.nm μ s.heap (a.eval x) v:=by
 cases x with
 | tmp t =>
   simp only [opd,Option.some.injEq] at hx; subst hx
   have he:=R.env t
   simp only [evl] at hv
   split at hv <;> first | (simp at hv; done) | skip
   simp only [Option.some.injEq] at hv; subst hv
   exact he
 | const v0 =>
   simp only [opd,Option.map_eq_some_iff] at hx
   obtain ⟨x0,h0,rfl⟩:=hx
   simp only [evl,Option.some.injEq] at hv; subst hv
   exact constOf_rep h0
 | global g =>
   simp only [opd,Option.map_eq_some_iff] at hx
   obtain ⟨k,h0,rfl⟩:=hx
   simp only [evl,Option.some.injEq] at hv; subst hv
   obtain ⟨rfl,hne⟩:=hI.g g k h0
   have hA:A (N.gm k):=by
    cases hG:N.G k with
    | nil=>exact absurd hG hne
    | cons x l=>exact (R.glob k 0 x (by simp [hG])).1
   show RepC w A N.nm μ s.heap _ _
   refine .t (.ip (N.gm k) 0 (N.G k) (fun j=>(w.cell? ⟨N.gm k,0+j,none⟩).getD undef) hA ?_ ?_)
   ·intro j x hj
    obtain ⟨_,_,v,hv,_⟩:=R.glob k j x hj
    simp [hv]
   ·intro j x hj
    obtain ⟨_,_,v,hv,hr⟩:=R.glob k j x hj
    simpa [hv] using hr
 | func f =>
   simp only [opd,Option.map_eq_some_iff] at hx
   obtain ⟨k,h0,rfl⟩:=hx
   simp only [evl,Option.some.injEq] at hv; subst hv
   have:=hI.f f k h0
   subst this
   show RepC w A N.nm μ s.heap _ _
   exact .t (.fn k [] [] #[] #[] (fun _=>undef) (fun _=>undef) rfl rfl (by simp) (by simp) (by simp) (by simp))
theorem ref_eval (R:Rel N c ns A μ lam s a w) {x:Operand} {y:Opd} {b o:Nat} {cs:List V} (hx:opd I x=some y) (hr:refL s y=some (b,o)) (hb:s.loc b=some cs) :
 a.eval x = .pointer (some ⟨lam b,o,none⟩):=by
 cases x with
 | tmp t =>
   simp only [opd,Option.some.injEq] at hx; subst hx
   simp only [refL] at hr
   split at hr
   ·rename_i r hadr
    simp only [Option.some.injEq] at hr; subst hr
    exact (R.adr t b o hadr).2.2
   ·split at hr <;> first | (simp at hr; done) | skip
    simp only [Option.some.injEq,Prod.mk.injEq] at hr
    obtain ⟨rfl,rfl⟩:=hr
    exact (R.loc t cs hb).1
 | const v0 =>
   simp only [opd,Option.map_eq_some_iff] at hx
   obtain ⟨_,_,rfl⟩:=hx
   simp [refL] at hr
 | global g =>
   simp only [opd,Option.map_eq_some_iff] at hx
   obtain ⟨_,_,rfl⟩:=hx
   simp [refL] at hr
 | func f =>
   simp only [opd,Option.map_eq_some_iff] at hx
   obtain ⟨_,_,rfl⟩:=hx
   simp [refL] at hr
theorem int_eval (hI:I.Ok N) (R:Rel N c ns A μ lam s a w) {x:Operand} {y:Opd} {n:Int} (hx:opd I x=some y) (hv:evInt N.G s y=some n) :
 ∃ k,a.eval x = .int k n:=by
 unfold evInt at hv
 split at hv <;> first | (simp at hv; done) | skip
 rename_i k m he
 simp only [Option.some.injEq] at hv; subst hv
 exact ⟨_,(opd_eval hI R hx he).int_inv⟩
theorem bool_eval (hI:I.Ok N) (R:Rel N c ns A μ lam s a w) {x:Operand} {y:Opd} {b:Bool} (hx:opd I x=some y) (hv:evBool N.G s y=some b) :
 a.eval x = .bool b:=by
 unfold evBool at hv
 split at hv <;> first | (simp at hv; done) | skip
 rename_i m he
 simp only [Option.some.injEq] at hv; subst hv
 exact (opd_eval hI R hx he).bool_inv
end
theorem run_info {P:Program} {w:World} {t:TypeId} {i:TypeInfo} (h:P.info? t=some i):(typeInfo t).run P w = .ok i w:=by
 simp [typeInfo,h]
theorem run_size {P:Program} {w:World} {t:TypeId} {i:TypeInfo} (h:P.info? t=some i):(Go.sizeOf t).run P w = .ok i.size w:=by
 simp [Go.sizeOf,run_info h]
theorem run_und {P:Program} {w:World} {t:TypeId} {d:TypeDesc} (h:P.underlying t=some d):(underlying t).run P w = .ok d w:=by
 simp [underlying,h]
theorem typ_spec {P:Program} {t:TypeId} {ag:Bool} {n:Nat} (h:typ P t=some (ag,n)) :
 ∃ i,P.info? t=some i/\i.size=n/\(ag=false->n=1) /\ ∀ w,(isAgg t).run P w = .ok ag w:=by
 unfold typ at h
 split at h
 ·rename_i i fs h1 h2
  simp only [Option.some.injEq,Prod.mk.injEq] at h
  obtain ⟨rfl,rfl⟩:=h
  exact ⟨i,h1,rfl,by simp,fun w=>by simp [isAgg,run_und h2]⟩
 ·rename_i i l e h1 h2
  simp only [Option.some.injEq,Prod.mk.injEq] at h
  obtain ⟨rfl,rfl⟩:=h
  exact ⟨i,h1,rfl,by simp,fun w=>by simp [isAgg,run_und h2]⟩
 ·rename_i i d h2 h3 h1 h4
  split at h
  ·rename_i hs
   simp only [Option.some.injEq,Prod.mk.injEq] at h
   obtain ⟨rfl,rfl⟩:=h
   refine ⟨i,h1,hs,by simp,fun w => ?_⟩
   simp only [isAgg,Sem.run_bind,run_und h4,Result.andThen_ok]
   cases d <;> simp_all
  ·simp at h
 ·simp at h
def wrapV (ag:Bool) (vs:List Value):Value:=if ag then .agg vs.toArray else vs.headD undef
theorem run_loadVar {P:Program} {w:World} {t:TypeId} {ag:Bool} {n:Nat} (h:typ P t=some (ag,n)) (r off:Nat) (vs:List Value) (hl:vs.length=n)
 (hv : ∀ (j:Nat) (v:Value),vs[j]? = some v->w.cell? ⟨r,off+j,none⟩=some v):(loadVar t ⟨r,off,none⟩).run P w = .ok (wrapV ag vs) w:=by
 obtain ⟨i,h1,rfl,h3,h4⟩:=typ_spec h
 cases ag with
 | true =>
   have hload:=run_loadCells_list (P:=P) (w:=w) ⟨r,off,none⟩ vs (fun j v hj=>by rw [addr_add]; exact hv j v hj)
   rw [hl] at hload
   simp [loadVar,h4 w,run_size h1,hload,wrapV]
 | false =>
   have hn:vs.length=1:=by rw [hl,h3 rfl]
   match vs,hn with
   | [v],_ =>
     have:=hv 0 v rfl
     simp only [Nat.add_zero] at this
     simp [loadVar,h4 w,this,wrapV]
section
variable {w:World} {A:Nat->Prop} {nm μ:Nat->Nat} {H:Nat->Option O}
theorem RepL.rd {vs:List Value} {cs r:List V} {off n:Nat} (h:RepL w A nm μ H vs cs) (hr:rd cs off n=some r) :
 RepL w A nm μ H ((vs.drop off).take n) r/\off+n<=vs.length/\r.length=n:=by
 unfold Rg.rd at hr
 split at hr
 ·rename_i hle
  simp only [Option.some.injEq] at hr; subst hr
  refine ⟨⟨by simp [h.1],fun i c hi => ?_⟩,by rw [h.1]; exact hle,by simp; omega⟩
  simp only [List.getElem?_take,List.getElem?_drop] at hi ⊢
  split at hi
  ·rename_i hin
   obtain ⟨v,hv,hrep⟩:=h.2 _ c hi
   exact ⟨v,by simp [hin,hv],hrep⟩
  ·simp at hi
 ·simp at hr
theorem RepL.wrap1 {vs:List Value} {r:List V} {ag:Bool} {v:V} (h:RepL w A nm μ H vs r) (hw:wrapAg ag r=some v):RepV1 w A nm μ H (wrapV ag vs) v:=by
 cases ag with
 | true =>
   simp only [wrapAg,if_true,Option.some.injEq] at hw; subst hw
   exact ⟨_,rfl,by simpa using h⟩
 | false =>
   simp only [wrapAg,Bool.false_eq_true,if_false] at hw
   split at hw
   ·simp only [Option.some.injEq] at hw; subst hw
    rename_i x
    obtain ⟨u,hu,hr⟩:=h.2 0 x rfl
    match vs,h.1,hu with
    | [u'],_,hu=>simp at hu; subst hu; simpa [wrapV] using hr.toV1
   ·simp at hw
theorem RepL.wrap {vs:List Value} {r:List V} {ag:Bool} {v:V} (h:RepL w A nm μ H vs r) (hw:wrapAg ag r=some v):RepV w A nm μ H (wrapV ag vs) v:=(h.wrap1 hw).toV
end
end Rg
end
