/- Part of the proof of laws of relyguardlaw36. No condition. -/
import Derived.Test.YtaiokglcgiemnaaGreatDoorGartAE
set_option linter.unusedVariables false
set_option linter.defProp false
set_option linter.unusedSimpArgs false
section
namespace Rg
open Go
section
variable {G:Nat->List T} {p:Nat} {s:St} {op:AOp} {e:Eff}
theorem yR (h:ao G p s op=some e):op.wrL=false->e.wloc=none:=by
 intro a;cases op
 all_goals(try(simp[AOp.wrL]at a;done))
 all_goals simp only[ao,zC,zB,zA,cw]at h
 all_goals(try(repeat(first | (obtain⟨_,_,h⟩:=h) | split at h | (simp only[zB,zA]at h))))
 all_goals(try(repeat(first | (obtain⟨_,_,h⟩:=h) | split at h | (simp only[zB,zA]at h))))
 all_goals(try(repeat(first | (obtain⟨_,_,h⟩:=h) | split at h | (simp only[zB]at h))))
 all_goals(try(repeat(first | (obtain⟨_,_,h⟩:=h) | split at h | (simp only[zB]at h))))
 all_goals(try subst h)
 all_goals(try rfl)
 all_goals(try(simp at h;done))
theorem Ve (h:ao G p s op=some e):op.wrH=false-> ∀x∈e.hp,x.1=s.bas+p:=by
 intro b x a;cases op
 all_goals(try(simp[AOp.wrH]at b;done))
 all_goals simp only[ao,zC,zB,zA,cw]at h
 all_goals(try(repeat(first | (obtain⟨_,_,h⟩:=h) | split at h | (simp only[zB,zA]at h))))
 all_goals(try(repeat(first | (obtain⟨_,_,h⟩:=h) | split at h | (simp only[zB,zA]at h))))
 all_goals(try(repeat(first | (obtain⟨_,_,h⟩:=h) | split at h | (simp only[zB]at h))))
 all_goals(try(repeat(first | (obtain⟨_,_,h⟩:=h) | split at h | (simp only[zB]at h))))
 all_goals(try subst h)
 all_goals(try(simp at a;done))
 all_goals(try(simp at h;done))
 all_goals(simp only[cj,ki,dU]at a)
 all_goals(subst a;rfl)
theorem kaf (h:ao G p s op=some e) {b:Nat} {cs:List V} (c:e.wloc=some (b,cs)): ∃x∈op.opds,∃o,bF s x=some (b,o):=by
 cases op
 case storeL n a v=>
  simp only[ao,zC,zB,cw]at h;obtain⟨b',o,f,d,_,v0,_,g,_,h⟩:=h;split at h
  ·simp only[zB,zA]at h;obtain⟨cs',_,rfl⟩:=h;simp only[zA,dx]at c;obtain⟨rfl,_⟩:=c;exact⟨a,by simp[AOp.opds],o,f⟩
  ·simp at h
 all_goals(have:=yR h rfl;rw[this]at c;simp at c)
theorem kag (h:ao G p s op=some e) {b o:Nat} (a:e.adr=some (b,o)): ∃x∈op.opds,∃o',bF s x=some (b,o'):=by
 cases op
 case faddrL off x=>
  simp only[ao,zC,zB,cw,zA]at h;obtain⟨b',o',c,_,_,rfl⟩:=h;simp only[zA,dx]at a;obtain⟨rfl,_⟩:=a;exact⟨x,by simp[AOp.opds],o',c⟩
 case iaddrAL len sz x i=>
  simp only[ao,zC,zB,cw]at h;obtain⟨n,_,b',o',c,_,_,h⟩:=h;split at h
  ·simp only[zA]at h;subst h;simp only[zA,dx]at a;obtain⟨rfl,_⟩:=a;exact⟨x,by simp[AOp.opds],o',c⟩
  ·simp at h
 all_goals exfalso
 all_goals simp only[ao,zC,zB,zA,cw]at h
 all_goals(try(repeat(first | (obtain⟨_,_,h⟩:=h) | split at h | (simp only[zB,zA]at h))))
 all_goals(try(repeat(first | (obtain⟨_,_,h⟩:=h) | split at h | (simp only[zB,zA]at h))))
 all_goals(try(repeat(first | (obtain⟨_,_,h⟩:=h) | split at h | (simp only[zB]at h))))
 all_goals(try(repeat(first | (obtain⟨_,_,h⟩:=h) | split at h | (simp only[zB]at h))))
 all_goals(try subst h)
 all_goals(try(simp at a;done))
 all_goals(try(simp at h;done))
end
inductive DStep (P:Program) (N:Nam) (p:Nat) (o:ROp) (s:St):Eff->Prop where
 | skip (hw:cJ s o.guard=some false):DStep P N p o s {}
 | eff {e:Eff} (hw:cJ s o.guard=some true) (he:ao N.G p s o.op=some e):DStep P N p o s e
 | pure {f:Opd} {args:List Opd} {fv:V} {g:Nat} {a b vs rs:List V} {r:V} {rf:Func} (hw:cJ s o.guard=some true) (ho:o.op= .call false f args) (As:evl N.G s f=some fv)
    (Ax:cG fv=some (g,a,b)) (An:Real P (N.nm g) rf) (Au:cY N.G s args=some vs) (AD:(a++vs++b).mapM (toT1 s.heap)=some rs) (hc:ow P N g rs r)
    (hd:r.scalar=true\/(a++vs++b).flatMap (b_ s.heap)=[]):DStep P N p o s { val:=r }
 | fresh {f:Opd} {args:List Opd} {fv:V} {g:Nat} {a b vs rs:List V} {r:V} {rf:Func} {H':Nat->Option O} {n':Nat} {e:Eff} (hw:cJ s o.guard=some true) (ho:o.op= .fcall f args) (As:evl N.G s f=some fv)
    (Ax:cG fv=some (g,a,b)) (An:Real P (N.nm g) rf) (Au:cY N.G s args=some vs) (AD:(a++vs++b).mapM (toT1 s.heap)=some rs) (hd:(a++vs++b).flatMap (b_ s.heap)=[])
    (hc:m0 P N g rs (fun _=>none) 0 r H' n') (he:ja (s.bas+p) r H'=some e):DStep P N p o s e
def AOp.isRaw:AOp->Bool
 | .call true _ _=>true
 | _=>false
theorem StepG.toD {P:Program} {N:Nam} {p:Nat} {o:ROp} {s w:St} (h:StepG P N true p o s w) (j:o.op.isRaw=false): ∃e,DStep P N p o s e/\s.free o.dst e/\w=s.apply o.dst e:=by
 cases h with
 | skip c a=>exact⟨{},.skip c,a,rfl⟩
 | eff c a i=>exact⟨_,.eff c i,a,rfl⟩
 | pure c a f n r m q k t g=>
   refine⟨_,.pure c f n r m q k t (g rfl),a,?_⟩;rcases g rfl with h | h
   ·rw[ah h]
   ·rw[h];simp[freezes]
 | raw c a f=>rw[f]at j;simp[AOp.isRaw]at j
 | yld c a f=>rw[f]at j;simp[AOp.isRaw]at j
 | fresh c a f n r m q k g t i=>
   refine⟨_,.fresh c f n r m q k g t i,fun d g=>⟨(a d g).1,fun b o v=> ?_⟩,rfl⟩;rw[(rx i).1]at v;simp at v
theorem DStep.toG {P:Program} {N:Nam} {p:Nat} {o:ROp} {s:St} {e:Eff} (h:DStep P N p o s e) (f:s.free o.dst e):StepG P N true p o s (s.apply o.dst e):=by
 cases h with
 | skip a=>exact .skip a f
 | eff a q=>exact .eff a f q
 | pure a r j m i k g n c=>
   have:=StepG.pure (d:=true) (p:=p) a f r j m i k g n (fun _=>c);rcases c with h | h
   ·rw[ah h]at this;exact this
   ·rw[h]at this;simpa[freezes]using this
 | fresh a r j m i k g c n q=>exact .fresh a (fun d c=>⟨(f d c).1,fun b o t=>by simp at t⟩) r j m i k g c n q
def Opd.slots:Opd->List Nat
 | .s t=>[t]
 | _=>[]
def ROp.reads (o:ROp):List Nat:=o.op.opds.flatMap Opd.slots++(match o.guard with | some (g,_)=>[g] | none=>[])
def Rz (N:Nam) (ns:Nat) (s:St):Prop:= ∃c A μ b a w,Rel N c ns A μ b s a w
section
variable {P:Program} {N:Nam} {ns:Nat} {s:St}
theorem Rz.adr (h:Rz N ns s) {t b o:Nat} (d:s.adr t=some (b,o)):s.used b=true:=by
 obtain⟨c,A,μ,f,a,w,R⟩:=h;exact(R.adr t b o d).1
theorem Rz.fresh (h:Rz N ns s) {k:Nat} (b:s.nxt<=k):s.heap k=none:=by
 obtain⟨c,A,μ,d,a,w,R⟩:=h;exact R.fresh k b
theorem RepC.top_some {w:World} {A:Nat->Prop} {nm μ:Nat->Nat} {H:ae} {v:Value} {x:V} (h:RepC w A nm μ H v x): ∀k∈x.top,∃o,H k=some o:=by
 intro k a;cases h<;>simp[V.top]at a<;>subst a<;>exact⟨_,‹_›⟩
theorem aO.top_some {w:World} {A:Nat->Prop} {nm μ:Nat->Nat} {H:ae} {v:Value} {x:V} (h:aO w A nm μ H v x): ∀k∈x.top,∃o,H k=some o:=by
 intro k a
 cases x with
 | ms _ _ _=>exact RepC.top_some h k a
 | mp _ _ _=>exact RepC.top_some h k a
 | mm _=>exact RepC.top_some h k a
 | _=>simp[V.top]at a
def V.isT:V->Bool
 | .t _=>true
 | _=>false
def V.noref:V->Bool
 | .t _=>true
 | .agg cs=>cs.all V.isT
 | _=>false
def Opd.plain:Opd->Bool
 | .c v=>v.noref
 | _=>true
theorem Rz.top (h:Rz N ns s) {x:Opd} {v:V} (hp:x.plain=true) (b:evl N.G s x=some v): ∀k∈v.top,∃o,s.heap k=some o:=by
 obtain⟨c,A,μ,f,a,w,R⟩:=h;intro k d
 cases x with
 | s t=>
   simp only[evl]at b;split at b<;>first | (simp at b;done) | skip
   simp only[zA]at b;subst b
   exact(R.env t).top_some k d
 | c u=>
   simp only[evl,zA]at b;subst b
   cases u<;>simp[Opd.plain,V.noref]at hp<;>simp[V.top]at d
 | g q=>
   simp only[evl,zA]at b;subst b;simp[V.top]at d
theorem sj {w:World} {A:Nat->Prop} {N:Nam} {μ:Nat->Nat} {H m:ae} (Y: ∀k o,H k=some o->i7 w A N μ H (μ k) o) (C: ∀k o,H k=some o->m k=some o):
 ∀(d:Nat) (x:V) (v:Value),RepC w A N.nm μ H v x->toT H d x=toT m d x:=by
 intro d
 induction d with
 | zero=>intro x v _;cases x<;>rfl
 | succ d J=>
   intro x v E
   have Q: ∀{k F:Nat} {rs:List (List V)} {f:Bool} (c:H k=some (.rows F rs f)) (i:Nat) (row:List V),rs[i]? =some row-> ∀(j:Nat) (y:V),row[j]? =some y->toT H d y=toT m d y:=by
    intro k F rs f c i row hi j y g;obtain⟨cc,e0,z,h1,h2,h3,h4,X⟩:=Y k _ c;obtain⟨u,_,Z⟩:=X i row j y hi g;exact J y u Z
   have D: ∀(l:List V),(∀(j:Nat) (y:V),l[j]? =some y->toT H d y=toT m d y)->l.mapM (toT H d)=l.mapM (toT m d):=by
    intro l
    induction l with
    | nil=>intro _;rfl
    | cons y l K=>
      intro h;rw[cQ,cQ,h 0 y rfl,K (fun j z g=>h (j+1) z (al g))]
   cases x with
   | t y=>rfl
   | ms k i len=>
     obtain⟨o,c⟩:=E.top_some k (by simp[V.top]);simp only[toT,c,C k o c]
     cases o with
     | rows F rs f=>
       simp only
       cases B:rd rs i len with
       | none=>rfl
       | some r=>
         simp only[zC,zD]
         have R: ∀(q:Nat) (row:List V),r[q]? =some row->row.mapM (toT H d)=row.mapM (toT m d):=by
          intro q row n;unfold rd at B;split at B
          ·simp only[zA]at B;subst B;rw[zO]at n;split at n
           ·rw[fx]at n;exact D row (fun j y g=>Q c _ row n j y g)
           ·simp at n
          ·simp at B
         have:r.mapM (fun row=>row.mapM (toT H d))=r.mapM (fun row=>row.mapM (toT m d)):=by
          clear B
          induction r with
          | nil=>rfl
          | cons row r L=>
            rw[cQ,cQ,R 0 row rfl,L (fun q row n=>R (q+1) row (al n))]
         rw[this]
     | map es=>rfl
     | loop _ _ _ _=>rfl
     | raw _=>rfl
     | dead=>rfl
   | mp k i M=>
     obtain⟨o,c⟩:=E.top_some k (by simp[V.top]);simp only[toT,c,C k o c]
     cases o with
     | rows F rs f=>
       simp only
       cases W:rs[i]? with
       | none=>rfl
       | some row=>
         simp only[zC,zD]
         rw[D (row.drop M) (fun j y g=>by rw[fx]at g;exact Q c i row W _ y g)]
     | map es=>rfl
     | loop _ _ _ _=>rfl
     | raw _=>rfl
     | dead=>rfl
   | fn f a b=>
     cases E with
     | fn _ _ _ va vb fa fb ha hb Bu S Di U=>
       simp only[toT]
       rw[D a (fun j y g=>J y _ (S j y g)),D b (fun j y g=>J y _ (U j y g))]
   | mm k=>
     cases E with
     | mm _ es c=>simp only[toT,c,C k _ c]
     | dmm _ c _=>simp only[toT,c,C k _ c]
   | yl k=>rfl
   | agg cs=>rfl
   | tup cs=>rfl
   | undef=>rfl
   | lb=>rfl
theorem xG {w:World} {A:Nat->Prop} {N:Nam} {μ:Nat->Nat} {H m:ae} (d: ∀k o,H k=some o->i7 w A N μ H (μ k) o) (c: ∀k o,H k=some o->m k=some o) {x:V} {v:Value} (g:aO w A N.nm μ H v x):
 toT1 H x=toT1 m x:=by
 cases x with
 | agg cs=>
   obtain⟨vs,_,r⟩:=g;simp only[toT1]
   congr 1
   have : ∀(l:List V),(∀(j:Nat) (y:V),l[j]? =some y->toT H 1000 y=toT m 1000 y)->l.mapM (toT H 1000)=l.mapM (toT m 1000):=by
    intro l
    induction l with
    | nil=>intro _;rfl
    | cons y l q=>
      intro h;rw[cQ,cQ,h 0 y rfl,q (fun j z n=>h (j+1) z (al n))]
   exact this cs (fun j y n=>let⟨u,_,hu⟩:=r.2 j y n;sj d c 1000 y u hu)
 | tup cs=>rfl
 | undef=>rfl
 | lb=>rfl
 | t y=>rfl
 | ms k i l=>simp only[toT1];rw[sj d c 1000 _ v g]
 | mp k i o=>simp only[toT1];rw[sj d c 1000 _ v g]
 | mm k=>simp only[toT1];rw[sj d c 1000 _ v g]
 | yl k=>rfl
 | fn f a b=>simp only[toT1];rw[sj d c 1000 _ v g]
theorem Yj {H b:ae} {x:V} (h:x.noref=true):toT1 H x=toT1 b x:=by
 cases x with
 | t y=>rfl
 | agg cs=>
   simp only[toT1]
   congr 1
   have : ∀(l:List V),l.all V.isT=true->l.mapM (toT H 1000)=l.mapM (toT b 1000):=by
    intro l
    induction l with
    | nil=>intro _;rfl
    | cons y l a=>
      intro h;simp only[ey,zF]at h;rw[cQ,cQ,a h.2];cases y<;>simp[V.isT]at h
      rfl
   exact this cs h
 | _=>simp[V.noref]at h
theorem Rz.one (h:Rz N ns s) {d:ae} (f: ∀k o,s.heap k=some o->d k=some o) {x:Opd} {v:V} (hp:x.plain=true) (b:evl N.G s x=some v):toT1 s.heap v=toT1 d v:=by
 obtain⟨c,A,μ,i,a,w,R⟩:=h
 cases x with
 | s t=>
   simp only[evl]at b;split at b<;>first | (simp at b;done) | skip
   simp only[zA]at b;subst b
   exact xG R.heap f (R.env t)
 | c u=>
   simp only[evl,zA]at b;subst b
   exact Yj hp
 | g q=>
   simp only[evl,zA]at b;subst b;rfl
theorem Xt (H a:ae) (c:List T):Rg.toT1 H (.agg (c.map V.t))=Rg.toT1 a (.agg (c.map V.t)):=by
 have:(c.map V.t).mapM (toT H 1000)=(c.map V.t).mapM (toT a 1000):=by
  induction c with
  | nil=>rfl
  | cons x r b=>rw[aT,cQ,cQ,b];rfl
 simp only[Rg.toT1,this]
theorem Rz.toT1 (h:Rz N ns s) {n:ae} (v: ∀k o,s.heap k=some o->n k=some o) {f:Opd} {args:List Opd} {F:V} {g:Nat} {a b vs:List V}
 (Q:f.plain=true) (L: ∀x∈args,x.plain=true) (m:evl N.G s f=some F) (j:cG F=some (g,a,b)) (J:cY N.G s args=some vs):
 (a++vs++b).mapM (Rg.toT1 s.heap)=(a++vs++b).mapM (Rg.toT1 n):=by
 have D: ∀(l:List V),(∀x∈l,Rg.toT1 s.heap x=Rg.toT1 n x)->l.mapM (Rg.toT1 s.heap)=l.mapM (Rg.toT1 n):=by
  intro l
  induction l with
  | nil=>intro _;rfl
  | cons y l C=>
    intro h;rw[cQ,cQ,h y fh,C (fun z X=>h z (gt _ X))]
 have E: ∀x,x∈a\/x∈b->Rg.toT1 s.heap x=Rg.toT1 n x:=by
  intro x d;obtain⟨c,A,μ,Y,S,w,R⟩:=h;unfold cG at j;split at j
  ·simp only[zA,dx]at j;obtain⟨rfl,rfl,rfl⟩:=j
   cases f with
   | s t=>
     simp only[evl]at m;split at m<;>first | (simp at m;done) | skip
     simp only[zA]at m;have B:=R.env t;rw[m]at B
     generalize S.tmps.getD t undef=v0 at B
     cases(B:RepC w A N.nm μ s.heap v0 _)with
     | fn _ _ _ va vb fa fb ha hb Z K Di M=>
       rcases d with d | d
       ·obtain⟨i,hi,r⟩:=pY d;exact xG R.heap v (K i x (by rw[zI hi,r])).toV
       ·obtain⟨i,hi,r⟩:=pY d
        exact xG R.heap v (M i x (by rw[zI hi,r])).toV
   | c u=>
     simp only[evl,zA]at m;subst m
     simp[Opd.plain,V.noref]at Q
   | g q=>simp[evl]at m
  ·simp only[zA,dx]at j;obtain⟨rfl,rfl,rfl⟩:=j
   have : ∃y,x= .t y:=by
    rcases d with d | d<;>(simp only[cy]at d;obtain⟨y,_,rfl⟩:=d;exact⟨y,rfl⟩)
   obtain⟨y,rfl⟩:=this;rfl
  ·simp only[zA,dx]at j;obtain⟨rfl,rfl,rfl⟩:=j;rcases d with d | d
   ·simp only[bB]at d;subst d;exact Xt _ _ _
   ·simp at d
  ·simp at j
 refine D _ (fun x d=> ?_);simp only[cz]at d;rcases d with(d | d) | d
 ·exact E x (.inl d)
 ·obtain⟨h1,U⟩:=xq J;obtain⟨i,hi,r⟩:=pY d;obtain⟨y,W,H⟩:=U i x (by rw[zI hi,r]);exact h.one v (L y (zL W)) H
 ·exact E x (.inr d)
theorem MN {H j:ae}: ∀(d:Nat) (x:V),cn H d x=[]->cn j d x=[]:=by
 intro d
 induction d with
 | zero=>intro x _;cases x<;>rfl
 | succ d g=>
   intro x h
   cases x with
   | ms k i l=>simp[cn]at h
   | mp k i o=>simp[cn]at h
   | fn f a b=>
     simp only[cn,vY,no]at h⊢
     exact⟨fun y c=>g y (h.1 y c),fun y c=>g y (h.2 y c)⟩
   | _=>rfl
theorem ui {H a:ae} {l:List V} (h:l.flatMap (b_ H)=[]):l.flatMap (b_ a)=[]:=by
 rw[no]at h⊢;intro x b;have:=h x b
 cases x with
 | agg cs=>
   simp only[b_,no]at this⊢
   exact fun y c=>MN 1000 y (this y c)
 | _=>exact MN (H:=H) 1000 _ this
theorem DStep.transfer (Q:Rz N ns s) {p:Nat} {x:ROp} {d:Option Nat} {e' e:Eff} (D: ∀y∈x.op.opds,y.plain=true) (Z: ∀t∈x.reads,d≠some t) (KD: ∀R,d=some R->s.used R=false)
 (hL:x.op.rdL=true->e'.wloc=none) (S:x.op.rdH=true-> ∀k o,s.heap k=some o->(s.apply d e').heap k=some o):
 DStep P N p x s e<->DStep P N p x (s.apply d e') e:=by
 have W: ∀t,d≠some t->(s.apply d e').env t=s.env t:=by
  intro t U
  cases d with
  | none=>rfl
  | some R=>simp only[St.apply];exact aP _ _ (fun h=>U (by rw[h]))
 have CI: ∀t,d≠some t->(s.apply d e').adr t=s.adr t:=by
  intro t U
  cases d with
  | none=>rfl
  | some R=>simp only[St.apply];exact aP _ _ (fun h=>U (by rw[h]))
 have V: ∀y∈x.op.opds,∀t∈y.slots,d≠some t:=by
  intro y a t U;exact Z t (ii _ (dk.2 ⟨y,a,U⟩))
 have C: ∀y∈x.op.opds,evl N.G s y=evl N.G (s.apply d e') y:=by
  intro y a
  cases y with
  | s t=>simp only[evl,W t (V _ a t (by simp[Opd.slots]))]
  | c v=>rfl
  | g q=>rfl
 have w: ∀y∈x.op.opds,bF s y=bF (s.apply d e') y:=by
  intro y a
  cases y with
  | s t=>simp only[bF,W t (V _ a t (by simp[Opd.slots])),CI t (V _ a t (by simp[Opd.slots]))]
  | c v=>rfl
  | g q=>rfl
 have F9:x.op.rdL=true-> ∀y∈x.op.opds,∀b o,bF s y=some (b,o)->s.loc b=(s.apply d e').loc b:=by
  intro X y a b o w;have j:=hL X
  have Kz:d≠some b:=by
   cases y with
   | s t=>
     simp only[bF]at w;split at w
     ·rename_i q hq;simp only[zA]at w;subst w;intro E;have h1:=Q.adr hq;rw[KD b E]at h1;simp at h1
     ·split at w<;>first | (simp at w;done) | skip
      simp only[zA,dx]at w;obtain⟨rfl,_⟩:=w
      exact V _ a t (by simp[Opd.slots])
   | c v=>simp[bF]at w
   | g q=>simp[bF]at w
  cases d with
  | none=>simp only[St.apply,j]
  | some R=>simp only[St.apply,j];rw[aP _ _ (fun h=>Kz (by rw[h]))]
 have Ar:x.op.rdH=true-> ∀y∈x.op.opds,∀v,evl N.G s y=some v-> ∀k∈v.top,s.heap k=(s.apply d e').heap k:=by
  intro X y a v hv k hk;obtain⟨o,i⟩:=Q.top (D y a) hv k hk;rw[i,S X k o i]
 have F:cJ s x.guard=cJ (s.apply d e') x.guard:=by
  cases hg:x.guard with
  | none=>rfl
  | some gw=>
    obtain⟨g,wnt⟩:=gw;simp only[cJ,W g (Z g (by simp[ROp.reads,hg]))]
 have Hj:ao N.G p s x.op=ao N.G p (s.apply d e') x.op:=uk C w F9 Ar rfl;have GZ: ∀{r:Bool} {f:Opd} {args:List Opd},x.op= .call r f args->x.op.rdH=true:=by intro r f args h;rw[h];rfl
 have Y: ∀{r:Bool} {f:Opd} {args:List Opd},x.op= .call r f args->f∈x.op.opds/\ ∀y∈args,y∈x.op.opds:=by
  intro r f args h;rw[h];simp only[AOp.opds];exact⟨fh,fun y a=>gt _ a⟩
 have Ha: ∀{f:Opd} {args:List Opd},x.op= .fcall f args->x.op.rdH=true:=by intro f args h;rw[h];rfl
 have Hh: ∀{f:Opd} {args:List Opd},x.op= .fcall f args->f∈x.op.opds/\ ∀y∈args,y∈x.op.opds:=by
  intro f args h;rw[h];simp only[AOp.opds];exact⟨fh,fun y a=>gt _ a⟩
 constructor
 ·intro h
  cases h with
  | fresh j i m z J n H E M O=>
    obtain⟨A,B⟩:=Hh i;have K:=S (Ha i);have L:=Q.toT1 K (D _ A) (fun y a=>D y (B y a)) m z n
    exact .fresh (F▸j) i (by rw[<- C _ A];exact m) z J (by rw[<- kC (fun y a=>C y (B y a))];exact n) (by rw[<- L];exact H) (ui E) M O
  | skip j=>exact .skip (F▸j)
  | eff j O=>exact .eff (F▸j) (Hj▸O)
  | pure j i m z J n H M E=>
    obtain⟨A,B⟩:=Y i;have K:=S (GZ i);have L:=Q.toT1 K (D _ A) (fun y a=>D y (B y a)) m z n;refine .pure (F▸j) i (by rw[<- C _ A];exact m) z J (by rw[<- kC (fun y a=>C y (B y a))];exact n) (by rw[<- L];exact H) M (E.imp id ui)
 ·intro h
  cases h with
  | skip j=>exact .skip (F▸j)
  | eff j O=>exact .eff (F▸j) (Hj▸O)
  | pure j i m z J n H M E=>
    obtain⟨A,B⟩:=Y i;have K:=S (GZ i);rw[<- C _ A]at m;rw[<- kC (fun y a=>C y (B y a))]at n;have L:=Q.toT1 K (D _ A) (fun y a=>D y (B y a)) m z n
    refine .pure (F▸j) i m z J n (by rw[L];exact H) M (E.imp id ui)
  | fresh j i m z J n H E M O=>
    obtain⟨A,B⟩:=Hh i;have K:=S (Ha i);rw[<- C _ A]at m;rw[<- kC (fun y a=>C y (B y a))]at n;have L:=Q.toT1 K (D _ A) (fun y a=>D y (B y a)) m z n;exact .fresh (F▸j) i m z J n (by rw[L];exact H) (ui E) M O
theorem jw {h:ae} {k:Nat}: ∀{l:List (Nat×O)} ,(∀x∈l,x.1≠k)->bl h l k=h k:=by
 intro l
 induction l generalizing h with
 | nil=>intro _;rfl
 | cons x l c=>
   intro a;obtain⟨q,o⟩:=x;simp only[bl];rw[c (fun y b=>a y (gt _ b)),aP _ _ (bX (a (q,o) fh))]
theorem Le {h h':ae} {k:Nat}: ∀{l:List (Nat×O)},(∃x∈l,x.1=k)->bl h l k=bl h' l k:=by
 intro l
 induction l generalizing h h' with
 | nil=>rintro⟨x,f,_⟩;simp at f
 | cons x l i=>
   rintro⟨y,c,b⟩;obtain⟨q,o⟩:=x;simp only[bl]
   by_cases d: ∃z∈l,z.1=k
   ·exact i d
   ·have a: ∀z∈l,z.1≠k:=fun z g e=>d ⟨z,g,e⟩
    rw[jw a,jw a];rcases cj.1 c with rfl | c
    ·simp only at b;subst b;simp
    ·exact absurd b (a y c)
theorem Y' {h:ae} {l m:List (Nat×O)} (i: ∀x∈l,∀y∈m,x.1≠y.1):bl (bl h l) m=bl (bl h m) l:=by
 funext k
 by_cases f: ∃x∈l,x.1=k
 ·obtain⟨x,a,rfl⟩:=f;rw[jw (l:=m) (fun y b e=>i x a y b e.symm)];exact Le ⟨x,a,rfl⟩
 ·have c: ∀x∈l,x.1≠k:=fun x a e=>f ⟨x,a,e⟩
  rw[jw (l:=l) (h:=bl h m) c]
  by_cases g: ∃y∈m,y.1=k
  ·exact Le g
  ·have d: ∀y∈m,y.1≠k:=fun y b e=>g ⟨y,b,e⟩
   rw[jw d,jw d,jw c]
theorem lH {α:Type} {f:Nat->α} {i j:Nat} {a b:α} (h:i≠j):upd (upd f i a) j b=upd (upd f j b) i a:=by
 funext k
 simp only[upd]
 by_cases c:k=i
 ·subst c;simp[h]
 ·by_cases d:k=j
  ·subst d;simp[c]
  ·simp[c,d]
theorem r9 {d g:Option Nat} {i j:Eff} (n: ∀x,d=some x->g≠some x) (m:i.wloc=none\/j.wloc=none) (z: ∀b cs,i.wloc=some (b,cs)->g≠some b) (C: ∀b cs,j.wloc=some (b,cs)->d≠some b)
 (D: ∀x∈i.hp,∀y∈j.hp,x.1≠y.1):(s.apply d i).apply g j=(s.apply g j).apply d i:=by
 have F:((s.apply d i).apply g j).env=((s.apply g j).apply d i).env:=by
  cases d<;>cases g<;>simp only[St.apply]
  rename_i a b;exact lH (fun h=>n a rfl (by rw[h]))
 have E:((s.apply d i).apply g j).adr=((s.apply g j).apply d i).adr:=by
  cases d<;>cases g<;>simp only[St.apply]
  rename_i a b;exact lH (fun h=>n a rfl (by rw[h]))
 have H:((s.apply d i).apply g j).used=((s.apply g j).apply d i).used:=by
  simp only[St.apply];cases i.adr<;>cases j.adr<;>simp only
  funext k
  simp only[upd];split<;>split<;>rfl
 have J:((s.apply d i).apply g j).heap=((s.apply g j).apply d i).heap:=Y' D
 have K:((s.apply d i).apply g j).loc=((s.apply g j).apply d i).loc:=by
  simp only[St.apply];rcases m with m | m
  ·cases v:j.wloc with
   | none=>
     simp only[m];cases d<;>cases g<;>simp only
     rename_i a b
     exact lH (fun h=>n a rfl (by rw[h]))
   | some q=>
     obtain⟨b,cs⟩:=q;simp only[m];have o:=C b cs v
     cases d with
     | none=>rfl
     | some a=>
       have t:a≠b:=fun h=>o (by rw[h])
       cases g with
       | none=>simp only;exact lH t
       | some c=>
         simp only;rw[lH (f:=s.loc) t];exact lH (fun h=>n a rfl (by rw[h]))
  ·cases w:i.wloc with
   | none=>
     simp only[m];cases d<;>cases g<;>simp only
     rename_i a b
     exact lH (fun h=>n a rfl (by rw[h]))
   | some q=>
     obtain⟨b,cs⟩:=q;simp only[m];have o:=z b cs w
     cases g with
     | none=>rfl
     | some c=>
       have r:c≠b:=fun h=>o (by rw[h])
       cases d with
       | none=>simp only;exact(lH r).symm
       | some a=>
         simp only;rw[lH (f:=s.loc) r];exact lH (fun h=>n a rfl (by rw[h]))
 have L:((s.apply d i).apply g j).nxt=((s.apply g j).apply d i).nxt:=rfl;have o:((s.apply d i).apply g j).bas=((s.apply g j).apply d i).bas:=rfl
 generalize(s.apply d i).apply g j=A at *
 generalize(s.apply g j).apply d i=B at *
 cases A;cases B
 simp_all
def u9 (a b:ROp):Bool:=
 (match a.dst with | some d=> !b.reads.contains d&&b.dst != some d | none=>true)&&
 (match b.dst with | some d=> !a.reads.contains d | none=>true)&&
 !(a.op.wrH&&b.op.rdH)&& !(b.op.wrH&&a.op.rdH)&& !(a.op.wrL&&(b.op.rdL||b.op.mkL))&& !(b.op.wrL&&(a.op.rdL||a.op.mkL))&&
 !a.op.isRaw&& !b.op.isRaw&&a.op.opds.all Opd.plain&&b.op.opds.all Opd.plain
structure Indep (a b:ROp):Prop where
 d1: ∀t∈b.reads,a.dst≠some t
 d12: ∀x,a.dst=some x->b.dst≠some x
 d2: ∀t∈a.reads,b.dst≠some t
 h1:a.op.wrH=true->b.op.rdH=false
 h2:b.op.wrH=true->a.op.rdH=false
 l1:a.op.wrL=true->b.op.rdL=false/\b.op.mkL=false
 l2:b.op.wrL=true->a.op.rdL=false/\a.op.mkL=false
 r1:a.op.isRaw=false
 r2:b.op.isRaw=false
 p1: ∀y∈a.op.opds,y.plain=true
 p2: ∀y∈b.op.opds,y.plain=true
theorem Y_ {a b:ROp} (h:u9 a b=true):Indep a b:=by
 simp only[u9,zF,eI,lA,zN]at h;obtain⟨⟨⟨⟨⟨⟨⟨⟨⟨d,i⟩,k⟩,m⟩,n⟩,o⟩,q⟩,r⟩,v⟩,g⟩:=h;refine⟨?_,?_,?_,?_,?_,?_,?_,q,r,v,g⟩
 ·intro t j f;rw[f]at d;simp at d;exact d.1 j
 ·intro x w f;rw[w]at d;simp[f]at d
 ·intro t j f;rw[f]at i;simp at i;exact i j
 ·intro c;rcases k with h | h
  ·rw[c]at h;simp at h
  ·exact h
 ·intro c;rcases m with h | h
  ·rw[c]at h;simp at h
  ·exact h
 ·intro c;rcases n with h | h
  ·rw[c]at h;simp at h
  ·simpa using h
 ·intro c;rcases o with h | h
  ·rw[c]at h;simp at h
  ·simpa using h
theorem kb0 {op:AOp} (h:op.rdH=false):op.wrH=false:=by cases op<;>simp_all [AOp.rdH,AOp.wrH]
theorem kbZ {op:AOp} (h:op.rdL=false):op.wrL=false:=by cases op<;>simp_all [AOp.rdL,AOp.wrL]
theorem DStep.shape {p:Nat} {x:ROp} {e:Eff} (h:DStep P N p x s e):
 (x.op.wrL=false->e.wloc=none)/\(x.op.wrH=false-> ∀y∈e.hp,y.1=s.bas+p)/\(∀y∈e.hp,y.1=s.bas+p\/(s.heap y.1).isSome=true)/\
 (∀b cs,e.wloc=some (b,cs)-> ∃y∈x.op.opds,∃o,bF s y=some (b,o))/\(∀b o,e.adr=some (b,o)-> ∃y∈x.op.opds,∃o,bF s y=some (b,o)):=by
 cases h with
 | skip d=>exact⟨fun _=>rfl,fun _=>af,af,af,af⟩
 | eff d c=>exact⟨yR c,Ve c,S5 c,fun b cs a=>kaf c a,fun b o a=>kag c a⟩
 | pure d t j m i k g q r=>exact⟨fun _=>rfl,fun _=>af,af,af,af⟩
 | fresh d t j m i k g r q c=>
   obtain⟨n,w,f⟩:=rx c;exact⟨fun _=>f,fun _=>zf c,fun y v=> .inl (zf c y v),fun b cs a=>by rw[f]at a;simp at a,fun b o a=>by rw[n]at a;simp at a⟩
theorem pW (j:Rz N ns s) {y:Opd} {b o d:Nat} (h:bF s y=some (b,o)) (f:d∉ y.slots) (i:s.used d=false):b≠d:=by
 cases y with
 | s t=>
   simp only[bF]at h;split at h
   ·rename_i q a;simp only[zA]at h;subst h;rintro rfl;have:=j.adr a;rw[i]at this;simp at this
   ·split at h<;>first | (simp at h;done) | skip
    simp only[zA,dx]at h;obtain⟨rfl,_⟩:=h;rintro rfl
    simp[Opd.slots]at f
 | c v=>simp[bF]at h
 | g q=>simp[bF]at h
theorem swap (C:Rz N ns s) {z w:Nat} {j i:ROp} {g a:Eff} (f:Indep j i) (Kl:z≠w) (fj:s.heap (s.bas+z)=none) (fi:s.heap (s.bas+w)=none)
 (hj:DStep P N z j s g) (M:s.free j.dst g) (hi:DStep P N w i (s.apply j.dst g) a) (BJ:(s.apply j.dst g).free i.dst a):
 DStep P N w i s a/\s.free i.dst a/\DStep P N z j (s.apply i.dst a) g/\(s.apply i.dst a).free j.dst g/\(s.apply j.dst g).apply i.dst a=(s.apply i.dst a).apply j.dst g:=by
 obtain⟨F,H,W,X,sj5⟩:=hj.shape
 have LE:i.op.rdH=true-> ∀k o,s.heap k=some o->(s.apply j.dst g).heap k=some o:=by
  intro m k o r
  have J:j.op.wrH=false:=by
   cases n:j.op.wrH with
   | false=>rfl
   | true=>have:=f.h1 n;rw[m]at this;simp at this
  show bl s.heap g.hp k=some o;rw[jw,r];intro x v e;have:=H J x v;rw[e]at this;rw[this,fj]at r;simp at r
 have IF:i.op.rdL=true->g.wloc=none:=by
  intro m;refine F ?_
  cases n:j.op.wrL with
  | false=>rfl
  | true=>have:=(f.l1 n).1;rw[m]at this;simp at this
 have Y:DStep P N w i s a:=(DStep.transfer C f.p2 f.d1 (fun Q h=>(M Q h).1) IF LE).2 hi
 have O:s.free i.dst a:=by
  intro d h;obtain⟨c,R⟩:=BJ d h;refine⟨?_,R⟩
  cases hu:s.used d with
  | false=>rfl
  | true=>have:=pB (d:=j.dst) (e:=g) hu;rw[c]at this;simp at this
 obtain⟨D,E,S,U,V⟩:=Y.shape
 have GU:j.op.rdH=true-> ∀k o,s.heap k=some o->(s.apply i.dst a).heap k=some o:=by
  intro m k o r
  have L:i.op.wrH=false:=by
   cases n:i.op.wrH with
   | false=>rfl
   | true=>have:=f.h2 n;rw[m]at this;simp at this
  show bl s.heap a.hp k=some o;rw[jw,r];intro x v e;have:=E L x v;rw[e]at this;rw[this,fi]at r;simp at r
 have O5:j.op.rdL=true->a.wloc=none:=by
  intro m;refine D ?_
  cases n:i.op.wrL with
  | false=>rfl
  | true=>have:=(f.l2 n).1;rw[m]at this;simp at this
 have Dp:DStep P N z j (s.apply i.dst a) g:=(DStep.transfer C f.p1 f.d2 (fun Q h=>(O Q h).1) O5 GU).1 hj;have K: ∀{x:ROp} {y:Opd},y∈x.op.opds-> ∀t∈y.slots,t∈x.reads:=fun q t ht=>ii _ (dk.2 ⟨_,q,ht⟩)
 have GT:(s.apply i.dst a).free j.dst g:=by
  intro d h;obtain⟨c,R⟩:=M d h;refine⟨?_,R⟩;simp only[St.apply]
  cases ha:a.adr with
  | none=>exact c
  | some bo=>
    obtain⟨b,o⟩:=bo;obtain⟨y,q,o',m⟩:=V b o ha;have B:b≠d:=pW C m (fun A=>f.d1 d (K q d A) h) c;simp only[aP _ _ (bX B)];exact c
 refine⟨Y,O,Dp,GT,r9 f.d12 ?_ ?_ ?_ ?_⟩
 ·cases n:j.op.wrL with
  | false=>exact .inl (F n)
  | true=>exact .inr (D (kbZ (f.l1 n).1))
 ·intro b cs B h;obtain⟨y,q,o',m⟩:=X b cs B;exact pW C m (fun A=>f.d2 b (K q b A) h) (O b h).1 rfl
 ·intro b cs B h;obtain⟨y,q,o',m⟩:=U b cs B;exact pW C m (fun A=>f.d1 b (K q b A) h) (M b h).1 rfl
 ·intro x v y q e;have Z:s.bas+z≠s.bas+w:=aa
  by_cases J:j.op.wrH=true
  ·have L:=kb0 (f.h1 J);have e2:=E L y q;rcases W x v with c | c
   ·exact Z (by rw[<- c,<- e2,e])
   ·rw[e,e2,fi]at c;simp at c
  ·have e1:=H (al J) x v;rcases S y q with c | c
   ·exact Z (by rw[<- e1,<- c,e])
   ·rw[<- e,e1,fj]at c;simp at c
def AOp.isApp:AOp->Bool
 | .append _ _ _ _=>true
 | _=>false
theorem jS {op:AOp} (h:op.looks=true):op.wrH=false/\op.wrL=false/\op.isRaw=false/\op.rdL=false:=by
 cases op<;>simp_all [AOp.looks,AOp.wrH,AOp.wrL,AOp.isRaw,AOp.rdL]
theorem xt {G:Nat->List T} {y:Opd} {n:Int} {v:V} (h:eZ G s y=some n) (b:evl G s y=some v):v.top=[]:=by
 unfold eZ at h;rw[b]at h;split at h
 ·rename_i a;cases a;rfl
 ·cases h
theorem Zt {op:AOp} {p:Nat} {G:Nat->List T} {e:Eff} (B:op.looks=true) (c:ao G p s op=some e):
 ∀y∈op.opds,∀v,evl G s y=some v-> ∀k∈v.top,s.heap k≠some .dead:=by
 intro y b v f k a g;cases op<;>simp only[AOp.looks,zG]at B
 ·simp only[AOp.opds,bB]at b;subst b;simp only[ao,f,zC,zD]at c;cases v<;>simp[V.top]at a<;>subst a<;>simp[g]at c
 ·simp only[AOp.opds,bB]at b;subst b;simp only[ao,f,zC,zD]at c;cases v<;>simp[V.top]at a<;>subst a<;>simp[g]at c
 ·rename_i E x lo hi mx;simp only[AOp.opds,cj,cz,Option.mem_toList]at b;simp only[ao,zC,zB]at c;obtain⟨u,r,n,j,h,A,l,w,c⟩:=c
  have t: ∀{q:Opd} {d:Nat} {z:Option Opd} {m:Int},z=some q->eY G s d z=some m->evl G s q=some v->v.top=[]:=by
   intro q d z m D o C;subst D;exact xt o C
  rcases b with rfl | (b | b) | b
  ·obtain rfl:=pa (r.symm.trans f);cases u<;>simp[V.top]at a<;>subst a<;>simp[lenOf,g]at j
  ·rw[t b w f]at a;simp at a
  ·rw[t b A f]at a;simp at a
  ·subst b;simp only[zB]at c;obtain⟨m,o,_⟩:=c;rw[xt o f]at a;simp at a
 ·simp only[AOp.opds,bB]at b;subst b;simp only[ao,f,zC,zD]at c;cases v<;>simp[V.top]at a<;>subst a<;>simp[g]at c
 ·rename_i E x i;simp only[AOp.opds,cj,ki,dU]at b;simp only[ao,zC,zB]at c;obtain⟨n,j,u,r,c⟩:=c;rcases b with rfl | rfl
  ·obtain rfl:=pa (r.symm.trans f);cases u<;>simp[V.top]at a<;>subst a<;>simp[g]at c
  ·rw[xt j f]at a;simp at a
 ·simp only[AOp.opds,bB]at b;subst b;simp only[ao,f,zC,zD,zB]at c;obtain⟨n,j,_⟩:=c;cases v<;>simp[V.top]at a<;>subst a<;>simp[lenOf,g]at j
def uR (a b:ROp):Bool:=
 (match a.dst with | some d=> !b.reads.contains d&&b.dst != some d | none=>true)&&
 (match b.dst with | some d=> !a.reads.contains d | none=>true)&&a.op.isApp&&b.op.looks&&a.op.opds.all Opd.plain&&b.op.opds.all Opd.plain
structure IndepX (a b:ROp):Prop where
 d1: ∀t∈b.reads,a.dst≠some t
 d12: ∀x,a.dst=some x->b.dst≠some x
 d2: ∀t∈a.reads,b.dst≠some t
 ap:a.op.isApp=true
 lk:b.op.looks=true
 p1: ∀y∈a.op.opds,y.plain=true
 p2: ∀y∈b.op.opds,y.plain=true
theorem X8 {a b:ROp} (h:uR a b=true):IndepX a b:=by
 simp only[uR,zF,zN]at h;obtain⟨⟨⟨⟨⟨c,f⟩,i⟩,j⟩,k⟩,m⟩:=h;refine⟨?_,?_,?_,i,j,k,m⟩
 ·intro t g d;rw[d]at c;simp at c;exact c.1 g
 ·intro x n d;rw[n]at c;simp[d]at c
 ·intro t g d;rw[d]at f;simp at f;exact f g
theorem S3 {op:AOp} (h:op.isApp=true):op.wrL=false/\op.rdL=false/\op.isRaw=false:=by
 cases op<;>simp_all [AOp.isApp,AOp.wrL,AOp.rdL,AOp.isRaw]
theorem kaB {op:AOp} {p:Nat} {G:Nat->List T} {e:Eff} (f:op.isApp=true) (c:ao G p s op=some e):
 ∀k,k≠s.bas+p->bl s.heap e.hp k=s.heap k\/bl s.heap e.hp k=some .dead:=by
 intro k d;cases op<;>simp only[AOp.isApp,zG]at f
 simp only[ao,zC,zB]at c;obtain⟨u,i,v,j,a,g,b,h,c⟩:=c;split at c
 ·split at c
  ·cases c;exact .inl rfl
  ·split at c
   ·cases c;left;simp only[bl];exact aP _ _ d
   ·simp only[zB,zA]at c;obtain⟨m,_,rfl⟩:=c;exact .inl rfl
   ·split at c
    ·split at c
     ·cases c;simp only[bl];rw[aP _ _ d];unfold upd;split
      ·exact .inr rfl
      ·exact .inl rfl
     ·cases c
    ·cases c
   ·cases c
 ·cases c
theorem Vh (R:Rz N ns s) {B F:Nat} {j i:ROp} {a f:Eff} (m:IndepX j i) (Kl:B≠F) (fj:s.heap (s.bas+B)=none) (fi:s.heap (s.bas+F)=none)
 (V:DStep P N B j s a) (Dg:s.free j.dst a) (hi:DStep P N F i (s.apply j.dst a) f) (BJ:(s.apply j.dst a).free i.dst f):
 DStep P N F i s f/\s.free i.dst f/\DStep P N B j (s.apply i.dst f) a/\(s.apply i.dst f).free j.dst a/\(s.apply j.dst a).apply i.dst f=(s.apply i.dst f).apply j.dst a:=by
 obtain⟨J,K,iraw,X⟩:=jS m.lk;obtain⟨Y,jrL,jraw⟩:=S3 m.ap;obtain⟨sj1,sj2,sj3,sj4,sj5⟩:=V.shape;have S:a.wloc=none:=sj1 Y
 have Q6: ∀k,k≠s.bas+B->(s.apply j.dst a).heap k=s.heap k\/(s.apply j.dst a).heap k=some .dead:=by
  intro k w
  cases V with
  | skip A=>exact .inl rfl
  | eff A Q=>exact kaB m.ap Q k w
  | pure A z=>exact .inl rfl
  | fresh A z=>have:=m.ap;rw[z]at this;cases this
 have Cm: ∀t∈i.reads,(s.apply j.dst a).env t=s.env t:=by
  intro t W;have n:=m.d1 t W
  cases NM:j.dst with
  | none=>rfl
  | some O=>rw[NM]at n;simp only[St.apply];exact aP _ _ (fun h=>n (by rw[h]))
 have Ao: ∀y∈i.op.opds,evl N.G (s.apply j.dst a) y=evl N.G s y:=by
  intro y E
  cases y with
  | s t=>simp only[evl,Cm t (ii _ (dk.2 ⟨_,E,by simp[Opd.slots]⟩))]
  | c v=>rfl
  | g q=>rfl
 have Dq:DStep P N F i (s.apply j.dst { a with hp:=[] }) f:=by
  cases hi with
  | skip A=>exact .skip A
  | eff A Q=>
    refine .eff A ?_;rw[<- Q];refine(uk (s:=s.apply j.dst a) (u:=s.apply j.dst { a with hp:=[] }) (fun x _=>by cases x<;>rfl) (fun x _=>by cases x<;>rfl) (fun H=>by rw[X]at H;cases H) (fun _ x D v hv k w=> ?_) rfl).symm;obtain⟨o,z⟩:=R.top (m.p2 x D) (by rw[<- Ao x D];exact hv) k w;have A8:k≠s.bas+B:=by rintro rfl;rw[fj]at z;cases z
    rcases Q6 k A8 with h | h
    ·exact h
    ·exact absurd h (Zt m.lk Q x D v hv k w)
  | pure A z=>have:=m.lk;rw[z]at this;cases this
  | fresh A z=>have:=m.lk;rw[z]at this;cases this
 have AK:DStep P N F i s f:=(DStep.transfer (e':= { a with hp:=[] }) R m.p2 m.d1 (fun O n=>(Dg O n).1) (fun _=>S) (fun _ k o w=>w)).2 Dq
 have Ek:s.free i.dst f:=by
  intro d n;obtain⟨r,U⟩:=BJ d n;refine⟨?_,U⟩
  cases hu:s.used d with
  | false=>rfl
  | true=>have:=pB (d:=j.dst) (e:=a) hu;rw[r]at this;simp at this
 obtain⟨L,M,si3,si4,Z⟩:=AK.shape
 have GU:j.op.rdH=true-> ∀k o,s.heap k=some o->(s.apply i.dst f).heap k=some o:=by
  intro H k o w;show bl s.heap f.hp k=some o;rw[jw,w];intro x D e;have:=M J x D;rw[e]at this;rw[this,fi]at w;simp at w
 have Dp:DStep P N B j (s.apply i.dst f) a:=(DStep.transfer R m.p1 m.d2 (fun O n=>(Ek O n).1) (fun _=>L K) GU).1 V;have BA: ∀{x:ROp} {y:Opd},y∈x.op.opds-> ∀t∈y.slots,t∈x.reads:=fun E t W=>ii _ (dk.2 ⟨_,E,W⟩)
 have GT:(s.apply i.dst f).free j.dst a:=by
  intro d n;obtain⟨r,U⟩:=Dg d n;refine⟨?_,U⟩;simp only[St.apply]
  cases ha:f.adr with
  | none=>exact r
  | some bo=>
    obtain⟨b,o⟩:=bo;obtain⟨y,E,o',H⟩:=Z b o ha;have C:b≠d:=pW R H (fun Aj=>m.d1 d (BA E d Aj) n) r;simp only[aP _ _ (bX C)];exact r
 refine⟨AK,Ek,Dp,GT,r9 m.d12 (.inl S) (fun b cs C=>by rw[S]at C;cases C) (fun b cs C=>by rw[L K]at C;cases C) ?_⟩;intro x D y E e;have Az:s.bas+B≠s.bas+F:=aa
 have e2:=M J y E;rcases sj3 x D with r | r
 ·exact Az (by rw[<- r,<- e2,e])
 ·rw[e,e2,fi]at r;simp at r
def AOp.still:AOp->Bool
 | .mv _ | .faddrL _ _ | .loadL _ _ _ | .allocL _=>true
 | _=>false
def qu (a b:ROp):Bool:=
 (match a.dst with | some d=> !b.reads.contains d&&b.dst != some d | none=>true)&&
 (match b.dst with | some d=> !a.reads.contains d | none=>true)&&a.op.still&&b.op.isRaw&&a.op.opds.all Opd.plain
structure IndepR (a b:ROp):Prop where
 d1: ∀t∈b.reads,a.dst≠some t
 d12: ∀x,a.dst=some x->b.dst≠some x
 d2: ∀t∈a.reads,b.dst≠some t
 st:a.op.still=true
 rw:b.op.isRaw=true
 p1: ∀y∈a.op.opds,y.plain=true
theorem K3 {a b:ROp} (h:qu a b=true):IndepR a b:=by
 simp only[qu,zF,zN]at h;obtain⟨⟨⟨⟨c,f⟩,i⟩,j⟩,k⟩:=h;refine⟨?_,?_,?_,i,j,k⟩
 ·intro t g d;rw[d]at c;simp at c;exact c.1 g
 ·intro x m d;rw[m]at c;simp[d]at c
 ·intro t g d;rw[d]at f;simp at f;exact f g
theorem xI {op:AOp} (h:op.still=true):op.rdH=false/\op.wrH=false/\op.wrL=false/\op.isRaw=false:=by
 cases op<;>simp_all [AOp.still,AOp.rdH,AOp.wrH,AOp.wrL,AOp.isRaw]
theorem Ou {op:AOp} {e:Eff} {p:Nat} {G:Nat->List T} (h:op.still=true) (a:ao G p s op=some e):e.hp=[]/\e.wloc=none:=by
 cases op<;>simp only[AOp.still,zG]at h
 all_goals simp only[ao,zC,zB,zA,cw]at a
 ·obtain⟨_,_,rfl⟩:=a;exact⟨rfl,rfl⟩
 ·subst a;exact⟨rfl,rfl⟩
 ·obtain⟨_,_,_,_,_,_,_,_,_,rfl⟩:=a;exact⟨rfl,rfl⟩
 ·obtain⟨_,_,_,_,_,_,_,_,rfl⟩:=a;exact⟨rfl,rfl⟩
theorem Mx {op:AOp} {p:Nat} {G:Nat->List T} {H:ae} {n:Nat} (h:op.still=true):ao G p { s with heap:=H,nxt:=n } op=ao G p s op:=by
 refine(uk (s:=s) (u:={ s with heap:=H,nxt:=n }) (G:=G) (p:=p) (op:=op) (fun x _=> ?_) (fun x _=> ?_) (fun _ _ _ _ _ _=>rfl) (fun a=> ?_) rfl).symm
 ·cases x<;>rfl
 ·cases x<;>rfl
 ·rw[(xI h).1]at a;cases a
theorem Vg (hz:Rz N ns s) {U pi:Nat} {j i:ROp} {s1 s2:St} (z:IndepR j i) (Z:StepG P N true U j s s1) (h2:StepG P N true pi i s1 s2):
 ∃t,StepG P N true pi i s t/\StepG P N true U j t s2:=by
 obtain⟨sr,swH,swL,snr⟩:=xI z.st;obtain⟨m,Gb,Dg,rfl⟩:=Z.toD snr
 have Ic:m.hp=[]/\m.wloc=none:=by
  cases Gb with
  | skip n=>exact⟨rfl,rfl⟩
  | eff n R=>exact Ou z.st R
  | pure n o=>exact⟨rfl,rfl⟩
  | fresh n o=>have:=z.st;rw[o]at this;cases this
 obtain⟨D,Q⟩:=Ic;have Ar:(s.apply j.dst m).heap=s.heap:=by simp only[St.apply,D,bl]
 have Cm: ∀t∈i.reads,(s.apply j.dst m).env t=s.env t:=by
  intro t ht;have H:=z.d1 t ht
  cases NM:j.dst with
  | none=>rfl
  | some d'=>rw[NM]at H;simp only[St.apply];exact aP _ _ (fun h=>H (by rw[h]))
 have Ao: ∀y∈i.op.opds,evl N.G (s.apply j.dst m) y=evl N.G s y:=by
  intro y S
  cases y with
  | s t=>simp only[evl,Cm t (ii _ (dk.2 ⟨_,S,by simp[Opd.slots]⟩))]
  | c v=>rfl
  | g q=>rfl
 have X:cJ (s.apply j.dst m) i.guard=cJ s i.guard:=by
  cases hg:i.guard with
  | none=>rfl
  | some gw=>
    obtain⟨g,w⟩:=gw;have:g∈i.reads:=by unfold ROp.reads;rw[hg];simp
    simp only[cJ,Cm g this]
 have F: ∀{e:Eff},(s.apply j.dst m).free i.dst e->s.free i.dst e:=by
  intro e A d H;obtain⟨Z,h2⟩:=A d H;refine⟨?_,h2⟩
  cases hu:s.used d with
  | false=>rfl
  | true=>have:=pB (d:=j.dst) (e:=m) hu;rw[Z]at this;simp at this
 -- what is left to do when the call Dt been made
 have E: ∀(B:ae) (C:Nat) (r:V),s.free i.dst {}->StepG P N true U j ({ s with heap:=B,nxt:=C }.apply i.dst { val:=r }) (({ s.apply j.dst m with heap:=B,nxt:=C }:St).apply i.dst { val:=r }):=by
  intro B C r BJ;have AE:({ s with heap:=B,nxt:=C }:St).apply i.dst { val:=r }= { s.apply i.dst { val:=r }with heap:=B,nxt:=C }:=rfl
  have Dp:DStep P N U j (s.apply i.dst { val:=r }) m:=
   (DStep.transfer hz z.p1 z.d2 (fun d' H=>(BJ d' H).1) (fun _=>rfl) (fun hr=>by rw[sr]at hr;cases hr)).1 Gb
  have H1:DStep P N U j ({ s with heap:=B,nxt:=C }.apply i.dst { val:=r }) m:=by
   rw[AE]
   cases Dp with
   | skip n=>exact .skip n
   | eff n R=>exact .eff n (by rw[Mx z.st];exact R)
   | pure n o=>have:=z.st;rw[o]at this;cases this
   | fresh n o=>have:=z.st;rw[o]at this;cases this
  have NW:(({ s with heap:=B,nxt:=C }:St).apply i.dst { val:=r }).free j.dst m:=Dg;have:=H1.toG NW
  have Y:({ s.apply j.dst m with heap:=B,nxt:=C }:St)=({ s with heap:=B,nxt:=C }:St).apply j.dst m:=by
   simp only[St.apply,D,bl]
  rw[Y,r9 (s:={ s with heap:=B,nxt:=C }) z.d12 (.inl Q) (fun b cs W=>by rw[Q]at W;cases W) (fun b cs W=>by cases W) (by rw[D];simp)];exact this
 cases h2 with
 | skip n A=>
   refine⟨_,.skip (by rw[<- X];exact n) (F A),?_⟩;have:=E s.heap s.nxt .undef (F A)
   have Y:({ s.apply j.dst m with heap:=s.heap,nxt:=s.nxt }:St)=s.apply j.dst m:=by
    simp only[St.apply,D,bl]
   rw[Y]at this
   exact this
 | eff n A R=>have:=z.rw;revert R;cases Jo:i.op<;>rw[Jo]at this<;>simp[AOp.isRaw]at this<;>simp[ao]
 | pure n A o=>have:=z.rw;rw[o]at this;simp[AOp.isRaw]at this
 | fresh n A o=>have:=z.rw;rw[o]at this;simp[AOp.isRaw]at this
 | raw n A o L Ax An M hc hn J=>
   rename_i f args fv g a b vs r rf B C;have K: ∀y,y∈f::args->evl N.G (s.apply j.dst m) y=evl N.G s y:=fun y S=>Ao y (by rw[o];exact S)
   rw[K f af]at L;rw[kC (fun x hx=>K x (by simp[hx]))]at M;rw[Ar]at hc J
   exact⟨_,.raw (by rw[<- X];exact n) (F A) o L Ax An M hc hn J,E B C r (F A)⟩
 | yld n A o L hk M Ac Bi AT CL AF J=>
   rename_i f args k vs env env1 env' ps ps1 ps' ca cb bd1 bd' e t1 t2;have K: ∀y,y∈f::args->evl N.G (s.apply j.dst m) y=evl N.G s y:=fun y S=>Ao y (by rw[o];exact S)
   rw[K f af]at L;rw[kC (fun x hx=>K x (by simp[hx]))]at M;rw[Ar]at hk Bi J;exact⟨_,.yld (by rw[<- X];exact n) (F A) o L hk M Ac Bi AT CL AF J,E _ _ _ (F A)⟩
end
def AOp.writes:AOp->Bool
 | .store _ _ _ | .append _ _ _ _=>true
 | _=>false
theorem mu {op:AOp} (h:op.writes=true):op.wrL=false/\op.rdL=false/\op.isRaw=false/\isCall op=false:=by
 cases op<;>simp_all [AOp.writes,AOp.wrL,AOp.rdL,AOp.isRaw,isCall]
theorem Ll {op:AOp} (h:op.looks=true):isCall op=false:=by
 cases op<;>simp_all [AOp.looks,isCall]
theorem OZ {op:AOp}: ∀y∈op.wopd,y∈op.opds:=by
 cases op<;>simp[AOp.wopd,AOp.opds]
section
variable {P:Program} {N:Nam} {s u:St}
theorem yZ {G:Nat->List T} {x:Opd} (h: ∀t∈x.slots,s.env t=u.env t):evl G s x=evl G u x:=by
 cases x with
 | s t=>simp only[evl,h t (by simp[Opd.slots])]
 | c v=>rfl
 | g q=>rfl
theorem wkey {op:AOp} {p:Nat} {G:Nat->List T} {e:Eff} (g:op.writes=true) (c:ao G p s op=some e):
 ∀x∈e.hp,x.1=s.bas+p\/ ∃y∈op.wopd,∃v,evl G s y=some v/\x.1∈v.top:=by
 intro x d;cases op<;>simp only[AOp.writes,zG]at g
 ·simp only[ao,zC,zB]at c;obtain⟨u,f,c⟩:=c;split at c
  ·split at c
   ·simp only[zB]at c;obtain⟨row,_,v,_,h,_,c⟩:=c;split at c
    ·simp only[zB,zA]at c;obtain⟨row',_,rfl⟩:=c;simp only[bB]at d;subst d;exact .inr ⟨_,by simp[AOp.wopd],_,f,by simp[V.top]⟩
    ·cases c
   ·cases c
  ·cases c
 ·simp only[ao,zC,zB]at c;obtain⟨u,f,v,k,a,i,b,j,c⟩:=c;split at c
  ·split at c
   ·cases c;cases d
   ·split at c
    ·cases c;simp only[cj,ki,dU]at d;subst d;exact .inl rfl
    ·simp only[zB,zA]at c;obtain⟨m,_,rfl⟩:=c;cases d
    ·split at c
     ·split at c
      ·cases c;simp only[cj,ki,dU]at d;rcases d with rfl | rfl
       ·exact .inr ⟨_,by simp[AOp.wopd],_,f,by simp[V.top]⟩
       ·exact .inl rfl
      ·cases c
     ·cases c
    ·cases c
  ·cases c
theorem DStep.transferE {p:Nat} {x:ROp} {d:Option Nat} {e' e:Eff} (b:isCall x.op=false) (D:x.op.rdL=false) (w: ∀t∈x.reads,d≠some t)
 (B: ∀y∈x.op.opds,∀v,evl N.G s y=some v-> ∀k∈v.top,s.heap k=(s.apply d e').heap k):
 DStep P N p x s e<->DStep P N p x (s.apply d e') e:=by
 have o: ∀t,d≠some t->(s.apply d e').env t=s.env t:=by
  intro t i
  cases d with
  | none=>rfl
  | some F=>simp only[St.apply];exact aP _ _ (fun h=>i (by rw[h]))
 have E: ∀t,d≠some t->(s.apply d e').adr t=s.adr t:=by
  intro t i
  cases d with
  | none=>rfl
  | some F=>simp only[St.apply];exact aP _ _ (fun h=>i (by rw[h]))
 have n: ∀y∈x.op.opds,∀t∈y.slots,d≠some t:=by
  intro y j t i;exact w t (ii _ (dk.2 ⟨y,j,i⟩))
 have A: ∀y∈x.op.opds,evl N.G s y=evl N.G (s.apply d e') y:=fun y j=>yZ fun t i=>(o t (n y j t i)).symm
 have C: ∀y∈x.op.opds,bF s y=bF (s.apply d e') y:=by
  intro y j
  cases y with
  | s t=>simp only[bF,o t (n _ j t (by simp[Opd.slots])),E t (n _ j t (by simp[Opd.slots]))]
  | c v=>rfl
  | g q=>rfl
 have m:cJ s x.guard=cJ (s.apply d e') x.guard:=by
  cases J:x.guard with
  | none=>rfl
  | some H=>
    obtain⟨g,K⟩:=H;simp only[cJ,o g (w g (by simp[ROp.reads,J]))]
 have z:ao N.G p s x.op=ao N.G p (s.apply d e') x.op:=uk A C (fun h=>by rw[D]at h;cases h) (fun _=>B) rfl;constructor
 ·intro h
  cases h with
  | skip a=>exact .skip (m▸a)
  | eff a r=>exact .eff (m▸a) (z▸r)
  | pure a f=>rw[f]at b;cases b
  | fresh a f=>rw[f]at b;cases b
 ·intro h
  cases h with
  | skip a=>exact .skip (m▸a)
  | eff a r=>exact .eff (m▸a) (z▸r)
  | pure a f=>rw[f]at b;cases b
  | fresh a f=>rw[f]at b;cases b
def yE (a b:ROp):Bool:=
 (match a.dst with | some d=> !b.reads.contains d&&b.dst != some d | none=>true)&&
 (match b.dst with | some d=> !a.reads.contains d | none=>true)&&((a.op.looks&&b.op.writes)||(a.op.writes&&b.op.looks))&&a.op.opds.all Opd.plain&&b.op.opds.all Opd.plain
structure IndepD (a b:ROp):Prop where
 d1: ∀t∈b.reads,a.dst≠some t
 d12: ∀x,a.dst=some x->b.dst≠some x
 d2: ∀t∈a.reads,b.dst≠some t
 lw:(a.op.looks=true/\b.op.writes=true)\/(a.op.writes=true/\b.op.looks=true)
 p1: ∀y∈a.op.opds,y.plain=true
 p2: ∀y∈b.op.opds,y.plain=true
theorem Yw {a b:ROp} (h:yE a b=true):IndepD a b:=by
 simp only[yE,zF,fg,zN]at h;obtain⟨⟨⟨⟨c,f⟩,i⟩,j⟩,k⟩:=h;refine⟨?_,?_,?_,i,j,k⟩
 ·intro t g d;rw[d]at c;simp at c;exact c.1 g
 ·intro x m d;rw[m]at c;simp[d]at c
 ·intro t g d;rw[d]at f;simp at f;exact f g
theorem xR {G:Nat->List T} {l:List Opd} {y:Opd} {v:V} {k:Nat} (c:y∈l) (b:evl G s y=some v) (a:k∈v.top):k∈jJ G s l:=
 dk.2 ⟨y,c,by rw[b];exact a⟩
theorem DStep.wkey {p:Nat} {x:ROp} {e:Eff} (h:DStep P N p x s e) (a:x.op.writes=true): ∀z∈e.hp,z.1=s.bas+p\/z.1∈jJ N.G s x.op.wopd:=by
 have b:=(mu a).2.2.2
 cases h with
 | skip a=>simp
 | eff _ d=>
   intro z j;rcases Rg.wkey a d z j with h | ⟨y,i,v,g,f⟩
   ·exact .inl h
   ·exact .inr (xR i g f)
 | pure a c=>rw[c]at b;cases b
 | fresh a c=>rw[c]at b;cases b
theorem tE {G:Nat->List T} {l:List Opd} (h: ∀y∈l,evl G s y=evl G u y):jJ G s l=jJ G u l:=by
 unfold jJ
 induction l with
 | nil=>rfl
 | cons y l b=>rw[du,du,h y af,b fun z a=>h z (by simp[a])]
theorem Ze {G:Nat->List T} {a b:ROp} (d: ∀y∈a.op.opds,evl G s y=evl G u y) (f: ∀y∈b.op.opds,evl G s y=evl G u y):sep G s a b=sep G u a b:=by
 simp only[sep,tE d,tE f,tE (fun y c=>d y (OZ y c)),tE (fun y c=>f y (OZ y c))]
theorem Vf {ns:Nat} (U:Rz N ns s) {B A:Nat} {j i:ROp} {f c:Eff} (m:IndepD j i) (K:sep N.G s j i=true) (Kl:B≠A) (Q:s.heap (s.bas+B)=none) (O:s.heap (s.bas+A)=none)
 (S:DStep P N B j s f) (Dg:s.free j.dst f) (hi:DStep P N A i (s.apply j.dst f) c) (BJ:(s.apply j.dst f).free i.dst c):
 DStep P N A i s c/\s.free i.dst c/\DStep P N B j (s.apply i.dst c) f/\(s.apply i.dst c).free j.dst f/\(s.apply j.dst f).apply i.dst c=(s.apply i.dst c).apply j.dst f:=by
 have M:isCall j.op=false/\j.op.rdL=false/\j.op.wrL=false:=by
  rcases m.lw with⟨h,_⟩ | ⟨h,_⟩
  ·exact⟨Ll h,(jS h).2.2.2,(jS h).2.1⟩
  ·exact⟨(mu h).2.2.2,(mu h).2.1,(mu h).1⟩
 have ci:isCall i.op=false/\i.op.rdL=false/\i.op.wrL=false:=by
  rcases m.lw with⟨_,h⟩ | ⟨_,h⟩
  ·exact⟨(mu h).2.2.2,(mu h).2.1,(mu h).1⟩
  ·exact⟨Ll h,(jS h).2.2.2,(jS h).2.1⟩
 obtain⟨Y,H,Z,sj4,sj5⟩:=S.shape;have Kp:f.wloc=none:=Y M.2.2
 have L:DStep P N A i s c:=by
  refine(DStep.transferE ci.1 ci.2.1 m.d1 (fun y g v E k D=> ?_)).2 hi;obtain⟨o,q⟩:=U.top (m.p2 y g) E k D;show s.heap k=bl s.heap f.hp k;rw[jw];rintro z C rfl;rcases m.lw with⟨n,r⟩ | ⟨r,n⟩
  ·have:=H (jS n).1 z C;rw[this,Q]at q;cases q
  ·rcases S.wkey r z C with h | h
   ·rw[h,Q]at q;cases q
   ·have Hx:j.op.looks=false:=by revert r;cases j.op<;>simp[AOp.writes,AOp.looks]
    simp only[sep,Hx,zG,aX,zN]at K;have:=K _ (xR g E D);simp[h]at this
 have Ek:s.free i.dst c:=by
  intro d J;obtain⟨a,R⟩:=BJ d J;refine⟨?_,R⟩
  cases hu:s.used d with
  | false=>rfl
  | true=>have:=pB (d:=j.dst) (e:=f) hu;rw[a]at this;simp at this
 obtain⟨V,F,W,si4,X⟩:=L.shape
 have Dp:DStep P N B j (s.apply i.dst c) f:=by
  refine(DStep.transferE M.1 M.2.1 m.d2 (fun y g v E k D=> ?_)).1 S;obtain⟨o,q⟩:=U.top (m.p1 y g) E k D;show s.heap k=bl s.heap c.hp k;rw[jw];rintro z C rfl;rcases m.lw with⟨n,r⟩ | ⟨r,n⟩
  ·rcases L.wkey r z C with h | h
   ·rw[h,O]at q;cases q
   ·simp only[sep,n,aU,zN]at K;have:=K _ (xR g E D);simp[h]at this
  ·have:=F (jS n).1 z C;rw[this,O]at q;cases q
 have BA: ∀{x:ROp} {y:Opd},y∈x.op.opds-> ∀t∈y.slots,t∈x.reads:=fun g t ht=>ii _ (dk.2 ⟨_,g,ht⟩)
 have GT:(s.apply i.dst c).free j.dst f:=by
  intro d J;obtain⟨a,R⟩:=Dg d J;refine⟨?_,R⟩;simp only[St.apply]
  cases ha:c.adr with
  | none=>exact a
  | some bo=>
    obtain⟨b,o⟩:=bo;obtain⟨y,g,o',hr⟩:=X b o ha;have w:b≠d:=pW U hr (fun Aj=>m.d1 d (BA g d Aj) J) a;simp only[aP _ _ (bX w)];exact a
 refine⟨L,Ek,Dp,GT,r9 m.d12 (.inl Kp) (fun b cs w=>by rw[Kp]at w;cases w) (fun b cs w=>by rw[V ci.2.2]at w;cases w) ?_⟩;intro x hx y g e;have Az:s.bas+B≠s.bas+A:=aa
 rcases m.lw with⟨n,r⟩ | ⟨r,n⟩
 ·have e1:=H (jS n).1 x hx;rcases W y g with a | a
  ·exact Az (by rw[<- e1,<- a,e])
  ·rw[<- e,e1,Q]at a;simp at a
 ·have e2:=F (jS n).1 y g;rcases Z x hx with a | a
  ·exact Az (by rw[<- a,<- e2,e])
  ·rw[e,e2,O]at a;simp at a
theorem StepG.env {d:Bool} {p:Nat} {o:ROp} {c:St} (h:StepG P N d p o s c) {q:Nat} (g:o.dst≠some q):c.env q=s.env q:=by
 have a: ∀(t:St) (e:Eff),t.env=s.env->(t.apply o.dst e).env q=s.env q:=by
  intro t e b
  cases f:o.dst with
  | none=>simp only[St.apply,b]
  | some x=>simp only[St.apply,b];exact aP _ _ (fun h=>g (by rw[f,h]))
 cases h<;>exact a _ _ rfl
theorem StepG.evl {d:Bool} {p:Nat} {o x:ROp} {a:St} (h:StepG P N d p o s a) (b: ∀t∈x.reads,o.dst≠some t): ∀y∈x.op.opds,evl N.G s y=evl N.G a y:=
 fun y f=>yZ fun t c=>(h.env (b t (ii _ (dk.2 ⟨y,f,c⟩)))).symm
theorem kbK {ns:Nat} (hz:Rz N ns s) {pj Y:Nat} {j i:ROp} {s1 s2:St} (v:IndepR i j) (h1:StepG P N true pj j s s1) (h2:StepG P N true Y i s1 s2):
 ∃t,StepG P N true Y i s t/\StepG P N true pj j t s2:=by
 obtain⟨sr,swH,swL,snr⟩:=xI v.st;obtain⟨c,Z,K,rfl⟩:=h2.toD snr
 have Kw:c.hp=[]/\c.wloc=none:=by
  cases Z with
  | skip h=>exact⟨rfl,rfl⟩
  | eff h W=>exact Ou v.st W
  | pure h m=>exact⟨rfl,rfl⟩
  | fresh h m=>have:=v.st;rw[m]at this;cases this
 obtain⟨E,ewl⟩:=Kw;have BA: ∀{x:ROp} {y:Opd},y∈x.op.opds-> ∀t∈y.slots,t∈x.reads:=fun C t ht=>ii _ (dk.2 ⟨_,C,ht⟩)
 -- the operation that looks at slots alone,ahead of the call
 have first : ∀(z:ae) (B:Nat) (r:V),s.free j.dst {}->DStep P N Y i (({ s with heap:=z,nxt:=B }:St).apply j.dst { val:=r }) c->DStep P N Y i s c:=by
  intro z B r Dg w;refine(DStep.transfer (d:=j.dst) (e':= { val:=r }) hz v.p1 v.d2 (fun d' w=>(Dg d' w).1) (fun _=>rfl) (fun hr=>by rw[sr]at hr;cases hr)).2 ?_
  cases w with
  | skip h=>exact .skip h
  | eff h W=>exact .eff h (by rw[<- Mx (H:=z) (n:=B) v.st];exact W)
  | pure h m=>have:=v.st;rw[m]at this;cases this
  | fresh h m=>have:=v.st;rw[m]at this;cases this
 have F: ∀(z:ae) (B:Nat) (r:V),s.free j.dst {}->DStep P N Y i s c->s.free i.dst c->
  (∀(q:Opd),q∈j.op.opds->evl N.G s q=evl N.G (s.apply i.dst c) q)/\cJ s j.guard=cJ (s.apply i.dst c) j.guard/\(s.apply i.dst c).heap=s.heap/\(s.apply i.dst c).free j.dst {}/\
  (({ s with heap:=z,nxt:=B }:St).apply j.dst { val:=r }).apply i.dst c=({ s.apply i.dst c with heap:=z,nxt:=B }:St).apply j.dst { val:=r }:=by
  intro z B r Dg w A;have hg:=w.toG A;refine⟨hg.evl v.d1,?_,by simp only[St.apply,E,bl],?_,?_⟩
  ·cases FD:j.guard with
   | none=>rfl
   | some gw=>
     obtain⟨g,wnt⟩:=gw;have:=hg.env (q:=g) (v.d1 g (by simp[ROp.reads,FD]));simp only[cJ,this]
  ·intro d JS;obtain⟨k1,_⟩:=Dg d JS;refine⟨?_,fun b o D=>by cases D⟩;simp only[St.apply]
   cases ha:c.adr with
   | none=>exact k1
   | some bo=>
     obtain⟨b,o⟩:=bo;obtain⟨y,C,o',hr⟩:=w.shape.2.2.2.2 b o ha;have D:b≠d:=pW hz hr (fun Aj=>v.d2 d (BA C d Aj) JS) k1;simp only[aP _ _ (bX D)];exact k1
  ·have e1:({ s.apply i.dst c with heap:=z,nxt:=B }:St)=({ s with heap:=z,nxt:=B }:St).apply i.dst c:=by
    simp only[St.apply,E,bl]
   rw[e1,r9 (s:={ s with heap:=z,nxt:=B }) (fun x X C=>v.d12 x C X) (.inl rfl) (fun b cs D=>by cases D) (fun b cs D=>by rw[ewl]at D;cases D) af]
 cases h1 with
 | skip h A=>
   have w:=first s.heap s.nxt .undef A Z;obtain⟨g1,S,J,U,L⟩:=F s.heap s.nxt .undef A w K;refine⟨_,w.toG K,?_⟩;have:=StepG.skip (P:=P) (N:=N) (d:=true) (p:=pj) (o:=j) (s:=s.apply i.dst c) (by rw[<- S];exact h) U;rw[show(s.apply j.dst {}).apply i.dst c=(s.apply i.dst c).apply j.dst {}from ?_]
   ·exact this
   ·have e2:({ s.apply i.dst c with heap:=s.heap,nxt:=s.nxt }:St)=s.apply i.dst c:=by simp only[St.apply,E,bl]
    rw[e2]at L;exact L
 | eff h A W=>have:=v.rw;revert W;cases Jo:j.op<;>rw[Jo]at this<;>simp[AOp.isRaw]at this<;>simp[ao]
 | pure h A m=>have:=v.rw;rw[m]at this;simp[AOp.isRaw]at this
 | fresh h A m=>have:=v.rw;rw[m]at this;simp[AOp.isRaw]at this
 | raw h A m Q Ax An R hc hn AG=>
   rename_i f args fv g a b vs r rf z B;have w:=first z B r A Z;obtain⟨g1,S,J,U,L⟩:=F z B r A w K;have M: ∀y,y∈f::args->evl N.G s y=evl N.G (s.apply i.dst c) y:=fun y C=>g1 y (by rw[m];exact C)
   rw[M f af]at Q;rw[kC (fun x X=>M x (by simp[X]))]at R;refine⟨_,w.toG K,?_⟩;rw[L]
   exact .raw (by rw[<- S];exact h) U m Q Ax An R (by rw[J];exact hc) hn (by rw[J];exact AG)
 | yld h A m Q hk R Ac Bi AT CL AF AG=>
   rename_i f args k vs env env1 env' ps ps1 ps' ca cb bd1 bd' e t1 t2;have w:=first _ _ _ A Z;obtain⟨g1,S,J,U,L⟩:=F _ _ _ A w K;have M: ∀y,y∈f::args->evl N.G s y=evl N.G (s.apply i.dst c) y:=fun y C=>g1 y (by rw[m];exact C)
   rw[M f af]at Q;rw[kC (fun x X=>M x (by simp[X]))]at R;refine⟨_,w.toG K,?_⟩;rw[L];exact .yld (by rw[<- S];exact h) U m Q (by rw[J];exact hk) R Ac (by rw[J];exact Bi) AT CL AF (by rw[J];exact AG)
inductive RunT (P:Program) (N:Nam) (l:List ROp) (T:Nat->ROp->St->Prop):List Nat->St->St->Prop where
 | nil {s:St}:RunT P N l T [] s s
 | cons {i:Nat} {is:List Nat} {s s1 s2:St} {r:ROp} (hr:l[i]? =some r) (h1:StepG P N true i r s s1) (ht:T i r s) (h2:RunT P N l T is s1 s2):RunT P N l T (i::is) s s2
theorem Run.toT {l:List ROp} {is:List Nat} {a:St} (h:Run P N true l is s a):RunT P N l (fun _ _ _=>True) is s a:=by
 induction h with
 | nil=>exact .nil
 | cons c b f d=>exact .cons c b trivial d
theorem Run.env {d:Bool} {l:List ROp} {is:List Nat} {b:St} (h:Run P N d l is s b) {t:Nat} (a: ∀q∈is,∀z,l[q]? =some z->z.dst≠some t):b.env t=s.env t:=by
 induction h with
 | nil=>rfl
 | cons g c j i=>rw[i fun q f=>a q (by simp[f]),c.env (a _ af _ g)]
def si (ck:List (Nat×Nat)) (i:Nat):Bool:=ck.any fun x=>x.1==i||x.2==i
def qQ (ck:List (Nat×Nat)) (l:List ROp):Bool:=
 (List.range l.length).all fun i=> !si ck i||(List.range l.length).all fun q=>decide (q<i)||(match l[i]?,l[q]? with
   | some r,some z=>(match z.dst with | some t=> !r.reads.contains t | none=>true)
   | _,_=>true)
theorem Xi {ck:List (Nat×Nat)} {l:List ROp} (h:qQ ck l=true) {i q:Nat} {r z:ROp} (hi:l[i]? =some r) (b:l[q]? =some z) (d:si ck i=true) (g:i<=q): ∀t∈r.reads,z.dst≠some t:=by
 intro t f c;simp only[qQ,zN,dS,fg,aQ]at h;have a:=h i (zH.1 hi).1;rw[d]at a;rcases a with a | a
 ·cases a
 ·rcases a q (zH.1 b).1 with a | a
  ·omega
  ·rw[hi,b]at a;simp[c,f]at a
def uD (N:Nam) (ck:List (Nat×Nat)) (e:St) (i:Nat) (r:ROp) (s:St):Prop:=si ck i=true-> ∀y∈r.op.opds,evl N.G s y=evl N.G e y
theorem Run.annot {ck:List (Nat×Nat)} {l:List ROp} {is:List Nat} {c:St} (f:qQ ck l=true) (h:Run P N true l is s c) (n:is.Pairwise (· < ·)):RunT P N l (uD N ck c) is s c:=by
 induction h with
 | nil=>exact .nil
 | cons b d k w=>
   obtain⟨g,j⟩:=wb.1 n;refine .cons b d (fun m y r=> ?_) (w j);have i:Run P N true l (_::_) _ _:=.cons b d k;refine yZ fun t o=>(i.env fun q a z v=> ?_).symm
   refine Xi f b v m ?_ t (ii _ (dk.2 ⟨y,r,o⟩));rcases cj.1 a with rfl | a
   ·exact ay _
   ·exact Nat.le_of_lt (g q a)
theorem WI {ck:List (Nat×Nat)} {l:List ROp} {e:St} (h:mI N.G e l ck=true) {j i:Nat} (a:(j,i)∈ck) {x y:ROp} (f:l[j]? =some x) (g:l[i]? =some y)
 {s:St} (c:uD N ck e j x s) (d:uD N ck e i y s):sep N.G s x y=true:=by
 simp only[mI,zN]at h;have b:=h _ a;simp only[f,g]at b;have k:si ck j=true:=lu.2 ⟨_,a,af⟩;have m:si ck i=true:=lu.2 ⟨_,a,af⟩;rw[Ze (c k) (d m)];exact b
end
def fK (o:Oper):List Nat:=o.after.toList.filterMap fun e=>if Region.binds .any e then some e.on else none
def l_:List Nat->List Oper->List Nat
 | acc,[]=>acc
 | acc,o::os=>l_ (acc++[(fK o).foldl (fun s q=>s ||| 2^q ||| acc.getD q 0) 0]) os
def tM (ops:Array Oper):List Nat:=l_ [] ops.toList
def oh (ck:List (Nat×Nat)) (ops:Array Oper) (l:List ROp):Bool:=
 let b:=tM ops
 (List.range l.length).all fun i=>
   ((ops[i]?).elim true fun o=>(fK o).all (· <i))&&
   (List.range i).all fun j=>(b.getD i 0).testBit j||(match l[j]?,l[i]? with | some x,some y=>u9 x y||qu x y||uR x y||(ck.contains (j,i)&&yE x y)||qu y x | _,_=>false)
def yu (ops:Array Oper) (l:List ROp):Bool:=oh [] ops l
def y8 (ops:Array Oper) (l:List ROp):List (Nat×Nat):=
 let b:=tM ops
 (List.range l.length).flatMap fun i=>(List.range i).filterMap fun j=>if(b.getD i 0).testBit j then none else match l[j]?,l[i]? with
   | some x,some y=>if u9 x y||qu x y||uR x y||qu y x then none else some (j,i)
   | _,_=>none
theorem RW (acc:List Nat) (m:Nat): ∀(l:List Nat) (s:Nat),(l.foldl (fun s q=>s ||| 2^q ||| acc.getD q 0) s).testBit m=true->s.testBit m=true\/ ∃q∈l,m=q\/(acc.getD q 0).testBit m=true
 | [],s,h=> .inl h
 | q::l,s,h=>by
   rcases RW acc m l _ h with h | ⟨b,a,h⟩
   ·simp only[Nat.testBit_or,fg]at h;rcases h with(h | h) | h
    ·exact .inl h
    ·right;refine⟨q,fh,.inl ?_⟩;rw[Nat.testBit_two_pow]at h;exact (al h:q=m).symm
    ·exact .inr ⟨q,fh,.inr h⟩
   ·exact .inr ⟨b,gt _ a,h⟩
theorem Po: ∀(os:List Oper) (acc:List Nat),∃r,l_ acc os=acc++r
 | [],acc=>⟨[],by simp[l_]⟩
 | o::os,acc=>by
   obtain⟨r,a⟩:=Po os (acc++[(fK o).foldl (fun s q=>s ||| 2^q ||| acc.getD q 0) 0]);exact⟨(fK o).foldl (fun s q=>s ||| 2^q ||| acc.getD q 0) 0::r,by simp only[l_];rw[a,zQ];rfl⟩
theorem Me: ∀(os:List Oper) (acc:List Nat) (k:Nat) (o:Oper),os[k]? =some o->(∀q∈fK o,q<acc.length+k)-> ∀m,((l_ acc os).getD (acc.length+k) 0).testBit m=true->
 ∃q∈fK o,m=q\/((l_ acc os).getD q 0).testBit m=true
 | [],acc,k,o,h,_,_,_=>by simp at h
 | o'::os,acc,k,o,h,Ad,m,hm=>by
   cases k with
   | zero=>
     simp at h;subst h;simp only[l_]at hm⊢;obtain⟨r,g⟩:=Po os (acc++[(fK o').foldl (fun s q=>s ||| 2^q ||| acc.getD q 0) 0]);rw[g]at hm⊢
     have c:(acc++[(fK o').foldl (fun s q=>s ||| 2^q ||| acc.getD q 0) 0]++r).getD (acc.length+0) 0=(fK o').foldl (fun s q=>s ||| 2^q ||| acc.getD q 0) 0:=by
      simp[zK]
     rw[c]at hm;rcases RW acc m _ _ hm with h | ⟨q,a,h⟩
     ·simp at h
     ·refine⟨q,a,h.imp id fun h=> ?_⟩;have b:q<acc.length:=by have:=Ad q a;omega
      have d:(acc++[(fK o').foldl (fun s q=>s ||| 2^q ||| acc.getD q 0) 0]++r).getD q 0=acc.getD q 0:=by
       simp only[zK];rw[zQ,bU b]
      rw[d];exact h
   | succ k=>
     simp at h;simp only[l_]at hm⊢;have f:(acc++[(fK o').foldl (fun s q=>s ||| 2^q ||| acc.getD q 0) 0]).length=acc.length+1:=af
     have e:acc.length+(k+1)=(acc++[(fK o').foldl (fun s q=>s ||| 2^q ||| acc.getD q 0) 0]).length+k:=by rw[f];omega
     rw[e]at hm;exact Me os _ k o h (fun q a=>by have:=Ad q a;omega) m hm
section
variable {P:Program} {N:Nam} {I:Inv} {ns:Nat} {ops:Array Oper} {l:List ROp} {ro:Option Nat}
theorem W_ {o:Oper} {a:Act} {w:World} {K:Act->World->Prop} (h:o.wpIn (FW none) 0 P a w K (fun _ _ _=>False)): ∃c w',K c w':=by
 replace h:=h.2
 generalize(o.semAt (FW none).round a.eval).run P w=r at h
 unfold Oper.uponIn at h;split at h
 ·exact⟨_,_,h⟩
 ·exact⟨_,_,h⟩
 ·exact⟨_,_,h⟩
 ·obtain⟨e,w',fr,b,_⟩:=h.2.2 [] sv
  cases e with
  | returned v=>exact⟨_,_,b⟩
  | panicked d=>exact b.elim
  | outgrown=>obtain⟨_,_,b⟩:=b;exact b.elim
 ·obtain⟨v,w',b,_⟩:=h.2 default [] sv;exact⟨_,_,b⟩
 ·obtain⟨e,w',b,_⟩:=h.2.2 default [] sv
  cases e with
  | returned v=>exact⟨_,_,b⟩
  | panicked d=>exact b.elim
  | outgrown=>obtain⟨_,_,b⟩:=b;exact b.elim
 ·exact h.elim
 ·exact h.elim
theorem Rz.step (k:I.Ok N) {s g:St} {p:Nat} {r:ROp} {o:Oper} {d:Bool} (t:Rz N ns s) (i:StepG P N d p r s g) (q:OpRel P I ns ops o r) (m:s.heap (s.bas+p)=none) (n:s.bas+p<s.nxt):Rz N ns g:=by
 obtain⟨c,A,μ,v,a,w,R⟩:=t;have h:=ym (ro:=none) k i q R m n (fun _ _ _=>False);split at h
 ·obtain⟨j,w',b,μ',lam',f⟩:=W_ h;exact⟨c,b,μ',lam',j,w',f⟩
 ·obtain⟨b,μ',lam',f⟩:=h;exact⟨c,b,μ',lam',_,w,f⟩
theorem kaZ (hI:I.Ok N) {T:Nat->ROp->St->Prop} (hT: ∀(i:Nat) (r:ROp) (s u:St),(∀y∈r.op.opds,evl N.G s y=evl N.G u y)->T i r s->T i r u) (hl:ops.toList.length=l.length/\ ∀(i:Nat) (r:ROp),l[i]? =some r-> ∃o,ops.toList[i]? =some o/\OpRel P I ns ops o r) {i:Nat} {C:List Nat} {s':St}:
 ∀(c:List Nat) (s:St),Rz N ns s->(c++i::C).Nodup->(∀q∈c++i::C,s.heap (s.bas+q)=none/\s.bas+q<s.nxt)->
  (∀j∈c,∀x y,l[j]? =some x->l[i]? =some y->Indep x y\/IndepR x y\/IndepX x y\/(IndepD x y/\ ∀s,T j x s->T i y s->sep N.G s x y=true)\/IndepR y x)->
  RunT P N l T (c++i::C) s s'->RunT P N l T (i::(c++C)) s s':=by
 intro c
 induction c with
 | nil=>intro s _ _ _ _ h;exact h
 | cons j c ih=>
   intro s B Bt S Y h
   cases h with
   | cons n g Z h2=>
     rename_i D w;obtain⟨oj,Pa,KK⟩:=hl.2 j w n;have V:=qr.1 (al Bt:(j::(c++i::C)).Nodup);obtain⟨d,W⟩:=S j af;obtain⟨m,fi2⟩:=S i af;have FM:Rz N ns D:=B.step hI g KK d W;obtain⟨g1,g2,g3⟩:=g.free
     have JN: ∀q∈c++i::C,D.heap (D.bas+q)=none/\D.bas+q<D.nxt:=by
      intro q O;obtain⟨e1,e2⟩:=S q (by simp at O⊢;exact .inr O);rw[g1];refine⟨g3 _ e2 (fun e=>V.1 ?_) e1,aa⟩;have:q=j:=aa
      exact this▸O
     have h3:=ih D FM V.2 JN (fun q O x y hx X=>Y q (gt _ O) x y hx X) h2
     cases h3 with
     | cons z L PP M=>
       rename_i t1 v;have a:=Y j fh w v n z;have U:j≠i:=by rintro rfl;exact V.1 af
       have hd:(∀t∈v.reads,w.dst≠some t)/\ ∀t∈w.reads,v.dst≠some t:=by
        rcases a with a | a | a | a | a
        ·exact⟨a.d1,a.d2⟩
        ·exact⟨a.d1,a.d2⟩
        ·exact⟨a.d1,a.d2⟩
        ·exact⟨a.1.d1,a.1.d2⟩
        ·exact⟨a.d2,a.d1⟩
       have A:T i v s:=hT i v _ _ (fun y X=>(g.evl hd.1 y X).symm) PP;have J: ∀{t:St},StepG P N true i v s t->T j w t:=fun AE=>hT j w _ _ (AE.evl hd.2) Z
       rcases a with a | a | a | ⟨a,Ni⟩ | a
       ·obtain⟨ej,H,F,rfl⟩:=g.toD a.r1;obtain⟨ei,K,E,rfl⟩:=L.toD a.r2;obtain⟨b,k,f,Q,R⟩:=swap B a U d m H F K E;refine .cons z (b.toG k) A (.cons n (f.toG Q) (J (b.toG k)) ?_);rw[<- R];exact M
       ·obtain⟨t,b,f⟩:=Vg B a g L;exact .cons z b A (.cons n f (J b) M)
       ·obtain⟨ej,H,F,rfl⟩:=g.toD (S3 a.ap).2.2;obtain⟨ei,K,E,rfl⟩:=L.toD (jS a.lk).2.2.1;obtain⟨b,k,f,Q,R⟩:=Vh B a U d m H F K E;refine .cons z (b.toG k) A (.cons n (f.toG Q) (J (b.toG k)) ?_);rw[<- R];exact M
       ·have r1:w.op.isRaw=false:=by
         rcases a.lw with⟨h,_⟩ | ⟨h,_⟩
         ·exact(jS h).2.2.1
         ·exact(mu h).2.2.1
        have r2:v.op.isRaw=false:=by
         rcases a.lw with⟨_,h⟩ | ⟨_,h⟩
         ·exact(mu h).2.2.1
         ·exact(jS h).2.2.1
        obtain⟨ej,H,F,rfl⟩:=g.toD r1;obtain⟨ei,K,E,rfl⟩:=L.toD r2;obtain⟨b,k,f,Q,R⟩:=Vf B a (Ni s Z A) U d m H F K E;refine .cons z (b.toG k) A (.cons n (f.toG Q) (J (b.toG k)) ?_);rw[<- R];exact M
       ·obtain⟨t,b,f⟩:=kbK B a g L;exact .cons z b A (.cons n f (J b) M)
def left (n:Nat) (listed:Array Bool):List Nat:=(List.range n).filter fun i=> !listed.getD i true
def ready (ops:Array Oper) (listed:Array Bool):List Nat:=
 (List.range ops.size).filter fun i=> !listed.getD i true&&((ops[i]?).map (·.after.all fun e=> !Region.binds .any e||listed.getD e.on false)).getD false
def fut (ops:Array Oper):Nat->Nat->Array Bool->List Nat
 | 0,_,_=>[]
 | fuel+1,t,listed=>match(ready ops listed)[t % (ready ops listed).length]? with
   | some i=>i::fut ops fuel (t/ (ready ops listed).length) (listed.setIfInBounds i true)
   | none=>[]
theorem S7 (ops:Array Oper): ∀(fuel t:Nat) (listed:Array Bool) (acc:List Nat),Region.linearise.go .any ops fuel t listed acc=acc.reverse++fut ops fuel t listed
 | 0,t,listed,acc=>by simp[Region.linearise.go,fut]
 | fuel+1,t,listed,acc=>by
   simp only[Region.linearise.go,fut]
   show(match(ready ops listed)[t % (ready ops listed).length]? with
    | some i=>Region.linearise.go .any ops fuel (t/ (ready ops listed).length) (listed.setIfInBounds i true) (i::acc)
    | none=>acc.reverse)=_
   split
   ·rename_i i hi;rw[S7 ops fuel];simp
   ·simp
theorem yP (listed:Array Bool) (i q:Nat) (d:Bool) (hi:i<listed.size):(listed.setIfInBounds i true).getD q d=if q=i then true else listed.getD q d:=by
 by_cases h:q=i
 ·subst h;simp[hi]
 ·simp[h,ke,bX h]
theorem Y3 (hI:I.Ok N) {T:Nat->ROp->St->Prop} (hT: ∀(i:Nat) (r:ROp) (s u:St),(∀y∈r.op.opds,evl N.G s y=evl N.G u y)->T i r s->T i r u)
 {ck:List (Nat×Nat)} (FG: ∀j i,(j,i)∈ck-> ∀x y,l[j]? =some x->l[i]? =some y-> ∀s,T j x s->T i y s->sep N.G s x y=true) {c:Ctx} (hl:ops.toList.length=l.length/\ ∀(i:Nat) (r:ROp),l[i]? =some r-> ∃o,ops.toList[i]? =some o/\OpRel P I ns ops o r) (GW:oh ck ops l=true) (Q:Exit->Act->World->Prop) {s':St}
 (hQ: ∀v w' n μ' lam',Rel N c ns n μ' lam' s' v w'->Q .normal v w'):
 ∀(fuel t:Nat) (listed:Array Bool) (s:St) (A:Nat->Prop) (μ f:Nat->Nat) (a:Act) (w:World),listed.size=ops.size->(left ops.size listed).length<=fuel->
  (∀(i:Nat) (o:Oper),ops[i]? =some o->listed.getD i true=true-> ∀q∈fK o,listed.getD q false=true)->
  RunT P N l T (left ops.size listed) s s'->(∀q∈left ops.size listed,s.heap (s.bas+q)=none/\s.bas+q<s.nxt)->Rel N c ns A μ f s a w->wpOpsIn (FW ro) 0 P ops Q (fut ops fuel t listed) a w:=by
 have hn:ops.size=l.length:=al hl.1
 simp only[oh,zN,dS,zF,fg]at GW
 have AA: ∀(i:Nat) (o:Oper),ops[i]? =some o-> ∀q∈fK o,q<i:=by
  intro i o g q b;have hi:i<ops.size:=(gQ.1 g).1;have:=(GW i aa).1;rw[g]at this;simp only[Option.elim,zN,aQ]at this;exact this q b
 intro fuel
 induction fuel with
 | zero=>
   intro t listed s A μ f a w _ Ac _ D _ R;have:left ops.size listed=[]:=lx.1 aa;rw[this]at D;cases D
   exact hQ a w A μ f R
 | succ fuel ih=>
   intro t listed s A μ f a w AS Ac By D U R
   have K: ∀q,q∈left ops.size listed<->q<ops.size/\listed.getD q true=false:=by
    intro q;simp[left,f_]
   cases Y:left ops.size listed with
   | nil=>
     have Ec:ready ops listed=[]:=by
      refine List.filter_eq_nil_iff.2 fun i hi=> ?_
      have:i∉ left ops.size listed:=by rw[Y];simp
      rw[K]at this;simp only[dS]at hi;simp[hi]at this;simp[this]
     rw[Y]at D;cases D;simp only[fut,Ec];simp only[wg]
     exact hQ a w A μ f R
   | cons O L0=>
     have NR:O∈left ops.size listed:=by rw[Y];simp
     have L:(left ops.size listed).Pairwise (· < ·):=List.Pairwise.filter _ vX
     have G0: ∀(i:Nat) (o:Oper),ops[i]? =some o->(∀q∈fK o,listed.getD q false=true)->(o.after.all fun e=> !Region.binds .any e||listed.getD e.on false)=true:=by
      intro i o g hp;rw[Array.all_eq_true'];intro e he
      cases S:Region.binds .any e with
      | false=>simp
      | true=>
        simp only[jq,v8];exact hp e.on (by simp only[fK,p7];exact⟨e,al he,by simp[S]⟩)
     have HK:O∈ready ops listed:=by
      obtain⟨C,Hx⟩:=(K O).1 NR;refine f_.2 ⟨dS.2 C,?_⟩;rw[Hx,iA C];simp only[lr,eA,cZ,gx];refine G0 O _ (iA C) (fun q b=> ?_);have Qa:=AA O _ (iA C) q b
      have GC:q∉ left ops.size listed:=by
       intro E;rw[Y]at E L;rcases cj.1 E with rfl | E
       ·omega
       ·have:=(wb.1 L).1 q E;omega
      rw[K]at GC;have HN:q<listed.size:=aa
      have:listed.getD q true=true:=by
       cases S:listed.getD q true with
       | true=>rfl
       | false=>exact absurd ⟨aa,S⟩ GC
      rw[ke,iA HN]at this⊢;exact this
     have CB:0<(ready ops listed).length:=List.length_pos_of_mem HK;have C:t % (ready ops listed).length<(ready ops listed).length:=Nat.mod_lt _ CB;simp only[fut,zI C]
     generalize L5:(ready ops listed)[t % (ready ops listed).length]=i
     have I6:i∈ready ops listed:=by rw[<- L5];exact mg C
     obtain⟨B8,Cq⟩:=f_.1 I6;have AV:i<ops.size:=dS.1 B8;simp only[zF,eI]at Cq;obtain⟨C8,X⟩:=Cq;have JF:ops[i]? =some ops[i]:=iA AV;rw[JF]at X;simp only[cZ,gx]at X
     have I7: ∀q∈fK ops[i],listed.getD q false=true:=by
      intro q b;simp only[fK,p7]at b;obtain⟨e,he,b⟩:=b;split at b
      ·rename_i S;simp only[zA]at b;subst b;rw[Array.all_eq_true']at X;have:=X e (al he);simpa[S]using this
      ·simp at b
     have E:i∈left ops.size listed:=(K i).2 ⟨AV,C8⟩
     -- what is before it Dt been executed
     have Ol: ∀(k:Nat),k<ops.size->(∀(o:Oper),ops[k]? =some o-> ∀q∈fK o,listed.getD q false=true)-> ∀m,((tM ops).getD k 0).testBit m=true->listed.getD m false=true:=by
      intro k
      induction k using Nat.strongRecOn with
      | _ k ihk=>
        intro B hp m hm;have Qz:ops.toList[k]? =some ops[k]:=by simp[B]
        obtain⟨q,b,N2⟩:=Me ops.toList [] k ops[k] Qz (fun q b=>al (AA k _ (iA B) q b)) m (by simpa[tM]using hm);have Ed:=hp _ (iA B) q b;have Nn:=AA k _ (iA B) q b;rcases N2 with rfl | N2
        ·exact Ed
        ·refine ihk q Nn aa (fun o g r hr=> ?_) m N2;refine By q o g ?_ r hr;have HN:q<listed.size:=aa
         rw[ke,iA HN]at Ed⊢;exact Ed
     obtain⟨z,F,J⟩:=List.append_of_mem E;have V:(left ops.size listed).Nodup:=L.imp (fun h=>qp h)
     have Af: ∀j∈z,j<i:=by
      intro j Z;rw[J]at L;exact(List.pairwise_append.1 L).2.2 j Z i af
     have Ia: ∀j∈z,∀x y,l[j]? =some x->l[i]? =some y->Indep x y\/IndepR x y\/IndepX x y\/(IndepD x y/\ ∀s,T j x s->T i y s->sep N.G s x y=true)\/IndepR y x:=by
      intro j Z x y hx hy;have DP:=Af j Z;have d:=(GW i aa).2 j DP;rcases d with d | d
      ·have Hy:=Ol i AV (fun o g q b=>by rw[JF]at g;cases g;exact I7 q b) j d;have Kq:j∈left ops.size listed:=by rw[J];simp[Z]
       obtain⟨RJ,W⟩:=(K j).1 Kq;have Pi:j<listed.size:=aa
       rw[ke,iA Pi]at Hy W;simp only[gx]at Hy W;rw[Hy]at W;simp at W
      ·rw[hx,hy]at d;simp only[fg]at d;rcases d with(((d | d) | d) | d) | d
       ·exact .inl (Y_ d)
       ·exact .inr (.inl (K3 d))
       ·exact .inr (.inr (.inl (X8 d)))
       ·simp only[zF,nQ,aQ]at d;exact .inr (.inr (.inr (.inl ⟨Yw d.2,FG j i d.1 x y hx hy⟩)))
       ·exact .inr (.inr (.inr (.inr (K3 d))))
     rw[J]at D U V;have FU:=kaZ hI hT hl z s ⟨c,A,μ,f,a,w,R⟩ V U Ia D
     cases FU with
     | cons Et d _ h2=>
       rename_i H ri _;obtain⟨o,g,Jd⟩:=hl.2 i ri Et;obtain⟨f1,f2⟩:=U i af;have hs:=ym (ro:=ro) hI d Jd R f1 f2 Q;obtain⟨g1,g2,g3⟩:=d.free
       have Jc:left ops.size (listed.setIfInBounds i true)=z++F:=by
        have e1:left ops.size (listed.setIfInBounds i true)=(left ops.size listed).filter (fun q=>q != i):=by
         simp only[left,List.filter_filter]
         congr 1
         funext q
         rw[yP listed i q true aa]
         by_cases h:q=i
         ·subst h;simp
         ·simp[h]
        rw[e1,J,iC,o_];simp only[sO,zG,aX];have Fj:i∉ z:=fun h=>by have:=Af i h;omega
        have Fh:i∉ F:=by
         intro h;have:=(o9.1 V).2.1;exact(qr.1 this).1 h
        rw[wj.2 (fun q b=>by simp;rintro rfl;exact Fj b),wj.2 (fun q b=>by simp;rintro rfl;exact Fh b)]
       have BS:(z++F).length<=fuel:=by rw[J]at Ac;simp at Ac⊢;omega
       have Oe: ∀(k:Nat) (o:Oper),ops[k]? =some o->(listed.setIfInBounds i true).getD k true=true-> ∀q∈fK o,(listed.setIfInBounds i true).getD q false=true:=by
        intro k o' AR B q b;rw[yP listed i k true aa]at B;rw[yP listed i q false aa]
        by_cases Pg:k=i
        ·subst Pg;rw[JF]at AR;cases AR;rw[I7 q b];simp
        ·rw[ac Pg]at B;rw[By k o' AR B q b];simp
       have DD: ∀q∈z++F,H.heap (H.bas+q)=none/\H.bas+q<H.nxt:=by
        intro q b;have Eu:q∈z++i::F:=by simp at b⊢;rcases b with h | h<;>simp[h]
        obtain⟨e1,e2⟩:=U q Eu;rw[g1];refine⟨g3 _ e2 (fun e=> ?_) e1,aa⟩;have Qb:q=i:=aa
        subst Qb;have EG:q∉ z:=fun h=>by have:=Af q h;omega
        have Mu:q∉ F:=by
         intro h;have:=(o9.1 V).2.1;exact(qr.1 this).1 h
        simp[EG,Mu]at b
       rw[eu]at g;simp only[wpOpsIn,g]
       have next : ∀v w' n μ' lam',Rel N c ns n μ' lam' H v w'->wpOpsIn (FW ro) 0 P ops Q (fut ops fuel (t/ (ready ops listed).length) (listed.setIfInBounds i true)) v w':=by
        intro v w' n μ' lam' M;refine ih _ _ H n μ' lam' v w' (al AS) (by rw[Jc];exact BS) Oe (by rw[Jc];exact h2) (by rw[Jc];exact DD) M
       split
       ·rename_i hw;rw[ah hw]at hs;refine OR hs ?_;rintro v w' ⟨n,μ',lam',M⟩;exact next v w' n μ' lam' M
       ·rename_i hw;rw[ac hw]at hs;obtain⟨n,μ',lam',M⟩:=hs;exact⟨fun _ _=>trivial,next _ _ n μ' lam' M⟩
theorem L_ {c:Ctx} {A:Nat->Prop} {μ lam:Nat->Nat} {s n:St} {a:Act} {w:World} (E:I.Ok N) {T:Nat->ROp->St->Prop} (H: ∀(i:Nat) (r:ROp) (s u:St),(∀y∈r.op.opds,evl N.G s y=evl N.G u y)->T i r s->T i r u)
 {ck:List (Nat×Nat)} (C: ∀j i,(j,i)∈ck-> ∀x y,l[j]? =some x->l[i]? =some y-> ∀s,T j x s->T i y s->sep N.G s x y=true) (k:ops.toList.length=l.length/\ ∀(i:Nat) (r:ROp),l[i]? =some r-> ∃o,ops.toList[i]? =some o/\OpRel P I ns ops o r) (D:oh ck ops l=true) (Q:Exit->Act->World->Prop)
 (z:RunT P N l T (List.range l.length) s n) (B: ∀i,i<l.length->s.heap (s.bas+i)=none/\s.bas+i<s.nxt) (R:Rel N c ns A μ lam s a w)
 (F: ∀g w' v μ' lam',Rel N c ns v μ' lam' n g w'->Q .normal g w') (t:Nat):wpOpsIn (FW ro) 0 P ops Q (Region.linearise .any ops t) a w:=by
 have m:ops.size=l.length:=al k.1
 have h: ∀q d,q<ops.size->(Array.replicate ops.size false).getD q d=false:=by
  intro q d b;rw[ke,Hi,ah b];rfl
 have f:left ops.size (Array.replicate ops.size false)=List.range l.length:=by
  simp only[left];rw[<- m];refine wj.2 fun q b=> ?_
  rw[h q true (dS.1 b)];rfl
 simp only[Region.linearise,S7,List.reverse_nil,ff];refine Y3 E H C k D Q F ops.size t _ s A μ lam a w af (by rw[f];simp[m]) ?_ (by rw[f];exact z) (by rw[f];exact fun q b=>B q (dS.1 b)) R;intro i o J hi;have:i<ops.size:=(gQ.1 J).1;rw[h i true this]at hi;simp at hi
end
end Rg
end
