/- Part of the proof of laws of relyguardtop. No condition. -/
import Derived.Test.YtoidcnbdndioaaaGreatDoorKartAE
set_option linter.unusedVariables false
set_option linter.unusedSimpArgs false
section
namespace Rg
open Go
section
variable {G:Nat->List T} {p:Nat} {s:St} {op:AOp} {e:Eff}
theorem znH (h:zaj G p s op=some e):op.wrL=false->e.wloc=none:=by
 intro hw;cases op
 all_goals(try(simp[AOp.wrL]at hw;done))
 all_goals simp only[zaj,zC,zB,zA,Prod.exists]at h
 all_goals(try(repeat(first | (obtain⟨_,_,h⟩:=h) | split at h | (simp only[zB,zA]at h))))
 all_goals(try(repeat(first | (obtain⟨_,_,h⟩:=h) | split at h | (simp only[zB,zA]at h))))
 all_goals(try(repeat(first | (obtain⟨_,_,h⟩:=h) | split at h | (simp only[zB]at h))))
 all_goals(try(repeat(first | (obtain⟨_,_,h⟩:=h) | split at h | (simp only[zB]at h))))
 all_goals(try subst h)
 all_goals(try rfl)
 all_goals(try(simp at h;done))
theorem zBk (h:zaj G p s op=some e):op.wrH=false-> ∀x∈e.hp,x.1=s.bas+p:=by
 intro hw x hx;cases op
 all_goals(try(simp[AOp.wrH]at hw;done))
 all_goals simp only[zaj,zC,zB,zA,Prod.exists]at h
 all_goals(try(repeat(first | (obtain⟨_,_,h⟩:=h) | split at h | (simp only[zB,zA]at h))))
 all_goals(try(repeat(first | (obtain⟨_,_,h⟩:=h) | split at h | (simp only[zB,zA]at h))))
 all_goals(try(repeat(first | (obtain⟨_,_,h⟩:=h) | split at h | (simp only[zB]at h))))
 all_goals(try(repeat(first | (obtain⟨_,_,h⟩:=h) | split at h | (simp only[zB]at h))))
 all_goals(try subst h)
 all_goals(try(simp at hx;done))
 all_goals(try(simp at h;done))
 all_goals(simp only[List.mem_cons,List.not_mem_nil,or_false]at hx)
 all_goals(subst hx;rfl)
theorem ztV (h:zaj G p s op=some e) {b:Nat} {cs:List V} (hb:e.wloc=some (b,cs)): ∃x∈op.opds,∃o,zd8 s x=some (b,o):=by
 cases op
 case storeL n a v=>
  simp only[zaj,zC,zB,Prod.exists]at h;obtain⟨b',o,hr,cs0,_,v0,_,new,_,h⟩:=h;split at h
  ·simp only[zB,zA]at h;obtain⟨cs',_,rfl⟩:=h;simp only[zA,Prod.mk.injEq]at hb;obtain⟨rfl,_⟩:=hb;exact⟨a,by simp[AOp.opds],o,hr⟩
  ·simp at h
 all_goals(have:=znH h rfl;rw[this]at hb;simp at hb)
theorem ztW (h:zaj G p s op=some e) {b o:Nat} (hb:e.adr=some (b,o)): ∃x∈op.opds,∃o',zd8 s x=some (b,o'):=by
 cases op
 case faddrL off x=>
  simp only[zaj,zC,zB,Prod.exists,zA]at h;obtain⟨b',o',hr,_,_,rfl⟩:=h;simp only[zA,Prod.mk.injEq]at hb;obtain⟨rfl,_⟩:=hb;exact⟨x,by simp[AOp.opds],o',hr⟩
 case iaddrAL len sz x i=>
  simp only[zaj,zC,zB,Prod.exists]at h;obtain⟨n,_,b',o',hr,_,_,h⟩:=h;split at h
  ·simp only[zA]at h;subst h;simp only[zA,Prod.mk.injEq]at hb;obtain⟨rfl,_⟩:=hb;exact⟨x,by simp[AOp.opds],o',hr⟩
  ·simp at h
 all_goals exfalso
 all_goals simp only[zaj,zC,zB,zA,Prod.exists]at h
 all_goals(try(repeat(first | (obtain⟨_,_,h⟩:=h) | split at h | (simp only[zB,zA]at h))))
 all_goals(try(repeat(first | (obtain⟨_,_,h⟩:=h) | split at h | (simp only[zB,zA]at h))))
 all_goals(try(repeat(first | (obtain⟨_,_,h⟩:=h) | split at h | (simp only[zB]at h))))
 all_goals(try(repeat(first | (obtain⟨_,_,h⟩:=h) | split at h | (simp only[zB]at h))))
 all_goals(try subst h)
 all_goals(try(simp at hb;done))
 all_goals(try(simp at h;done))
end
inductive DStep (P:Program) (N:Nam) (p:Nat) (o:ROp) (s:St):Eff->Prop where
 | skip (hw:zcs s o.guard=some false):DStep P N p o s {}
 | eff {e:Eff} (hw:zcs s o.guard=some true) (he:zaj N.G p s o.op=some e):DStep P N p o s e
 | pure {f:Opd} {args:List Opd} {fv:V} {g:Nat} {a b vs rs:List V} {r:V} {rf:Func} (hw:zcs s o.guard=some true) (ho:o.op= .call false f args) (As:evl N.G s f=some fv)
    (Ax:zfC fv=some (g,a,b)) (An:Real P (N.nm g) rf) (Au:zgE N.G s args=some vs) (AD:(a++vs++b).mapM (toT1 s.heap)=some rs) (hc:zjO P N g rs r)
    (hd:r.scalar=true\/(a++vs++b).flatMap (zba s.heap)=[]):DStep P N p o s { val:=r }
 | fresh {f:Opd} {args:List Opd} {fv:V} {g:Nat} {a b vs rs:List V} {r:V} {rf:Func} {H':Nat->Option O} {n':Nat} {e:Eff} (hw:zcs s o.guard=some true) (ho:o.op= .fcall f args) (As:evl N.G s f=some fv)
    (Ax:zfC fv=some (g,a,b)) (An:Real P (N.nm g) rf) (Au:zgE N.G s args=some vs) (AD:(a++vs++b).mapM (toT1 s.heap)=some rs) (hd:(a++vs++b).flatMap (zba s.heap)=[])
    (hc:zns P N g rs (fun _=>none) 0 r H' n') (he:zqm (s.bas+p) r H'=some e):DStep P N p o s e
def AOp.isRaw:AOp->Bool
 | .call true _ _=>true
 | _=>false
theorem StepG.toD {P:Program} {N:Nam} {p:Nat} {o:ROp} {s s':St} (h:StepG P N true p o s s') (hn:o.op.isRaw=false): ∃e,DStep P N p o s e/\s.free o.dst e/\s'=s.apply o.dst e:=by
 cases h with
 | skip hw hf=>exact⟨{},.skip hw,hf,rfl⟩
 | eff hw hf he=>exact⟨_,.eff hw he,hf,rfl⟩
 | pure hw hf ho As Ax An Au AD hc hd=>
   refine⟨_,.pure hw ho As Ax An Au AD hc (hd rfl),hf,?_⟩;rcases hd rfl with h | h
   ·rw[if_pos h]
   ·rw[h];simp[freezes]
 | raw hw hf ho=>rw[ho]at hn;simp[AOp.isRaw]at hn
 | yld hw hf ho=>rw[ho]at hn;simp[AOp.isRaw]at hn
 | fresh hw hf ho As Ax An Au AD hd hc he=>
   refine⟨_,.fresh hw ho As Ax An Au AD hd hc he,fun d hd=>⟨(hf d hd).1,fun b o hb=> ?_⟩,rfl⟩;rw[(zeP he).1]at hb;simp at hb
theorem DStep.toG {P:Program} {N:Nam} {p:Nat} {o:ROp} {s:St} {e:Eff} (h:DStep P N p o s e) (hf:s.free o.dst e):StepG P N true p o s (s.apply o.dst e):=by
 cases h with
 | skip hw=>exact .skip hw hf
 | eff hw he=>exact .eff hw hf he
 | pure hw ho As Ax An Au AD hc hd=>
   have:=StepG.pure (d:=true) (p:=p) hw hf ho As Ax An Au AD hc (fun _=>hd);rcases hd with h | h
   ·rw[if_pos h]at this;exact this
   ·rw[h]at this;simpa[freezes]using this
 | fresh hw ho As Ax An Au AD hd hc he=>exact .fresh hw (fun d hd=>⟨(hf d hd).1,fun b o hb=>by simp at hb⟩) ho As Ax An Au AD hd hc he
def Opd.slots:Opd->List Nat
 | .s t=>[t]
 | .m _ t=>[t]
 | _=>[]
def ROp.reads (o:ROp):List Nat:=o.op.opds.flatMap Opd.slots++(match o.guard with | some (g,_)=>[g] | none=>[])
def Rz (N:Nam) (ns:Nat) (s:St):Prop:= ∃c A μ lam a w,Rel N c ns A μ lam s a w
section
variable {P:Program} {N:Nam} {ns:Nat} {s:St}
theorem Rz.adr (h:Rz N ns s) {t b o:Nat} (ha:s.adr t=some (b,o)):s.used b=true:=by
 obtain⟨c,A,μ,lam,a,w,R⟩:=h;exact(R.adr t b o ha).1
theorem Rz.fresh (h:Rz N ns s) {k:Nat} (hk:s.nxt<=k):s.heap k=none:=by
 obtain⟨c,A,μ,lam,a,w,R⟩:=h;exact R.fresh k hk
theorem RepC.top_some {w:World} {A:Nat->Prop} {nm μ:Nat->Nat} {H:Nat->Option O} {v:Value} {x:V} (h:RepC w A nm μ H v x): ∀k∈x.top,∃o,H k=some o:=by
 intro k hk;cases h<;>simp[V.top]at hk<;>subst hk<;>exact⟨_,‹_›⟩
theorem zbl.top_some {w:World} {A:Nat->Prop} {nm μ:Nat->Nat} {H:Nat->Option O} {v:Value} {x:V} (h:zbl w A nm μ H v x): ∀k∈x.top,∃o,H k=some o:=by
 intro k hk
 cases x with
 | ms _ _ _=>exact RepC.top_some h k hk
 | mp _ _ _=>exact RepC.top_some h k hk
 | mm _=>exact RepC.top_some h k hk
 | _=>simp[V.top]at hk
def V.isT:V->Bool
 | .t _=>true
 | _=>false
def V.noref:V->Bool
 | .t _=>true
 | .agg cs=>cs.all V.isT
 | _=>false
def Opd.plain:Opd->Bool
 | .c v=>v.noref
 | .m _ _=>false
 | _=>true
theorem Rz.top (h:Rz N ns s) {x:Opd} {v:V} (hp:x.plain=true) (hv:evl N.G s x=some v): ∀k∈v.top,∃o,s.heap k=some o:=by
 obtain⟨c,A,μ,lam,a,w,R⟩:=h;intro k hk
 cases x with
 | s t=>
   simp only[evl]at hv;split at hv<;>first | (simp at hv;done) | skip
   simp only[zA]at hv;subst hv
   exact(R.env t).top_some k hk
 | c u=>
   simp only[evl,zA]at hv;subst hv
   cases u<;>simp[Opd.plain,V.noref]at hp<;>simp[V.top]at hk
 | g q=>
   simp only[evl,zA]at hv;subst hv
   simp[V.top]at hk
 | m mt t=>cases hp
theorem ziC {w:World} {A:Nat->Prop} {N:Nam} {μ:Nat->Nat} {H H':Nat->Option O} (hH: ∀k o,H k=some o->zq3 w A N μ H (μ k) o) (Bl: ∀k o,H k=some o->H' k=some o):
 ∀(d:Nat) (x:V) (v:Value),RepC w A N.nm μ H v x->toT H d x=toT H' d x:=by
 intro d
 induction d with
 | zero=>intro x v _;cases x<;>rfl
 | succ d ih=>
   intro x v hr
   have Ap: ∀{k sz:Nat} {rs:List (List V)} {f:Bool} (hk:H k=some (.rows sz rs f)) (i:Nat) (row:List V),rs[i]? =some row-> ∀(j:Nat) (y:V),row[j]? =some y->toT H d y=toT H' d y:=by
    intro k sz rs f hk i row hi j y hj;obtain⟨cc,e0,z,h1,h2,h3,h4,h5⟩:=hH k _ hk;obtain⟨u,_,hu⟩:=h5 i row j y hi hj;exact ih y u hu
   have Fl: ∀(l:List V),(∀(j:Nat) (y:V),l[j]? =some y->toT H d y=toT H' d y)->l.mapM (toT H d)=l.mapM (toT H' d):=by
    intro l
    induction l with
    | nil=>intro _;rfl
    | cons y l ihl=>
      intro h;rw[List.mapM_cons,List.mapM_cons,h 0 y rfl,ihl (fun j z hj=>h (j+1) z (by simpa using hj))]
   cases x with
   | t y=>rfl
   | ms k i len=>
     obtain⟨o,hk⟩:=hr.top_some k (by simp[V.top]);simp only[toT,hk,Bl k o hk]
     cases o with
     | rows sz rs f=>
       simp only
       cases BK:rd rs i len with
       | none=>rfl
       | some r=>
         simp only[zC,zD]
         have D5: ∀(q:Nat) (row:List V),r[q]? =some row->row.mapM (toT H d)=row.mapM (toT H' d):=by
          intro q row hq;unfold rd at BK;split at BK
          ·simp only[zA]at BK;subst BK;rw[zO]at hq;split at hq
           ·rw[List.getElem?_drop]at hq;exact Fl row (fun j y hj=>Ap hk _ row hq j y hj)
           ·simp at hq
          ·simp at BK
         have:r.mapM (fun row=>row.mapM (toT H d))=r.mapM (fun row=>row.mapM (toT H' d)):=by
          clear BK
          induction r with
          | nil=>rfl
          | cons row r ihr=>
            rw[List.mapM_cons,List.mapM_cons,D5 0 row rfl,ihr (fun q row hq=>D5 (q+1) row (by simpa using hq))]
         rw[this]
     | map es=>rfl
     | loop _ _ _ _=>rfl
     | raw _=>rfl
     | dead=>rfl
   | mp k i off=>
     obtain⟨o,hk⟩:=hr.top_some k (by simp[V.top]);simp only[toT,hk,Bl k o hk]
     cases o with
     | rows sz rs f=>
       simp only
       cases PW:rs[i]? with
       | none=>rfl
       | some row=>
         simp only[zC,zD]
         rw[Fl (row.drop off) (fun j y hj=>by rw[List.getElem?_drop]at hj;exact Ap hk i row PW _ y hj)]
     | map es=>rfl
     | loop _ _ _ _=>rfl
     | raw _=>rfl
     | dead=>rfl
   | fn f a b=>
     cases hr with
     | fn _ _ _ va vb fa fb ha hb Bu Cu Di Eb=>
       simp only[toT]
       rw[Fl a (fun j y hj=>ih y _ (Cu j y hj)),Fl b (fun j y hj=>ih y _ (Eb j y hj))]
   | mm k=>
     cases hr with
     | mm _ es hk=>simp only[toT,hk,Bl k _ hk]
     | dmm _ hk _=>simp only[toT,hk,Bl k _ hk]
   | yl k=>rfl
   | ifc k x=>rfl
   | agg cs=>rfl
   | tup cs=>rfl
   | undef=>rfl
   | lb=>rfl
theorem zla {w:World} {A:Nat->Prop} {N:Nam} {μ:Nat->Nat} {H H':Nat->Option O} (hH: ∀k o,H k=some o->zq3 w A N μ H (μ k) o) (Bl: ∀k o,H k=some o->H' k=some o) {x:V} {v:Value} (hr:zbl w A N.nm μ H v x):
 toT1 H x=toT1 H' x:=by
 cases x with
 | agg cs=>
   obtain⟨vs,_,hl⟩:=hr;simp only[toT1]
   congr 1
   have : ∀(l:List V),(∀(j:Nat) (y:V),l[j]? =some y->toT H 1000 y=toT H' 1000 y)->l.mapM (toT H 1000)=l.mapM (toT H' 1000):=by
    intro l
    induction l with
    | nil=>intro _;rfl
    | cons y l ihl=>
      intro h;rw[List.mapM_cons,List.mapM_cons,h 0 y rfl,ihl (fun j z hj=>h (j+1) z (by simpa using hj))]
   exact this cs (fun j y hj=>let⟨u,_,hu⟩:=hl.2 j y hj;ziC hH Bl 1000 y u hu)
 | tup cs=>rfl
 | undef=>rfl
 | lb=>rfl
 | t y=>rfl
 | ms k i l=>simp only[toT1];rw[ziC hH Bl 1000 _ v hr]
 | mp k i o=>simp only[toT1];rw[ziC hH Bl 1000 _ v hr]
 | mm k=>simp only[toT1];rw[ziC hH Bl 1000 _ v hr]
 | yl k=>rfl
 | ifc k x=>rfl
 | fn f a b=>simp only[toT1];rw[ziC hH Bl 1000 _ v hr]
theorem zp7 {H H':Nat->Option O} {x:V} (h:x.noref=true):toT1 H x=toT1 H' x:=by
 cases x with
 | t y=>rfl
 | agg cs=>
   simp only[toT1]
   congr 1
   have : ∀(l:List V),l.all V.isT=true->l.mapM (toT H 1000)=l.mapM (toT H' 1000):=by
    intro l
    induction l with
    | nil=>intro _;rfl
    | cons y l ihl=>
      intro h;simp only[List.all_cons,zF]at h;rw[List.mapM_cons,List.mapM_cons,ihl h.2];cases y<;>simp[V.isT]at h
      rfl
   exact this cs h
 | _=>simp[V.noref]at h
theorem Rz.one (h:Rz N ns s) {H':Nat->Option O} (Bl: ∀k o,s.heap k=some o->H' k=some o) {x:Opd} {v:V} (hp:x.plain=true) (hv:evl N.G s x=some v):toT1 s.heap v=toT1 H' v:=by
 obtain⟨c,A,μ,lam,a,w,R⟩:=h
 cases x with
 | s t=>
   simp only[evl]at hv;split at hv<;>first | (simp at hv;done) | skip
   simp only[zA]at hv;subst hv
   exact zla R.heap Bl (R.env t)
 | c u=>
   simp only[evl,zA]at hv;subst hv
   exact zp7 hp
 | g q=>
   simp only[evl,zA]at hv;subst hv
   rfl
 | m mt t=>cases hp
theorem znC (H H':Nat->Option O) (c:List T):Rg.toT1 H (.agg (c.map V.t))=Rg.toT1 H' (.agg (c.map V.t)):=by
 have:(c.map V.t).mapM (toT H 1000)=(c.map V.t).mapM (toT H' 1000):=by
  induction c with
  | nil=>rfl
  | cons x r ih=>rw[List.map_cons,List.mapM_cons,List.mapM_cons,ih];rfl
 simp only[Rg.toT1,this]
theorem Rz.toT1 (h:Rz N ns s) {H':Nat->Option O} (Bl: ∀k o,s.heap k=some o->H' k=some o) {f:Opd} {args:List Opd} {fv:V} {g:Nat} {a b vs:List V}
 (Qe:f.plain=true) (UX: ∀x∈args,x.plain=true) (As:evl N.G s f=some fv) (Ax:zfC fv=some (g,a,b)) (Au:zgE N.G s args=some vs):
 (a++vs++b).mapM (Rg.toT1 s.heap)=(a++vs++b).mapM (Rg.toT1 H'):=by
 have key: ∀(l:List V),(∀x∈l,Rg.toT1 s.heap x=Rg.toT1 H' x)->l.mapM (Rg.toT1 s.heap)=l.mapM (Rg.toT1 H'):=by
  intro l
  induction l with
  | nil=>intro _;rfl
  | cons y l ihl=>
    intro h;rw[List.mapM_cons,List.mapM_cons,h y List.mem_cons_self,ihl (fun z hz=>h z (List.mem_cons_of_mem _ hz))]
 have Ca: ∀x,x∈a\/x∈b->Rg.toT1 s.heap x=Rg.toT1 H' x:=by
  intro x hx;obtain⟨c,A,μ,lam,ac,w,R⟩:=h;unfold zfC at Ax;split at Ax
  ·simp only[zA,Prod.mk.injEq]at Ax;obtain⟨rfl,rfl,rfl⟩:=Ax
   cases f with
   | s t=>
     simp only[evl]at As;split at As<;>first | (simp at As;done) | skip
     simp only[zA]at As;have he:=R.env t;rw[As]at he
     generalize ac.tmps.getD t undef=v0 at he
     cases(he:RepC w A N.nm μ s.heap v0 _)with
     | fn _ _ _ va vb fa fb ha hb Bu Cu Di Eb=>
       rcases hx with hx | hx
       ·obtain⟨i,hi,K9⟩:=List.getElem_of_mem hx;exact zla R.heap Bl (Cu i x (by rw[zI hi,K9])).toV
       ·obtain⟨i,hi,K9⟩:=List.getElem_of_mem hx
        exact zla R.heap Bl (Eb i x (by rw[zI hi,K9])).toV
   | c u=>
     simp only[evl,zA]at As;subst As
     simp[Opd.plain,V.noref]at Qe
   | g q=>simp[evl]at As
   | m mt t=>cases Qe
  ·simp only[zA,Prod.mk.injEq]at Ax;obtain⟨rfl,rfl,rfl⟩:=Ax
   have : ∃y,x= .t y:=by
    rcases hx with hx | hx<;>(simp only[List.mem_map]at hx;obtain⟨y,_,rfl⟩:=hx;exact⟨y,rfl⟩)
   obtain⟨y,rfl⟩:=this;rfl
  ·simp only[zA,Prod.mk.injEq]at Ax;obtain⟨rfl,rfl,rfl⟩:=Ax;rcases hx with hx | hx
   ·simp only[List.mem_singleton]at hx;subst hx;exact znC _ _ _
   ·simp at hx
  ·simp at Ax
 refine key _ (fun x hx=> ?_);simp only[List.mem_append]at hx;rcases hx with(hx | hx) | hx
 ·exact Ca x (.inl hx)
 ·obtain⟨h1,h2⟩:=zjr Au;obtain⟨i,hi,K9⟩:=List.getElem_of_mem hx;obtain⟨y,hy,Ak⟩:=h2 i x (by rw[zI hi,K9]);exact h.one Bl (UX y (zL hy)) Ak
 ·exact Ca x (.inr hx)
theorem zmB {H H':Nat->Option O}: ∀(d:Nat) (x:V),reach H d x=[]->reach H' d x=[]:=by
 intro d
 induction d with
 | zero=>intro x _;cases x<;>rfl
 | succ d ih=>
   intro x h
   cases x with
   | ms k i l=>simp[reach]at h
   | mp k i o=>simp[reach]at h
   | fn f a b=>
     simp only[reach,List.append_eq_nil_iff,List.flatMap_eq_nil_iff]at h⊢
     exact⟨fun y hy=>ih y (h.1 y hy),fun y hy=>ih y (h.2 y hy)⟩
   | _=>rfl
theorem zfY {H H':Nat->Option O} {l:List V} (h:l.flatMap (zba H)=[]):l.flatMap (zba H')=[]:=by
 rw[List.flatMap_eq_nil_iff]at h⊢;intro x hx;have:=h x hx
 cases x with
 | agg cs=>
   simp only[zba,List.flatMap_eq_nil_iff]at this⊢
   exact fun y hy=>zmB 1000 y (this y hy)
 | _=>exact zmB (H:=H) 1000 _ this
theorem DStep.transfer (hz:Rz N ns s) {p:Nat} {x:ROp} {d:Option Nat} {e' e:Eff} (BL: ∀y∈x.op.opds,y.plain=true) (CO: ∀t∈x.reads,d≠some t) (KD: ∀d',d=some d'->s.used d'=false)
 (hL:x.op.rdL=true->e'.wloc=none) (hH:x.op.rdH=true-> ∀k o,s.heap k=some o->(s.apply d e').heap k=some o):
 DStep P N p x s e<->DStep P N p x (s.apply d e') e:=by
 have Cm: ∀t,d≠some t->(s.apply d e').env t=s.env t:=by
  intro t ht
  cases d with
  | none=>rfl
  | some d'=>simp only[St.apply];exact zad _ _ (fun h=>ht (by rw[h]))
 have CI: ∀t,d≠some t->(s.apply d e').adr t=s.adr t:=by
  intro t ht
  cases d with
  | none=>rfl
  | some d'=>simp only[St.apply];exact zad _ _ (fun h=>ht (by rw[h]))
 have Ao: ∀y∈x.op.opds,∀t∈y.slots,d≠some t:=by
  intro y hy t ht;exact CO t (List.mem_append_left _ (List.mem_flatMap.2 ⟨y,hy,ht⟩))
 have Ak: ∀y∈x.op.opds,evl N.G s y=evl N.G (s.apply d e') y:=by
  intro y hy
  cases y with
  | s t=>simp only[evl,Cm t (Ao _ hy t (by simp[Opd.slots]))]
  | m mt t=>simp only[evl,Cm t (Ao _ hy t (by simp[Opd.slots]))]
  | c v=>rfl
  | g q=>rfl
 have BB: ∀y∈x.op.opds,zd8 s y=zd8 (s.apply d e') y:=by
  intro y hy
  cases y with
  | s t=>simp only[zd8,Cm t (Ao _ hy t (by simp[Opd.slots])),CI t (Ao _ hy t (by simp[Opd.slots]))]
  | m mt t=>rfl
  | c v=>rfl
  | g q=>rfl
 have F9:x.op.rdL=true-> ∀y∈x.op.opds,∀b o,zd8 s y=some (b,o)->s.loc b=(s.apply d e').loc b:=by
  intro hr y hy b o BB;have hw:=hL hr
  have Kz:d≠some b:=by
   cases y with
   | s t=>
     simp only[zd8]at BB;split at BB
     ·rename_i q hq;simp only[zA]at BB;subst BB;intro hd;have h1:=hz.adr hq;rw[KD b hd]at h1;simp at h1
     ·split at BB<;>first | (simp at BB;done) | skip
      simp only[zA,Prod.mk.injEq]at BB;obtain⟨rfl,_⟩:=BB
      exact Ao _ hy t (by simp[Opd.slots])
   | c v=>simp[zd8]at BB
   | g q=>simp[zd8]at BB
   | m mt t=>simp[zd8]at BB
  cases d with
  | none=>simp only[St.apply,hw]
  | some d'=>simp only[St.apply,hw];rw[zad _ _ (fun h=>Kz (by rw[h]))]
 have Ar:x.op.rdH=true-> ∀y∈x.op.opds,∀v,evl N.G s y=some v-> ∀k∈v.top,s.heap k=(s.apply d e').heap k:=by
  intro hr y hy v hv k hk;obtain⟨o,ho⟩:=hz.top (BL y hy) hv k hk;rw[ho,hH hr k o ho]
 have B6:zcs s x.guard=zcs (s.apply d e') x.guard:=by
  cases hg:x.guard with
  | none=>rfl
  | some gw=>
    obtain⟨g,wnt⟩:=gw;simp only[zcs,Cm g (CO g (by simp[ROp.reads,hg]))]
 have Hj:zaj N.G p s x.op=zaj N.G p (s.apply d e') x.op:=zfg Ak BB F9 Ar rfl;have GZ: ∀{r:Bool} {f:Opd} {args:List Opd},x.op= .call r f args->x.op.rdH=true:=by intro r f args h;rw[h];rfl
 have B0: ∀{r:Bool} {f:Opd} {args:List Opd},x.op= .call r f args->f∈x.op.opds/\ ∀y∈args,y∈x.op.opds:=by
  intro r f args h;rw[h];simp only[AOp.opds];exact⟨List.mem_cons_self,fun y hy=>List.mem_cons_of_mem _ hy⟩
 have Ha: ∀{f:Opd} {args:List Opd},x.op= .fcall f args->x.op.rdH=true:=by intro f args h;rw[h];rfl
 have Hh: ∀{f:Opd} {args:List Opd},x.op= .fcall f args->f∈x.op.opds/\ ∀y∈args,y∈x.op.opds:=by
  intro f args h;rw[h];simp only[AOp.opds];exact⟨List.mem_cons_self,fun y hy=>List.mem_cons_of_mem _ hy⟩
 constructor
 ·intro h
  cases h with
  | fresh hw ho As Ax An Au AD hd hc he=>
    obtain⟨g1,g2⟩:=Hh ho;have Bl:=hH (Ha ho);have e1:=hz.toT1 Bl (BL _ g1) (fun y hy=>BL y (g2 y hy)) As Ax Au
    exact .fresh (B6▸hw) ho (by rw[<- Ak _ g1];exact As) Ax An (by rw[<- zbZ (fun y hy=>Ak y (g2 y hy))];exact Au) (by rw[<- e1];exact AD) (zfY hd) hc he
  | skip hw=>exact .skip (B6▸hw)
  | eff hw he=>exact .eff (B6▸hw) (Hj▸he)
  | pure hw ho As Ax An Au AD hc hd=>
    obtain⟨g1,g2⟩:=B0 ho;have Bl:=hH (GZ ho);have e1:=hz.toT1 Bl (BL _ g1) (fun y hy=>BL y (g2 y hy)) As Ax Au;refine .pure (B6▸hw) ho (by rw[<- Ak _ g1];exact As) Ax An (by rw[<- zbZ (fun y hy=>Ak y (g2 y hy))];exact Au) (by rw[<- e1];exact AD) hc (hd.imp id zfY)
 ·intro h
  cases h with
  | skip hw=>exact .skip (B6▸hw)
  | eff hw he=>exact .eff (B6▸hw) (Hj▸he)
  | pure hw ho As Ax An Au AD hc hd=>
    obtain⟨g1,g2⟩:=B0 ho;have Bl:=hH (GZ ho);rw[<- Ak _ g1]at As;rw[<- zbZ (fun y hy=>Ak y (g2 y hy))]at Au;have e1:=hz.toT1 Bl (BL _ g1) (fun y hy=>BL y (g2 y hy)) As Ax Au
    refine .pure (B6▸hw) ho As Ax An Au (by rw[e1];exact AD) hc (hd.imp id zfY)
  | fresh hw ho As Ax An Au AD hd hc he=>
    obtain⟨g1,g2⟩:=Hh ho;have Bl:=hH (Ha ho);rw[<- Ak _ g1]at As;rw[<- zbZ (fun y hy=>Ak y (g2 y hy))]at Au;have e1:=hz.toT1 Bl (BL _ g1) (fun y hy=>BL y (g2 y hy)) As Ax Au;exact .fresh (B6▸hw) ho As Ax An Au (by rw[e1];exact AD) (zfY hd) hc he
theorem zbv {h:Nat->Option O} {k:Nat}: ∀{l:List (Nat×O)} ,(∀x∈l,x.1≠k)->zbf h l k=h k:=by
 intro l
 induction l generalizing h with
 | nil=>intro _;rfl
 | cons x l ih=>
   intro hx;obtain⟨q,o⟩:=x;simp only[zbf];rw[ih (fun y hy=>hx y (List.mem_cons_of_mem _ hy)),zad _ _ (Ne.symm (hx (q,o) List.mem_cons_self))]
theorem zkP {h h':Nat->Option O} {k:Nat}: ∀{l:List (Nat×O)},(∃x∈l,x.1=k)->zbf h l k=zbf h' l k:=by
 intro l
 induction l generalizing h h' with
 | nil=>rintro⟨x,hx,_⟩;simp at hx
 | cons x l ih=>
   rintro⟨y,hy,he⟩;obtain⟨q,o⟩:=x;simp only[zbf]
   by_cases Aj: ∃z∈l,z.1=k
   ·exact ih Aj
   ·have Be: ∀z∈l,z.1≠k:=fun z hz e=>Aj ⟨z,hz,e⟩
    rw[zbv Be,zbv Be];rcases List.mem_cons.1 hy with rfl | hy
    ·simp only at he;subst he;simp
    ·exact absurd he (Be y hy)
theorem zqz {h:Nat->Option O} {l m:List (Nat×O)} (hd: ∀x∈l,∀y∈m,x.1≠y.1):zbf (zbf h l) m=zbf (zbf h m) l:=by
 funext k
 by_cases hl: ∃x∈l,x.1=k
 ·obtain⟨x,hx,rfl⟩:=hl;rw[zbv (l:=m) (fun y hy e=>hd x hx y hy e.symm)];exact zkP ⟨x,hx,rfl⟩
 ·have Be: ∀x∈l,x.1≠k:=fun x hx e=>hl ⟨x,hx,e⟩
  rw[zbv (l:=l) (h:=zbf h m) Be]
  by_cases hm: ∃y∈m,y.1=k
  ·exact zkP hm
  ·have Le: ∀y∈m,y.1≠k:=fun y hy e=>hm ⟨y,hy,e⟩
   rw[zbv Le,zbv Le,zbv Be]
theorem zdq {α:Type} {f:Nat->α} {i j:Nat} {a b:α} (h:i≠j):upd (upd f i a) j b=upd (upd f j b) i a:=by
 funext k
 simp only[upd]
 by_cases h1:k=i
 ·subst h1;simp[h]
 ·by_cases h2:k=j
  ·subst h2;simp[h1]
  ·simp[h1,h2]
theorem zeT {d1 d2:Option Nat} {e1 e2:Eff} (hd: ∀x,d1=some x->d2≠some x) (hw:e1.wloc=none\/e2.wloc=none) (h1: ∀b cs,e1.wloc=some (b,cs)->d2≠some b) (h2: ∀b cs,e2.wloc=some (b,cs)->d1≠some b)
 (hh: ∀x∈e1.hp,∀y∈e2.hp,x.1≠y.1):(s.apply d1 e1).apply d2 e2=(s.apply d2 e2).apply d1 e1:=by
 have Cm:((s.apply d1 e1).apply d2 e2).env=((s.apply d2 e2).apply d1 e1).env:=by
  cases d1<;>cases d2<;>simp only[St.apply]
  rename_i a b;exact zdq (fun h=>hd a rfl (by rw[h]))
 have CI:((s.apply d1 e1).apply d2 e2).adr=((s.apply d2 e2).apply d1 e1).adr:=by
  cases d1<;>cases d2<;>simp only[St.apply]
  rename_i a b;exact zdq (fun h=>hd a rfl (by rw[h]))
 have Kh:((s.apply d1 e1).apply d2 e2).used=((s.apply d2 e2).apply d1 e1).used:=by
  simp only[St.apply];cases e1.adr<;>cases e2.adr<;>simp only
  funext k
  simp only[upd];split<;>split<;>rfl
 have M0:((s.apply d1 e1).apply d2 e2).heap=((s.apply d2 e2).apply d1 e1).heap:=zqz hh
 have Mv:((s.apply d1 e1).apply d2 e2).loc=((s.apply d2 e2).apply d1 e1).loc:=by
  simp only[St.apply];rcases hw with hw | hw
  ·cases BO:e2.wloc with
   | none=>
     simp only[hw];cases d1<;>cases d2<;>simp only
     rename_i a b
     exact zdq (fun h=>hd a rfl (by rw[h]))
   | some bc=>
     obtain⟨b,cs⟩:=bc;simp only[hw];have hb:=h2 b cs BO
     cases d1 with
     | none=>rfl
     | some a=>
       have Ca:a≠b:=fun h=>hb (by rw[h])
       cases d2 with
       | none=>simp only;exact zdq Ca
       | some c=>
         simp only;rw[zdq (f:=s.loc) Ca];exact zdq (fun h=>hd a rfl (by rw[h]))
  ·cases Cj:e1.wloc with
   | none=>
     simp only[hw];cases d1<;>cases d2<;>simp only
     rename_i a b
     exact zdq (fun h=>hd a rfl (by rw[h]))
   | some bc=>
     obtain⟨b,cs⟩:=bc;simp only[hw];have hb:=h1 b cs Cj
     cases d2 with
     | none=>rfl
     | some c=>
       have RK:c≠b:=fun h=>hb (by rw[h])
       cases d1 with
       | none=>simp only;exact(zdq RK).symm
       | some a=>
         simp only;rw[zdq (f:=s.loc) RK];exact zdq (fun h=>hd a rfl (by rw[h]))
 have hn:((s.apply d1 e1).apply d2 e2).nxt=((s.apply d2 e2).apply d1 e1).nxt:=rfl;have hb:((s.apply d1 e1).apply d2 e2).bas=((s.apply d2 e2).apply d1 e1).bas:=rfl
 generalize(s.apply d1 e1).apply d2 e2=A at *
 generalize(s.apply d2 e2).apply d1 e1=B at *
 cases A;cases B
 simp_all
def zuR (a b:ROp):Bool:=
 (match a.dst with | some d=> !b.reads.contains d&&b.dst != some d | none=>true)&&
 (match b.dst with | some d=> !a.reads.contains d | none=>true)&&
 !(a.op.wrH&&b.op.rdH)&& !(b.op.wrH&&a.op.rdH)&& !(a.op.wrL&&(b.op.rdL||b.op.mkL))&& !(b.op.wrL&&(a.op.rdL||a.op.mkL))&&
 !a.op.isRaw&& !b.op.isRaw&&a.op.opds.all Opd.plain&&b.op.opds.all Opd.plain
structure Indep (a b:ROp):Prop where
 d1: ∀t∈b.reads,a.dst≠some t
 d12: ∀x,a.dst=some x->b.dst≠some x
 d2: ∀t∈a.reads,b.dst≠some t
 h1:a.op.wrH=true->b.op.rdH=false
 h2:b.op.wrH=true->a.op.rdH=false
 l1:a.op.wrL=true->b.op.rdL=false/\b.op.mkL=false
 l2:b.op.wrL=true->a.op.rdL=false/\a.op.mkL=false
 r1:a.op.isRaw=false
 r2:b.op.isRaw=false
 p1: ∀y∈a.op.opds,y.plain=true
 p2: ∀y∈b.op.opds,y.plain=true
theorem zqy {a b:ROp} (h:zuR a b=true):Indep a b:=by
 simp only[zuR,zF,Bool.not_eq_true',Bool.and_eq_false_iff,zN]at h;obtain⟨⟨⟨⟨⟨⟨⟨⟨⟨a1,a2⟩,a3⟩,a4⟩,a5⟩,a6⟩,a7⟩,a8⟩,a9⟩,a10⟩:=h;refine⟨?_,?_,?_,?_,?_,?_,?_,a7,a8,a9,a10⟩
 ·intro t ht hd;rw[hd]at a1;simp at a1;exact a1.1 ht
 ·intro x hx hd;rw[hx]at a1;simp[hd]at a1
 ·intro t ht hd;rw[hd]at a2;simp at a2;exact a2 ht
 ·intro hw;rcases a3 with h | h
  ·rw[hw]at h;simp at h
  ·exact h
 ·intro hw;rcases a4 with h | h
  ·rw[hw]at h;simp at h
  ·exact h
 ·intro hw;rcases a5 with h | h
  ·rw[hw]at h;simp at h
  ·simpa using h
 ·intro hw;rcases a6 with h | h
  ·rw[hw]at h;simp at h
  ·simpa using h
theorem zwc {op:AOp} (h:op.rdH=false):op.wrH=false:=by cases op<;>simp_all [AOp.rdH,AOp.wrH]
theorem zwb {op:AOp} (h:op.rdL=false):op.wrL=false:=by cases op<;>simp_all [AOp.rdL,AOp.wrL]
theorem DStep.shape {p:Nat} {x:ROp} {e:Eff} (h:DStep P N p x s e):
 (x.op.wrL=false->e.wloc=none)/\(x.op.wrH=false-> ∀y∈e.hp,y.1=s.bas+p)/\(∀y∈e.hp,y.1=s.bas+p\/(s.heap y.1).isSome=true)/\
 (∀b cs,e.wloc=some (b,cs)-> ∃y∈x.op.opds,∃o,zd8 s y=some (b,o))/\(∀b o,e.adr=some (b,o)-> ∃y∈x.op.opds,∃o,zd8 s y=some (b,o)):=by
 cases h with
 | skip hw=>exact⟨fun _=>rfl,fun _=>by simp,by simp,by simp,by simp⟩
 | eff hw he=>exact⟨znH he,zBk he,zsy he,fun b cs hb=>ztV he hb,fun b o hb=>ztW he hb⟩
 | pure hw ho As Ax An Au AD hc hd=>exact⟨fun _=>rfl,fun _=>by simp,by simp,by simp,by simp⟩
 | fresh hw ho As Ax An Au AD hd hc he=>
   obtain⟨h1,h2,h3⟩:=zeP he;exact⟨fun _=>h3,fun _=>zlq he,fun y hy=> .inl (zlq he y hy),fun b cs hb=>by rw[h3]at hb;simp at hb,fun b o hb=>by rw[h1]at hb;simp at hb⟩
theorem zhG (hz:Rz N ns s) {y:Opd} {b o d:Nat} (h:zd8 s y=some (b,o)) (hs:d∉ y.slots) (hu:s.used d=false):b≠d:=by
 cases y with
 | s t=>
   simp only[zd8]at h;split at h
   ·rename_i q hq;simp only[zA]at h;subst h;rintro rfl;have:=hz.adr hq;rw[hu]at this;simp at this
   ·split at h<;>first | (simp at h;done) | skip
    simp only[zA,Prod.mk.injEq]at h;obtain⟨rfl,_⟩:=h;rintro rfl
    simp[Opd.slots]at hs
 | c v=>simp[zd8]at h
 | g q=>simp[zd8]at h
 | m mt t=>simp[zd8]at h
theorem swap (hz:Rz N ns s) {pj pi:Nat} {j i:ROp} {ej ei:Eff} (Av:Indep j i) (Kl:pj≠pi) (fj:s.heap (s.bas+pj)=none) (fi:s.heap (s.bas+pi)=none)
 (hj:DStep P N pj j s ej) (Dg:s.free j.dst ej) (hi:DStep P N pi i (s.apply j.dst ej) ei) (BJ:(s.apply j.dst ej).free i.dst ei):
 DStep P N pi i s ei/\s.free i.dst ei/\DStep P N pj j (s.apply i.dst ei) ej/\(s.apply i.dst ei).free j.dst ej/\(s.apply j.dst ej).apply i.dst ei=(s.apply i.dst ei).apply j.dst ej:=by
 obtain⟨sj1,sj2,sj3,sj4,sj5⟩:=hj.shape
 have LE:i.op.rdH=true-> ∀k o,s.heap k=some o->(s.apply j.dst ej).heap k=some o:=by
  intro hr k o hk
  have C9:j.op.wrH=false:=by
   cases hw:j.op.wrH with
   | false=>rfl
   | true=>have:=Av.h1 hw;rw[hr]at this;simp at this
  show zbf s.heap ej.hp k=some o;rw[zbv,hk];intro x hx e;have:=sj2 C9 x hx;rw[e]at this;rw[this,fj]at hk;simp at hk
 have IF:i.op.rdL=true->ej.wloc=none:=by
  intro hr;refine sj1 ?_
  cases hw:j.op.wrL with
  | false=>rfl
  | true=>have:=(Av.l1 hw).1;rw[hr]at this;simp at this
 have AK:DStep P N pi i s ei:=(DStep.transfer hz Av.p2 Av.d1 (fun d' hd=>(Dg d' hd).1) IF LE).2 hi
 have Ek:s.free i.dst ei:=by
  intro d hd;obtain⟨h1,h2⟩:=BJ d hd;refine⟨?_,h2⟩
  cases hu:s.used d with
  | false=>rfl
  | true=>have:=zeE (d:=j.dst) (e:=ej) hu;rw[h1]at this;simp at this
 obtain⟨si1,si2,si3,si4,si5⟩:=AK.shape
 have GU:j.op.rdH=true-> ∀k o,s.heap k=some o->(s.apply i.dst ei).heap k=some o:=by
  intro hr k o hk
  have BF:i.op.wrH=false:=by
   cases hw:i.op.wrH with
   | false=>rfl
   | true=>have:=Av.h2 hw;rw[hr]at this;simp at this
  show zbf s.heap ei.hp k=some o;rw[zbv,hk];intro x hx e;have:=si2 BF x hx;rw[e]at this;rw[this,fi]at hk;simp at hk
 have O5:j.op.rdL=true->ei.wloc=none:=by
  intro hr;refine si1 ?_
  cases hw:i.op.wrL with
  | false=>rfl
  | true=>have:=(Av.l2 hw).1;rw[hr]at this;simp at this
 have Dp:DStep P N pj j (s.apply i.dst ei) ej:=(DStep.transfer hz Av.p1 Av.d2 (fun d' hd=>(Ek d' hd).1) O5 GU).1 hj;have BA: ∀{x:ROp} {y:Opd},y∈x.op.opds-> ∀t∈y.slots,t∈x.reads:=fun hy t ht=>List.mem_append_left _ (List.mem_flatMap.2 ⟨_,hy,ht⟩)
 have GT:(s.apply i.dst ei).free j.dst ej:=by
  intro d hd;obtain⟨h1,h2⟩:=Dg d hd;refine⟨?_,h2⟩;simp only[St.apply]
  cases ha:ei.adr with
  | none=>exact h1
  | some bo=>
    obtain⟨b,o⟩:=bo;obtain⟨y,hy,o',hr⟩:=si5 b o ha;have hb:b≠d:=zhG hz hr (fun Aj=>Av.d1 d (BA hy d Aj) hd) h1;simp only[zad _ _ (Ne.symm hb)];exact h1
 refine⟨AK,Ek,Dp,GT,zeT Av.d12 ?_ ?_ ?_ ?_⟩
 ·cases hw:j.op.wrL with
  | false=>exact .inl (sj1 hw)
  | true=>exact .inr (si1 (zwb (Av.l1 hw).1))
 ·intro b cs hb hd;obtain⟨y,hy,o',hr⟩:=sj4 b cs hb;exact zhG hz hr (fun Aj=>Av.d2 b (BA hy b Aj) hd) (Ek b hd).1 rfl
 ·intro b cs hb hd;obtain⟨y,hy,o',hr⟩:=si4 b cs hb;exact zhG hz hr (fun Aj=>Av.d1 b (BA hy b Aj) hd) (Dg b hd).1 rfl
 ·intro x hx y hy e;have Az:s.bas+pj≠s.bas+pi:=by omega
  by_cases C9:j.op.wrH=true
  ·have BF:=zwc (Av.h1 C9);have e2:=si2 BF y hy;rcases sj3 x hx with h1 | h1
   ·exact Az (by rw[<- h1,<- e2,e])
   ·rw[e,e2,fi]at h1;simp at h1
  ·have e1:=sj2 (by simpa using C9) x hx;rcases si3 y hy with h1 | h1
   ·exact Az (by rw[<- e1,<- h1,e])
   ·rw[<- e,e1,fj]at h1;simp at h1
def AOp.isApp:AOp->Bool
 | .append _ _ _ _=>true
 | _=>false
theorem zdD {op:AOp} (h:op.looks=true):op.wrH=false/\op.wrL=false/\op.isRaw=false/\op.rdL=false:=by
 cases op<;>simp_all [AOp.looks,AOp.wrH,AOp.wrL,AOp.isRaw,AOp.rdL]
theorem zjt {G:Nat->List T} {y:Opd} {n:Int} {v:V} (h:zex G s y=some n) (hv:evl G s y=some v):v.top=[]:=by
 unfold zex at h;rw[hv]at h;split at h
 ·rename_i Fq;cases Fq;rfl
 ·cases h
theorem zqr {op:AOp} {p:Nat} {G:Nat->List T} {e:Eff} (hl:op.looks=true) (he:zaj G p s op=some e):
 ∀y∈op.opds,∀v,evl G s y=some v-> ∀k∈v.top,s.heap k≠some .dead:=by
 intro y hy v hv k hk hd;cases op<;>simp only[AOp.looks,zG]at hl
 ·simp only[AOp.opds,List.mem_singleton]at hy;subst hy;simp only[zaj,hv,zC,zD]at he;cases v<;>simp[V.top]at hk<;>subst hk<;>simp[hd]at he
 ·simp only[AOp.opds,List.mem_singleton]at hy;subst hy;simp only[zaj,hv,zC,zD]at he;cases v<;>simp[V.top]at hk<;>subst hk<;>simp[hd]at he
 ·rename_i sz x lo hi mx;simp only[AOp.opds,List.mem_cons,List.mem_append,Option.mem_toList]at hy;simp only[zaj,zC,zB]at he;obtain⟨u,hu,n,hn,h,hh,l,Ef,he⟩:=he
  have Ao: ∀{q:Opd} {d:Nat} {z:Option Opd} {m:Int},z=some q->zew G s d z=some m->evl G s q=some v->v.top=[]:=by
   intro q d z m hz hm hq;subst hz;exact zjt hm hq
  rcases hy with rfl | (hy | hy) | hy
  ·obtain rfl:=Option.some.inj (hu.symm.trans hv);cases u<;>simp[V.top]at hk<;>subst hk<;>simp[lenOf,hd]at hn
  ·rw[Ao hy Ef hv]at hk;simp at hk
  ·rw[Ao hy hh hv]at hk;simp at hk
  ·subst hy;simp only[zB]at he;obtain⟨m,hm,_⟩:=he;rw[zjt hm hv]at hk;simp at hk
 ·simp only[AOp.opds,List.mem_singleton]at hy;subst hy;simp only[zaj,hv,zC,zD]at he;cases v<;>simp[V.top]at hk<;>subst hk<;>simp[hd]at he
 ·rename_i sz x i;simp only[AOp.opds,List.mem_cons,List.not_mem_nil,or_false]at hy;simp only[zaj,zC,zB]at he;obtain⟨n,hn,u,hu,he⟩:=he;rcases hy with rfl | rfl
  ·obtain rfl:=Option.some.inj (hu.symm.trans hv);cases u<;>simp[V.top]at hk<;>subst hk<;>simp[hd]at he
  ·rw[zjt hn hv]at hk;simp at hk
 ·simp only[AOp.opds,List.mem_singleton]at hy;subst hy;simp only[zaj,hv,zC,zD,zB]at he;obtain⟨n,hn,_⟩:=he;cases v<;>simp[V.top]at hk<;>subst hk<;>simp[lenOf,hd]at hn
def zpq (a b:ROp):Bool:=
 (match a.dst with | some d=> !b.reads.contains d&&b.dst != some d | none=>true)&&
 (match b.dst with | some d=> !a.reads.contains d | none=>true)&&a.op.isApp&&b.op.looks&&a.op.opds.all Opd.plain&&b.op.opds.all Opd.plain
structure IndepX (a b:ROp):Prop where
 d1: ∀t∈b.reads,a.dst≠some t
 d12: ∀x,a.dst=some x->b.dst≠some x
 d2: ∀t∈a.reads,b.dst≠some t
 ap:a.op.isApp=true
 lk:b.op.looks=true
 p1: ∀y∈a.op.opds,y.plain=true
 p2: ∀y∈b.op.opds,y.plain=true
theorem zob {a b:ROp} (h:zpq a b=true):IndepX a b:=by
 simp only[zpq,zF,zN]at h;obtain⟨⟨⟨⟨⟨a1,a2⟩,a3⟩,a4⟩,a5⟩,a6⟩:=h;refine⟨?_,?_,?_,a3,a4,a5,a6⟩
 ·intro t ht hd;rw[hd]at a1;simp at a1;exact a1.1 ht
 ·intro x hx hd;rw[hx]at a1;simp[hd]at a1
 ·intro t ht hd;rw[hd]at a2;simp at a2;exact a2 ht
theorem zv6 {op:AOp} (h:op.isApp=true):op.wrL=false/\op.rdL=false/\op.isRaw=false:=by
 cases op<;>simp_all [AOp.isApp,AOp.wrL,AOp.rdL,AOp.isRaw]
theorem zvu {op:AOp} {p:Nat} {G:Nat->List T} {e:Eff} (hl:op.isApp=true) (he:zaj G p s op=some e):
 ∀k,k≠s.bas+p->zbf s.heap e.hp k=s.heap k\/zbf s.heap e.hp k=some .dead:=by
 intro k hk;cases op<;>simp only[AOp.isApp,zG]at hl
 simp only[zaj,zC,zB]at he;obtain⟨u,hu,v,hv,a,ha,b,hb,he⟩:=he;split at he
 ·split at he
  ·cases he;exact .inl rfl
  ·split at he
   ·cases he;left;simp only[zbf];exact zad _ _ hk
   ·simp only[zB,zA]at he;obtain⟨ts,_,rfl⟩:=he;exact .inl rfl
   ·split at he
    ·split at he
     ·cases he;simp only[zbf];rw[zad _ _ hk];unfold upd;split
      ·exact .inr rfl
      ·exact .inl rfl
     ·cases he
    ·cases he
   ·cases he
 ·cases he
theorem zBh (hz:Rz N ns s) {pj pi:Nat} {j i:ROp} {ej ei:Eff} (Av:IndepX j i) (Kl:pj≠pi) (fj:s.heap (s.bas+pj)=none) (fi:s.heap (s.bas+pi)=none)
 (hj:DStep P N pj j s ej) (Dg:s.free j.dst ej) (hi:DStep P N pi i (s.apply j.dst ej) ei) (BJ:(s.apply j.dst ej).free i.dst ei):
 DStep P N pi i s ei/\s.free i.dst ei/\DStep P N pj j (s.apply i.dst ei) ej/\(s.apply i.dst ei).free j.dst ej/\(s.apply j.dst ej).apply i.dst ei=(s.apply i.dst ei).apply j.dst ej:=by
 obtain⟨iwH,iwL,iraw,irL⟩:=zdD Av.lk;obtain⟨jwL,jrL,jraw⟩:=zv6 Av.ap;obtain⟨sj1,sj2,sj3,sj4,sj5⟩:=hj.shape;have Kp:ej.wloc=none:=sj1 jwL
 have Q6: ∀k,k≠s.bas+pj->(s.apply j.dst ej).heap k=s.heap k\/(s.apply j.dst ej).heap k=some .dead:=by
  intro k hk
  cases hj with
  | skip hw=>exact .inl rfl
  | eff hw he=>exact zvu Av.ap he k hk
  | pure hw ho=>exact .inl rfl
  | fresh hw ho=>have:=Av.ap;rw[ho]at this;cases this
 have Cm: ∀t∈i.reads,(s.apply j.dst ej).env t=s.env t:=by
  intro t ht;have hd:=Av.d1 t ht
  cases NM:j.dst with
  | none=>rfl
  | some d'=>rw[NM]at hd;simp only[St.apply];exact zad _ _ (fun h=>hd (by rw[h]))
 have Ao: ∀y∈i.op.opds,evl N.G (s.apply j.dst ej) y=evl N.G s y:=by
  intro y hy
  cases y with
  | s t=>simp only[evl,Cm t (List.mem_append_left _ (List.mem_flatMap.2 ⟨_,hy,by simp[Opd.slots]⟩))]
  | m mt t=>simp only[evl,Cm t (List.mem_append_left _ (List.mem_flatMap.2 ⟨_,hy,by simp[Opd.slots]⟩))]
  | c v=>rfl
  | g q=>rfl
 have Dq:DStep P N pi i (s.apply j.dst { ej with hp:=[] }) ei:=by
  cases hi with
  | skip hw=>exact .skip hw
  | eff hw he=>
    refine .eff hw ?_;rw[<- he];refine(zfg (s:=s.apply j.dst ej) (u:=s.apply j.dst { ej with hp:=[] }) (fun x _=>by cases x<;>rfl) (fun x _=>by cases x<;>rfl) (fun hr=>by rw[irL]at hr;cases hr) (fun _ x hx v hv k hk=> ?_) rfl).symm;obtain⟨o,ho⟩:=hz.top (Av.p2 x hx) (by rw[<- Ao x hx];exact hv) k hk;have A8:k≠s.bas+pj:=by rintro rfl;rw[fj]at ho;cases ho
    rcases Q6 k A8 with h | h
    ·exact h
    ·exact absurd h (zqr Av.lk he x hx v hv k hk)
  | pure hw ho=>have:=Av.lk;rw[ho]at this;cases this
  | fresh hw ho=>have:=Av.lk;rw[ho]at this;cases this
 have AK:DStep P N pi i s ei:=(DStep.transfer (e':= { ej with hp:=[] }) hz Av.p2 Av.d1 (fun d' hd=>(Dg d' hd).1) (fun _=>Kp) (fun _ k o hk=>hk)).2 Dq
 have Ek:s.free i.dst ei:=by
  intro d hd;obtain⟨h1,h2⟩:=BJ d hd;refine⟨?_,h2⟩
  cases hu:s.used d with
  | false=>rfl
  | true=>have:=zeE (d:=j.dst) (e:=ej) hu;rw[h1]at this;simp at this
 obtain⟨si1,si2,si3,si4,si5⟩:=AK.shape
 have GU:j.op.rdH=true-> ∀k o,s.heap k=some o->(s.apply i.dst ei).heap k=some o:=by
  intro hr k o hk;show zbf s.heap ei.hp k=some o;rw[zbv,hk];intro x hx e;have:=si2 iwH x hx;rw[e]at this;rw[this,fi]at hk;simp at hk
 have Dp:DStep P N pj j (s.apply i.dst ei) ej:=(DStep.transfer hz Av.p1 Av.d2 (fun d' hd=>(Ek d' hd).1) (fun _=>si1 iwL) GU).1 hj;have BA: ∀{x:ROp} {y:Opd},y∈x.op.opds-> ∀t∈y.slots,t∈x.reads:=fun hy t ht=>List.mem_append_left _ (List.mem_flatMap.2 ⟨_,hy,ht⟩)
 have GT:(s.apply i.dst ei).free j.dst ej:=by
  intro d hd;obtain⟨h1,h2⟩:=Dg d hd;refine⟨?_,h2⟩;simp only[St.apply]
  cases ha:ei.adr with
  | none=>exact h1
  | some bo=>
    obtain⟨b,o⟩:=bo;obtain⟨y,hy,o',hr⟩:=si5 b o ha;have hb:b≠d:=zhG hz hr (fun Aj=>Av.d1 d (BA hy d Aj) hd) h1;simp only[zad _ _ (Ne.symm hb)];exact h1
 refine⟨AK,Ek,Dp,GT,zeT Av.d12 (.inl Kp) (fun b cs hb=>by rw[Kp]at hb;cases hb) (fun b cs hb=>by rw[si1 iwL]at hb;cases hb) ?_⟩;intro x hx y hy e;have Az:s.bas+pj≠s.bas+pi:=by omega
 have e2:=si2 iwH y hy;rcases sj3 x hx with h1 | h1
 ·exact Az (by rw[<- h1,<- e2,e])
 ·rw[e,e2,fi]at h1;simp at h1
def AOp.still:AOp->Bool
 | .mv _ | .faddrL _ _ | .loadL _ _ _ | .allocL _=>true
 | _=>false
def zkO (a b:ROp):Bool:=
 (match a.dst with | some d=> !b.reads.contains d&&b.dst != some d | none=>true)&&
 (match b.dst with | some d=> !a.reads.contains d | none=>true)&&a.op.still&&b.op.isRaw&&a.op.opds.all Opd.plain
structure IndepR (a b:ROp):Prop where
 d1: ∀t∈b.reads,a.dst≠some t
 d12: ∀x,a.dst=some x->b.dst≠some x
 d2: ∀t∈a.reads,b.dst≠some t
 st:a.op.still=true
 rw:b.op.isRaw=true
 p1: ∀y∈a.op.opds,y.plain=true
theorem zjj {a b:ROp} (h:zkO a b=true):IndepR a b:=by
 simp only[zkO,zF,zN]at h;obtain⟨⟨⟨⟨a1,a2⟩,a3⟩,a4⟩,a5⟩:=h;refine⟨?_,?_,?_,a3,a4,a5⟩
 ·intro t ht hd;rw[hd]at a1;simp at a1;exact a1.1 ht
 ·intro x hx hd;rw[hx]at a1;simp[hd]at a1
 ·intro t ht hd;rw[hd]at a2;simp at a2;exact a2 ht
theorem zld {op:AOp} (h:op.still=true):op.rdH=false/\op.wrH=false/\op.wrL=false/\op.isRaw=false:=by
 cases op<;>simp_all [AOp.still,AOp.rdH,AOp.wrH,AOp.wrL,AOp.isRaw]
theorem zml {op:AOp} {e:Eff} {p:Nat} {G:Nat->List T} (h:op.still=true) (he:zaj G p s op=some e):e.hp=[]/\e.wloc=none:=by
 cases op<;>simp only[AOp.still,zG]at h
 all_goals simp only[zaj,zC,zB,zA,Prod.exists]at he
 ·obtain⟨_,_,rfl⟩:=he;exact⟨rfl,rfl⟩
 ·subst he;exact⟨rfl,rfl⟩
 ·obtain⟨_,_,_,_,_,_,_,_,_,rfl⟩:=he;exact⟨rfl,rfl⟩
 ·obtain⟨_,_,_,_,_,_,_,_,rfl⟩:=he;exact⟨rfl,rfl⟩
theorem zkg {op:AOp} {p:Nat} {G:Nat->List T} {H:Nat->Option O} {n:Nat} (h:op.still=true):zaj G p { s with heap:=H,nxt:=n } op=zaj G p s op:=by
 refine(zfg (s:=s) (u:={ s with heap:=H,nxt:=n }) (G:=G) (p:=p) (op:=op) (fun x _=> ?_) (fun x _=> ?_) (fun _ _ _ _ _ _=>rfl) (fun hr=> ?_) rfl).symm
 ·cases x<;>rfl
 ·cases x<;>rfl
 ·rw[(zld h).1]at hr;cases hr
theorem zBi (hz:Rz N ns s) {pj pi:Nat} {j i:ROp} {s1 s2:St} (Av:IndepR j i) (h1:StepG P N true pj j s s1) (h2:StepG P N true pi i s1 s2):
 ∃t,StepG P N true pi i s t/\StepG P N true pj j t s2:=by
 obtain⟨sr,swH,swL,snr⟩:=zld Av.st;obtain⟨ej,Gb,Dg,rfl⟩:=h1.toD snr
 have Ic:ej.hp=[]/\ej.wloc=none:=by
  cases Gb with
  | skip hw=>exact⟨rfl,rfl⟩
  | eff hw he=>exact zml Av.st he
  | pure hw ho=>exact⟨rfl,rfl⟩
  | fresh hw ho=>have:=Av.st;rw[ho]at this;cases this
 obtain⟨ehp,ewl⟩:=Ic;have Ar:(s.apply j.dst ej).heap=s.heap:=by simp only[St.apply,ehp,zbf]
 have Cm: ∀t∈i.reads,(s.apply j.dst ej).env t=s.env t:=by
  intro t ht;have hd:=Av.d1 t ht
  cases NM:j.dst with
  | none=>rfl
  | some d'=>rw[NM]at hd;simp only[St.apply];exact zad _ _ (fun h=>hd (by rw[h]))
 have Ao: ∀y∈i.op.opds,evl N.G (s.apply j.dst ej) y=evl N.G s y:=by
  intro y hy
  cases y with
  | s t=>simp only[evl,Cm t (List.mem_append_left _ (List.mem_flatMap.2 ⟨_,hy,by simp[Opd.slots]⟩))]
  | m mt t=>simp only[evl,Cm t (List.mem_append_left _ (List.mem_flatMap.2 ⟨_,hy,by simp[Opd.slots]⟩))]
  | c v=>rfl
  | g q=>rfl
 have E4:zcs (s.apply j.dst ej) i.guard=zcs s i.guard:=by
  cases hg:i.guard with
  | none=>rfl
  | some gw=>
    obtain⟨g,w⟩:=gw;have:g∈i.reads:=by unfold ROp.reads;rw[hg];simp
    simp only[zcs,Cm g this]
 have Bd: ∀{e:Eff},(s.apply j.dst ej).free i.dst e->s.free i.dst e:=by
  intro e hf d hd;obtain⟨h1,h2⟩:=hf d hd;refine⟨?_,h2⟩
  cases hu:s.used d with
  | false=>rfl
  | true=>have:=zeE (d:=j.dst) (e:=ej) hu;rw[h1]at this;simp at this
 -- what is left to do when the call Dt been made
 have fin: ∀(H':Nat->Option O) (n':Nat) (r:V),s.free i.dst {}->StepG P N true pj j ({ s with heap:=H',nxt:=n' }.apply i.dst { val:=r }) (({ s.apply j.dst ej with heap:=H',nxt:=n' }:St).apply i.dst { val:=r }):=by
  intro H' n' r BJ;have AE:({ s with heap:=H',nxt:=n' }:St).apply i.dst { val:=r }= { s.apply i.dst { val:=r }with heap:=H',nxt:=n' }:=rfl
  have Dp:DStep P N pj j (s.apply i.dst { val:=r }) ej:=
   (DStep.transfer hz Av.p1 Av.d2 (fun d' hd=>(BJ d' hd).1) (fun _=>rfl) (fun hr=>by rw[sr]at hr;cases hr)).1 Gb
  have H1:DStep P N pj j ({ s with heap:=H',nxt:=n' }.apply i.dst { val:=r }) ej:=by
   rw[AE]
   cases Dp with
   | skip hw=>exact .skip hw
   | eff hw he=>exact .eff hw (by rw[zkg Av.st];exact he)
   | pure hw ho=>have:=Av.st;rw[ho]at this;cases this
   | fresh hw ho=>have:=Av.st;rw[ho]at this;cases this
  have NW:(({ s with heap:=H',nxt:=n' }:St).apply i.dst { val:=r }).free j.dst ej:=Dg;have:=H1.toG NW
  have e1:({ s.apply j.dst ej with heap:=H',nxt:=n' }:St)=({ s with heap:=H',nxt:=n' }:St).apply j.dst ej:=by
   simp only[St.apply,ehp,zbf]
  rw[e1,zeT (s:={ s with heap:=H',nxt:=n' }) Av.d12 (.inl ewl) (fun b cs hb=>by rw[ewl]at hb;cases hb) (fun b cs hb=>by cases hb) (by rw[ehp];simp)];exact this
 cases h2 with
 | skip hw hf=>
   refine⟨_,.skip (by rw[<- E4];exact hw) (Bd hf),?_⟩;have:=fin s.heap s.nxt .undef (Bd hf)
   have e1:({ s.apply j.dst ej with heap:=s.heap,nxt:=s.nxt }:St)=s.apply j.dst ej:=by
    simp only[St.apply,ehp,zbf]
   rw[e1]at this
   exact this
 | eff hw hf he=>have:=Av.rw;revert he;cases Jo:i.op<;>rw[Jo]at this<;>simp[AOp.isRaw]at this<;>simp[zaj]
 | pure hw hf ho=>have:=Av.rw;rw[ho]at this;simp[AOp.isRaw]at this
 | fresh hw hf ho=>have:=Av.rw;rw[ho]at this;simp[AOp.isRaw]at this
 | raw hw hf ho As Ax An Au hc hn AG=>
   rename_i f args fv g a b vs r rf H' n';have Ak: ∀y,y∈f::args->evl N.G (s.apply j.dst ej) y=evl N.G s y:=fun y hy=>Ao y (by rw[ho];exact hy)
   rw[Ak f (by simp)]at As;rw[zbZ (fun x hx=>Ak x (by simp[hx]))]at Au;rw[Ar]at hc AG
   exact⟨_,.raw (by rw[<- E4];exact hw) (Bd hf) ho As Ax An Au hc hn AG,fin H' n' r (Bd hf)⟩
 | yld hw hf ho As hk Au Ac Bi A3 RK AF AG=>
   rename_i f args k vs env env1 env' ps ps1 ps' ca cb bd1 bd' e t1 t2;have Ak: ∀y,y∈f::args->evl N.G (s.apply j.dst ej) y=evl N.G s y:=fun y hy=>Ao y (by rw[ho];exact hy)
   rw[Ak f (by simp)]at As;rw[zbZ (fun x hx=>Ak x (by simp[hx]))]at Au;rw[Ar]at hk Bi AG;exact⟨_,.yld (by rw[<- E4];exact hw) (Bd hf) ho As hk Au Ac Bi A3 RK AF AG,fin _ _ _ (Bd hf)⟩
end
end Rg
end
section
namespace Rg
open Go
def AOp.writes:AOp->Bool
 | .store _ _ _ | .append _ _ _ _=>true
 | _=>false
theorem zcW {op:AOp} (h:op.writes=true):op.wrL=false/\op.rdL=false/\op.isRaw=false/\isCall op=false:=by
 cases op<;>simp_all [AOp.writes,AOp.wrL,AOp.rdL,AOp.isRaw,isCall]
theorem zkH {op:AOp} (h:op.looks=true):isCall op=false:=by
 cases op<;>simp_all [AOp.looks,isCall]
theorem zoE {op:AOp}: ∀y∈op.wopd,y∈op.opds:=by
 cases op<;>simp[AOp.wopd,AOp.opds]
section
variable {P:Program} {N:Nam} {s u:St}
theorem zoo {G:Nat->List T} {x:Opd} (h: ∀t∈x.slots,s.env t=u.env t):evl G s x=evl G u x:=by
 cases x with
 | s t=>simp only[evl,h t (by simp[Opd.slots])]
 | m mt t=>simp only[evl,h t (by simp[Opd.slots])]
 | c v=>rfl
 | g q=>rfl
theorem wkey {op:AOp} {p:Nat} {G:Nat->List T} {e:Eff} (hl:op.writes=true) (he:zaj G p s op=some e):
 ∀x∈e.hp,x.1=s.bas+p\/ ∃y∈op.wopd,∃v,evl G s y=some v/\x.1∈v.top:=by
 intro x hx;cases op<;>simp only[AOp.writes,zG]at hl
 ·simp only[zaj,zC,zB]at he;obtain⟨u,hu,he⟩:=he;split at he
  ·split at he
   ·simp only[zB]at he;obtain⟨row,_,v,_,new,_,he⟩:=he;split at he
    ·simp only[zB,zA]at he;obtain⟨row',_,rfl⟩:=he;simp only[List.mem_singleton]at hx;subst hx;exact .inr ⟨_,by simp[AOp.wopd],_,hu,by simp[V.top]⟩
    ·cases he
   ·cases he
  ·cases he
 ·simp only[zaj,zC,zB]at he;obtain⟨u,hu,v,hv,a,ha,b,hb,he⟩:=he;split at he
  ·split at he
   ·cases he;cases hx
   ·split at he
    ·cases he;simp only[List.mem_cons,List.not_mem_nil,or_false]at hx;subst hx;exact .inl rfl
    ·simp only[zB,zA]at he;obtain⟨ts,_,rfl⟩:=he;cases hx
    ·split at he
     ·split at he
      ·cases he;simp only[List.mem_cons,List.not_mem_nil,or_false]at hx;rcases hx with rfl | rfl
       ·exact .inr ⟨_,by simp[AOp.wopd],_,hu,by simp[V.top]⟩
       ·exact .inl rfl
      ·cases he
     ·cases he
    ·cases he
  ·cases he
theorem DStep.transferE {p:Nat} {x:ROp} {d:Option Nat} {e' e:Eff} (Dm:isCall x.op=false) (Bb:x.op.rdL=false) (CO: ∀t∈x.reads,d≠some t)
 (Ar: ∀y∈x.op.opds,∀v,evl N.G s y=some v-> ∀k∈v.top,s.heap k=(s.apply d e').heap k):
 DStep P N p x s e<->DStep P N p x (s.apply d e') e:=by
 have Cm: ∀t,d≠some t->(s.apply d e').env t=s.env t:=by
  intro t ht
  cases d with
  | none=>rfl
  | some d'=>simp only[St.apply];exact zad _ _ (fun h=>ht (by rw[h]))
 have CI: ∀t,d≠some t->(s.apply d e').adr t=s.adr t:=by
  intro t ht
  cases d with
  | none=>rfl
  | some d'=>simp only[St.apply];exact zad _ _ (fun h=>ht (by rw[h]))
 have Ao: ∀y∈x.op.opds,∀t∈y.slots,d≠some t:=by
  intro y hy t ht;exact CO t (List.mem_append_left _ (List.mem_flatMap.2 ⟨y,hy,ht⟩))
 have Ak: ∀y∈x.op.opds,evl N.G s y=evl N.G (s.apply d e') y:=fun y hy=>zoo fun t ht=>(Cm t (Ao y hy t ht)).symm
 have BB: ∀y∈x.op.opds,zd8 s y=zd8 (s.apply d e') y:=by
  intro y hy
  cases y with
  | s t=>simp only[zd8,Cm t (Ao _ hy t (by simp[Opd.slots])),CI t (Ao _ hy t (by simp[Opd.slots]))]
  | m mt t=>rfl
  | c v=>rfl
  | g q=>rfl
 have B6:zcs s x.guard=zcs (s.apply d e') x.guard:=by
  cases hg:x.guard with
  | none=>rfl
  | some gw=>
    obtain⟨g,wnt⟩:=gw;simp only[zcs,Cm g (CO g (by simp[ROp.reads,hg]))]
 have Hj:zaj N.G p s x.op=zaj N.G p (s.apply d e') x.op:=zfg Ak BB (fun h=>by rw[Bb]at h;cases h) (fun _=>Ar) rfl;constructor
 ·intro h
  cases h with
  | skip hw=>exact .skip (B6▸hw)
  | eff hw he=>exact .eff (B6▸hw) (Hj▸he)
  | pure hw ho=>rw[ho]at Dm;cases Dm
  | fresh hw ho=>rw[ho]at Dm;cases Dm
 ·intro h
  cases h with
  | skip hw=>exact .skip (B6▸hw)
  | eff hw he=>exact .eff (B6▸hw) (Hj▸he)
  | pure hw ho=>rw[ho]at Dm;cases Dm
  | fresh hw ho=>rw[ho]at Dm;cases Dm
def zsx (a b:ROp):Bool:=
 (match a.dst with | some d=> !b.reads.contains d&&b.dst != some d | none=>true)&&
 (match b.dst with | some d=> !a.reads.contains d | none=>true)&&((a.op.looks&&b.op.writes)||(a.op.writes&&b.op.looks))&&a.op.opds.all Opd.plain&&b.op.opds.all Opd.plain
structure IndepD (a b:ROp):Prop where
 d1: ∀t∈b.reads,a.dst≠some t
 d12: ∀x,a.dst=some x->b.dst≠some x
 d2: ∀t∈a.reads,b.dst≠some t
 lw:(a.op.looks=true/\b.op.writes=true)\/(a.op.writes=true/\b.op.looks=true)
 p1: ∀y∈a.op.opds,y.plain=true
 p2: ∀y∈b.op.opds,y.plain=true
theorem zoc {a b:ROp} (h:zsx a b=true):IndepD a b:=by
 simp only[zsx,zF,Bool.or_eq_true,zN]at h;obtain⟨⟨⟨⟨a1,a2⟩,a3⟩,a5⟩,a6⟩:=h;refine⟨?_,?_,?_,a3,a5,a6⟩
 ·intro t ht hd;rw[hd]at a1;simp at a1;exact a1.1 ht
 ·intro x hx hd;rw[hx]at a1;simp[hd]at a1
 ·intro t ht hd;rw[hd]at a2;simp at a2;exact a2 ht
theorem zi3 {G:Nat->List T} {l:List Opd} {y:Opd} {v:V} {k:Nat} (hy:y∈l) (hv:evl G s y=some v) (hk:k∈v.top):k∈zid G s l:=
 List.mem_flatMap.2 ⟨y,hy,by rw[hv];exact hk⟩
theorem DStep.wkey {p:Nat} {x:ROp} {e:Eff} (h:DStep P N p x s e) (hw:x.op.writes=true): ∀z∈e.hp,z.1=s.bas+p\/z.1∈zid N.G s x.op.wopd:=by
 have Dm:=(zcW hw).2.2.2
 cases h with
 | skip hw=>simp
 | eff _ he=>
   intro z hz;rcases Rg.wkey hw he z hz with h | ⟨y,hy,v,hv,hk⟩
   ·exact .inl h
   ·exact .inr (zi3 hy hv hk)
 | pure hw ho=>rw[ho]at Dm;cases Dm
 | fresh hw ho=>rw[ho]at Dm;cases Dm
theorem zeW {G:Nat->List T} {l:List Opd} (h: ∀y∈l,evl G s y=evl G u y):zid G s l=zid G u l:=by
 unfold zid
 induction l with
 | nil=>rfl
 | cons y l ih=>rw[List.flatMap_cons,List.flatMap_cons,h y (by simp),ih fun z hz=>h z (by simp[hz])]
theorem zrB {G:Nat->List T} {a b:ROp} (ha: ∀y∈a.op.opds,evl G s y=evl G u y) (hb: ∀y∈b.op.opds,evl G s y=evl G u y):sep G s a b=sep G u a b:=by
 simp only[sep,zeW ha,zeW hb,zeW (fun y hy=>ha y (zoE y hy)),zeW (fun y hy=>hb y (zoE y hy))]
theorem zBj {ns:Nat} (hz:Rz N ns s) {pj pi:Nat} {j i:ROp} {ej ei:Eff} (Av:IndepD j i) (hs:sep N.G s j i=true) (Kl:pj≠pi) (fj:s.heap (s.bas+pj)=none) (fi:s.heap (s.bas+pi)=none)
 (hj:DStep P N pj j s ej) (Dg:s.free j.dst ej) (hi:DStep P N pi i (s.apply j.dst ej) ei) (BJ:(s.apply j.dst ej).free i.dst ei):
 DStep P N pi i s ei/\s.free i.dst ei/\DStep P N pj j (s.apply i.dst ei) ej/\(s.apply i.dst ei).free j.dst ej/\(s.apply j.dst ej).apply i.dst ei=(s.apply i.dst ei).apply j.dst ej:=by
 have cj:isCall j.op=false/\j.op.rdL=false/\j.op.wrL=false:=by
  rcases Av.lw with⟨h,_⟩ | ⟨h,_⟩
  ·exact⟨zkH h,(zdD h).2.2.2,(zdD h).2.1⟩
  ·exact⟨(zcW h).2.2.2,(zcW h).2.1,(zcW h).1⟩
 have ci:isCall i.op=false/\i.op.rdL=false/\i.op.wrL=false:=by
  rcases Av.lw with⟨_,h⟩ | ⟨_,h⟩
  ·exact⟨(zcW h).2.2.2,(zcW h).2.1,(zcW h).1⟩
  ·exact⟨zkH h,(zdD h).2.2.2,(zdD h).2.1⟩
 obtain⟨sj1,sj2,sj3,sj4,sj5⟩:=hj.shape;have Kp:ej.wloc=none:=sj1 cj.2.2
 have AK:DStep P N pi i s ei:=by
  refine(DStep.transferE ci.1 ci.2.1 Av.d1 (fun y hy v hv k hk=> ?_)).2 hi;obtain⟨o,ho⟩:=hz.top (Av.p2 y hy) hv k hk;show s.heap k=zbf s.heap ej.hp k;rw[zbv];rintro z Tc rfl;rcases Av.lw with⟨hl,hw⟩ | ⟨hw,hl⟩
  ·have:=sj2 (zdD hl).1 z Tc;rw[this,fj]at ho;cases ho
  ·rcases hj.wkey hw z Tc with h | h
   ·rw[h,fj]at ho;cases ho
   ·have Hx:j.op.looks=false:=by revert hw;cases j.op<;>simp[AOp.writes,AOp.looks]
    simp only[sep,Hx,zG,if_false,zN]at hs;have:=hs _ (zi3 hy hv hk);simp[h]at this
 have Ek:s.free i.dst ei:=by
  intro d hd;obtain⟨h1,h2⟩:=BJ d hd;refine⟨?_,h2⟩
  cases hu:s.used d with
  | false=>rfl
  | true=>have:=zeE (d:=j.dst) (e:=ej) hu;rw[h1]at this;simp at this
 obtain⟨si1,si2,si3,si4,si5⟩:=AK.shape
 have Dp:DStep P N pj j (s.apply i.dst ei) ej:=by
  refine(DStep.transferE cj.1 cj.2.1 Av.d2 (fun y hy v hv k hk=> ?_)).1 hj;obtain⟨o,ho⟩:=hz.top (Av.p1 y hy) hv k hk;show s.heap k=zbf s.heap ei.hp k;rw[zbv];rintro z Tc rfl;rcases Av.lw with⟨hl,hw⟩ | ⟨hw,hl⟩
  ·rcases AK.wkey hw z Tc with h | h
   ·rw[h,fi]at ho;cases ho
   ·simp only[sep,hl,if_true,zN]at hs;have:=hs _ (zi3 hy hv hk);simp[h]at this
  ·have:=si2 (zdD hl).1 z Tc;rw[this,fi]at ho;cases ho
 have BA: ∀{x:ROp} {y:Opd},y∈x.op.opds-> ∀t∈y.slots,t∈x.reads:=fun hy t ht=>List.mem_append_left _ (List.mem_flatMap.2 ⟨_,hy,ht⟩)
 have GT:(s.apply i.dst ei).free j.dst ej:=by
  intro d hd;obtain⟨h1,h2⟩:=Dg d hd;refine⟨?_,h2⟩;simp only[St.apply]
  cases ha:ei.adr with
  | none=>exact h1
  | some bo=>
    obtain⟨b,o⟩:=bo;obtain⟨y,hy,o',hr⟩:=si5 b o ha;have hb:b≠d:=zhG hz hr (fun Aj=>Av.d1 d (BA hy d Aj) hd) h1;simp only[zad _ _ (Ne.symm hb)];exact h1
 refine⟨AK,Ek,Dp,GT,zeT Av.d12 (.inl Kp) (fun b cs hb=>by rw[Kp]at hb;cases hb) (fun b cs hb=>by rw[si1 ci.2.2]at hb;cases hb) ?_⟩;intro x hx y hy e;have Az:s.bas+pj≠s.bas+pi:=by omega
 rcases Av.lw with⟨hl,hw⟩ | ⟨hw,hl⟩
 ·have e1:=sj2 (zdD hl).1 x hx;rcases si3 y hy with h1 | h1
  ·exact Az (by rw[<- e1,<- h1,e])
  ·rw[<- e,e1,fj]at h1;simp at h1
 ·have e2:=si2 (zdD hl).1 y hy;rcases sj3 x hx with h1 | h1
  ·exact Az (by rw[<- h1,<- e2,e])
  ·rw[e,e2,fi]at h1;simp at h1
theorem StepG.env {d:Bool} {p:Nat} {o:ROp} {s':St} (h:StepG P N d p o s s') {q:Nat} (hq:o.dst≠some q):s'.env q=s.env q:=by
 have key: ∀(t:St) (e:Eff),t.env=s.env->(t.apply o.dst e).env q=s.env q:=by
  intro t e ht
  cases hd:o.dst with
  | none=>simp only[St.apply,ht]
  | some x=>simp only[St.apply,ht];exact zad _ _ (fun h=>hq (by rw[hd,h]))
 cases h<;>exact key _ _ rfl
theorem StepG.evl {d:Bool} {p:Nat} {o x:ROp} {s':St} (h:StepG P N d p o s s') (hd: ∀t∈x.reads,o.dst≠some t): ∀y∈x.op.opds,evl N.G s y=evl N.G s' y:=
 fun y hy=>zoo fun t ht=>(h.env (hd t (List.mem_append_left _ (List.mem_flatMap.2 ⟨y,hy,ht⟩)))).symm
theorem zxQ {ns:Nat} (hz:Rz N ns s) {pj pi:Nat} {j i:ROp} {s1 s2:St} (Av:IndepR i j) (h1:StepG P N true pj j s s1) (h2:StepG P N true pi i s1 s2):
 ∃t,StepG P N true pi i s t/\StepG P N true pj j t s2:=by
 obtain⟨sr,swH,swL,snr⟩:=zld Av.st;obtain⟨ei,H7,BJ,rfl⟩:=h2.toD snr
 have Kw:ei.hp=[]/\ei.wloc=none:=by
  cases H7 with
  | skip hw=>exact⟨rfl,rfl⟩
  | eff hw he=>exact zml Av.st he
  | pure hw ho=>exact⟨rfl,rfl⟩
  | fresh hw ho=>have:=Av.st;rw[ho]at this;cases this
 obtain⟨ehp,ewl⟩:=Kw;have BA: ∀{x:ROp} {y:Opd},y∈x.op.opds-> ∀t∈y.slots,t∈x.reads:=fun hy t ht=>List.mem_append_left _ (List.mem_flatMap.2 ⟨_,hy,ht⟩)
 -- the operation that looks at slots alone,ahead of the call
 have first : ∀(H':Nat->Option O) (n':Nat) (r:V),s.free j.dst {}->DStep P N pi i (({ s with heap:=H',nxt:=n' }:St).apply j.dst { val:=r }) ei->DStep P N pi i s ei:=by
  intro H' n' r Dg hd;refine(DStep.transfer (d:=j.dst) (e':= { val:=r }) hz Av.p1 Av.d2 (fun d' hd=>(Dg d' hd).1) (fun _=>rfl) (fun hr=>by rw[sr]at hr;cases hr)).2 ?_
  cases hd with
  | skip hw=>exact .skip hw
  | eff hw he=>exact .eff hw (by rw[<- zkg (H:=H') (n:=n') Av.st];exact he)
  | pure hw ho=>have:=Av.st;rw[ho]at this;cases this
  | fresh hw ho=>have:=Av.st;rw[ho]at this;cases this
 have fin: ∀(H':Nat->Option O) (n':Nat) (r:V),s.free j.dst {}->DStep P N pi i s ei->s.free i.dst ei->
  (∀(q:Opd),q∈j.op.opds->evl N.G s q=evl N.G (s.apply i.dst ei) q)/\zcs s j.guard=zcs (s.apply i.dst ei) j.guard/\(s.apply i.dst ei).heap=s.heap/\(s.apply i.dst ei).free j.dst {}/\
  (({ s with heap:=H',nxt:=n' }:St).apply j.dst { val:=r }).apply i.dst ei=({ s.apply i.dst ei with heap:=H',nxt:=n' }:St).apply j.dst { val:=r }:=by
  intro H' n' r Dg hd hf;have hg:=hd.toG hf;refine⟨hg.evl Av.d1,?_,by simp only[St.apply,ehp,zbf],?_,?_⟩
  ·cases FD:j.guard with
   | none=>rfl
   | some gw=>
     obtain⟨g,wnt⟩:=gw;have:=hg.env (q:=g) (Av.d1 g (by simp[ROp.reads,FD]));simp only[zcs,this]
  ·intro d JS;obtain⟨k1,_⟩:=Dg d JS;refine⟨?_,fun b o hb=>by cases hb⟩;simp only[St.apply]
   cases ha:ei.adr with
   | none=>exact k1
   | some bo=>
     obtain⟨b,o⟩:=bo;obtain⟨y,hy,o',hr⟩:=hd.shape.2.2.2.2 b o ha;have hb:b≠d:=zhG hz hr (fun Aj=>Av.d2 d (BA hy d Aj) JS) k1;simp only[zad _ _ (Ne.symm hb)];exact k1
  ·have e1:({ s.apply i.dst ei with heap:=H',nxt:=n' }:St)=({ s with heap:=H',nxt:=n' }:St).apply i.dst ei:=by
    simp only[St.apply,ehp,zbf]
   rw[e1,zeT (s:={ s with heap:=H',nxt:=n' }) (fun x hx hy=>Av.d12 x hy hx) (.inl rfl) (fun b cs hb=>by cases hb) (fun b cs hb=>by rw[ewl]at hb;cases hb) (by simp)]
 cases h1 with
 | skip hw hf=>
   have hd:=first s.heap s.nxt .undef hf H7;obtain⟨g1,g2,g3,g4,g5⟩:=fin s.heap s.nxt .undef hf hd BJ;refine⟨_,hd.toG BJ,?_⟩;have:=StepG.skip (P:=P) (N:=N) (d:=true) (p:=pj) (o:=j) (s:=s.apply i.dst ei) (by rw[<- g2];exact hw) g4;rw[show(s.apply j.dst {}).apply i.dst ei=(s.apply i.dst ei).apply j.dst {}from ?_]
   ·exact this
   ·have e2:({ s.apply i.dst ei with heap:=s.heap,nxt:=s.nxt }:St)=s.apply i.dst ei:=by simp only[St.apply,ehp,zbf]
    rw[e2]at g5;exact g5
 | eff hw hf he=>have:=Av.rw;revert he;cases Jo:j.op<;>rw[Jo]at this<;>simp[AOp.isRaw]at this<;>simp[zaj]
 | pure hw hf ho=>have:=Av.rw;rw[ho]at this;simp[AOp.isRaw]at this
 | fresh hw hf ho=>have:=Av.rw;rw[ho]at this;simp[AOp.isRaw]at this
 | raw hw hf ho As Ax An Au hc hn AG=>
   rename_i f args fv g a b vs r rf H' n';have hd:=first H' n' r hf H7;obtain⟨g1,g2,g3,g4,g5⟩:=fin H' n' r hf hd BJ;have Ak: ∀y,y∈f::args->evl N.G s y=evl N.G (s.apply i.dst ei) y:=fun y hy=>g1 y (by rw[ho];exact hy)
   rw[Ak f (by simp)]at As;rw[zbZ (fun x hx=>Ak x (by simp[hx]))]at Au;refine⟨_,hd.toG BJ,?_⟩;rw[g5]
   exact .raw (by rw[<- g2];exact hw) g4 ho As Ax An Au (by rw[g3];exact hc) hn (by rw[g3];exact AG)
 | yld hw hf ho As hk Au Ac Bi A3 RK AF AG=>
   rename_i f args k vs env env1 env' ps ps1 ps' ca cb bd1 bd' e t1 t2;have hd:=first _ _ _ hf H7;obtain⟨g1,g2,g3,g4,g5⟩:=fin _ _ _ hf hd BJ;have Ak: ∀y,y∈f::args->evl N.G s y=evl N.G (s.apply i.dst ei) y:=fun y hy=>g1 y (by rw[ho];exact hy)
   rw[Ak f (by simp)]at As;rw[zbZ (fun x hx=>Ak x (by simp[hx]))]at Au;refine⟨_,hd.toG BJ,?_⟩;rw[g5];exact .yld (by rw[<- g2];exact hw) g4 ho As (by rw[g3];exact hk) Au Ac (by rw[g3];exact Bi) A3 RK AF (by rw[g3];exact AG)
inductive RunT (P:Program) (N:Nam) (l:List ROp) (T:Nat->ROp->St->Prop):List Nat->St->St->Prop where
 | nil {s:St}:RunT P N l T [] s s
 | cons {i:Nat} {is:List Nat} {s s1 s2:St} {r:ROp} (hr:l[i]? =some r) (h1:StepG P N true i r s s1) (ht:T i r s) (h2:RunT P N l T is s1 s2):RunT P N l T (i::is) s s2
theorem Run.toT {l:List ROp} {is:List Nat} {s':St} (h:Run P N true l is s s'):RunT P N l (fun _ _ _=>True) is s s':=by
 induction h with
 | nil=>exact .nil
 | cons hr h1 h2 ih=>exact .cons hr h1 trivial ih
theorem Run.env {d:Bool} {l:List ROp} {is:List Nat} {s':St} (h:Run P N d l is s s') {t:Nat} (ht: ∀q∈is,∀z,l[q]? =some z->z.dst≠some t):s'.env t=s.env t:=by
 induction h with
 | nil=>rfl
 | cons hr h1 h2 ih=>rw[ih fun q hq=>ht q (by simp[hq]),h1.env (ht _ (by simp) _ hr)]
def zi5 (ck:List (Nat×Nat)) (i:Nat):Bool:=ck.any fun x=>x.1==i||x.2==i
def zho (ck:List (Nat×Nat)) (l:List ROp):Bool:=
 (List.range l.length).all fun i=> !zi5 ck i||(List.range l.length).all fun q=>decide (q<i)||(match l[i]?,l[q]? with
   | some r,some z=>(match z.dst with | some t=> !r.reads.contains t | none=>true)
   | _,_=>true)
theorem zmm {ck:List (Nat×Nat)} {l:List ROp} (h:zho ck l=true) {i q:Nat} {r z:ROp} (hi:l[i]? =some r) (hq:l[q]? =some z) (hm:zi5 ck i=true) (A5:i<=q): ∀t∈r.reads,z.dst≠some t:=by
 intro t ht hd;simp only[zho,zN,List.mem_range,Bool.or_eq_true,decide_eq_true_eq]at h;have h1:=h i (zH.1 hi).1;rw[hm]at h1;rcases h1 with h1 | h1
 ·cases h1
 ·rcases h1 q (zH.1 hq).1 with h1 | h1
  ·omega
  ·rw[hi,hq]at h1;simp[hd,ht]at h1
def zvz (N:Nam) (ck:List (Nat×Nat)) (e:St) (i:Nat) (r:ROp) (s:St):Prop:=zi5 ck i=true-> ∀y∈r.op.opds,evl N.G s y=evl N.G e y
theorem Run.annot {ck:List (Nat×Nat)} {l:List ROp} {is:List Nat} {s':St} (AE:zho ck l=true) (h:Run P N true l is s s') (hs:is.Pairwise (· < ·)):RunT P N l (zvz N ck s') is s s':=by
 induction h with
 | nil=>exact .nil
 | cons hr h1 h2 ih=>
   obtain⟨Ad,F4⟩:=List.pairwise_cons.1 hs;refine .cons hr h1 (fun hm y hy=> ?_) (ih F4);have Am:Run P N true l (_::_) _ _:=.cons hr h1 h2;refine zoo fun t ht=>(Am.env fun q hq z hz=> ?_).symm
   refine zmm AE hr hz hm ?_ t (List.mem_append_left _ (List.mem_flatMap.2 ⟨y,hy,ht⟩));rcases List.mem_cons.1 hq with rfl | hq
   ·exact Nat.le_refl _
   ·exact Nat.le_of_lt (Ad q hq)
theorem znJ {ck:List (Nat×Nat)} {l:List ROp} {e:St} (h:zgO N.G e l ck=true) {j i:Nat} (hm:(j,i)∈ck) {x y:ROp} (hx:l[j]? =some x) (hy:l[i]? =some y)
 {s:St} (h1:zvz N ck e j x s) (h2:zvz N ck e i y s):sep N.G s x y=true:=by
 simp only[zgO,zN]at h;have h0:=h _ hm;simp only[hx,hy]at h0;have m1:zi5 ck j=true:=List.any_eq_true.2 ⟨_,hm,by simp⟩;have m2:zi5 ck i=true:=List.any_eq_true.2 ⟨_,hm,by simp⟩;rw[zrB (h1 m1) (h2 m2)];exact h0
end
end Rg
end
section
namespace Rg
open Go
def zeO (o:Oper):List Nat:=o.after.toList.filterMap fun e=>if Region.binds .any e then some e.on else none
def zlU:List Nat->List Oper->List Nat
 | acc,[]=>acc
 | acc,o::os=>zlU (acc++[(zeO o).foldl (fun s q=>s ||| 2^q ||| acc.getD q 0) 0]) os
def zAQ (ops:Array Oper):List Nat:=zlU [] ops.toList
def zgF (ck:List (Nat×Nat)) (ops:Array Oper) (l:List ROp):Bool:=
 let b:=zAQ ops
 (List.range l.length).all fun i=>
   ((ops[i]?).elim true fun o=>(zeO o).all (· <i))&&
   (List.range i).all fun j=>(b.getD i 0).testBit j||(match l[j]?,l[i]? with | some x,some y=>zuR x y||zkO x y||zpq x y||(ck.contains (j,i)&&zsx x y)||zkO y x | _,_=>false)
def zs1 (ops:Array Oper) (l:List ROp):Bool:=zgF [] ops l
def zr1 (ops:Array Oper) (l:List ROp):List (Nat×Nat):=
 let b:=zAQ ops
 (List.range l.length).flatMap fun i=>(List.range i).filterMap fun j=>if(b.getD i 0).testBit j then none else match l[j]?,l[i]? with
   | some x,some y=>if zuR x y||zkO x y||zpq x y||zkO y x then none else some (j,i)
   | _,_=>none
theorem zpu (acc:List Nat) (m:Nat): ∀(l:List Nat) (s:Nat),(l.foldl (fun s q=>s ||| 2^q ||| acc.getD q 0) s).testBit m=true->s.testBit m=true\/ ∃q∈l,m=q\/(acc.getD q 0).testBit m=true
 | [],s,h=> .inl h
 | q::l,s,h=>by
   rcases zpu acc m l _ h with h | ⟨q',Eu,h⟩
   ·simp only[Nat.testBit_or,Bool.or_eq_true]at h;rcases h with(h | h) | h
    ·exact .inl h
    ·right;refine⟨q,List.mem_cons_self,.inl ?_⟩;rw[Nat.testBit_two_pow]at h;exact(by simpa using h:q=m).symm
    ·exact .inr ⟨q,List.mem_cons_self,.inr h⟩
   ·exact .inr ⟨q',List.mem_cons_of_mem _ Eu,h⟩
theorem znm: ∀(os:List Oper) (acc:List Nat),∃r,zlU acc os=acc++r
 | [],acc=>⟨[],by simp[zlU]⟩
 | o::os,acc=>by
   obtain⟨r,hr⟩:=znm os (acc++[(zeO o).foldl (fun s q=>s ||| 2^q ||| acc.getD q 0) 0]);exact⟨(zeO o).foldl (fun s q=>s ||| 2^q ||| acc.getD q 0) 0::r,by simp only[zlU];rw[hr,zQ];rfl⟩
theorem zkZ: ∀(os:List Oper) (acc:List Nat) (k:Nat) (o:Oper),os[k]? =some o->(∀q∈zeO o,q<acc.length+k)-> ∀m,((zlU acc os).getD (acc.length+k) 0).testBit m=true->
 ∃q∈zeO o,m=q\/((zlU acc os).getD q 0).testBit m=true
 | [],acc,k,o,h,_,_,_=>by simp at h
 | o'::os,acc,k,o,h,Ad,m,hm=>by
   cases k with
   | zero=>
     simp at h;subst h;simp only[zlU]at hm⊢;obtain⟨r,hr⟩:=znm os (acc++[(zeO o').foldl (fun s q=>s ||| 2^q ||| acc.getD q 0) 0]);rw[hr]at hm⊢
     have e1:(acc++[(zeO o').foldl (fun s q=>s ||| 2^q ||| acc.getD q 0) 0]++r).getD (acc.length+0) 0=(zeO o').foldl (fun s q=>s ||| 2^q ||| acc.getD q 0) 0:=by
      simp[zK]
     rw[e1]at hm;rcases zpu acc m _ _ hm with h | ⟨q,hq,h⟩
     ·simp at h
     ·refine⟨q,hq,h.imp id fun h=> ?_⟩;have Ed:q<acc.length:=by have:=Ad q hq;omega
      have e2:(acc++[(zeO o').foldl (fun s q=>s ||| 2^q ||| acc.getD q 0) 0]++r).getD q 0=acc.getD q 0:=by
       simp only[zK];rw[zQ,List.getElem?_append_left Ed]
      rw[e2];exact h
   | succ k=>
     simp at h;simp only[zlU]at hm⊢;have hl:(acc++[(zeO o').foldl (fun s q=>s ||| 2^q ||| acc.getD q 0) 0]).length=acc.length+1:=by simp
     have e:acc.length+(k+1)=(acc++[(zeO o').foldl (fun s q=>s ||| 2^q ||| acc.getD q 0) 0]).length+k:=by rw[hl];omega
     rw[e]at hm;exact zkZ os _ k o h (fun q hq=>by have:=Ad q hq;omega) m hm
section
variable {P:Program} {N:Nam} {I:Inv} {ns:Nat} {ops:Array Oper} {l:List ROp} {ro:Option Nat}
theorem zny {o:Oper} {a:Act} {w:World} {K:Act->World->Prop} (h:o.wpIn (FW none) 0 P a w K (fun _ _ _=>False)): ∃a' w',K a' w':=by
 replace h:=h.2
 generalize(o.semAt (FW none).round a.eval).run P w=r at h
 unfold Oper.uponIn at h;split at h
 ·exact⟨_,_,h⟩
 ·exact⟨_,_,h⟩
 ·exact⟨_,_,h⟩
 ·obtain⟨e,w',fr,h1,_⟩:=h.2.2 [] zjQ
  cases e with
  | returned v=>exact⟨_,_,h1⟩
  | panicked ch=>exact h1.elim
  | outgrown=>obtain⟨_,_,h1⟩:=h1;exact h1.elim
 ·obtain⟨v,w',h1,_⟩:=h.2 default [] zjQ;exact⟨_,_,h1⟩
 ·obtain⟨e,w',h1,_⟩:=h.2.2 default [] zjQ
  cases e with
  | returned v=>exact⟨_,_,h1⟩
  | panicked ch=>exact h1.elim
  | outgrown=>obtain⟨_,_,h1⟩:=h1;exact h1.elim
 ·exact h.elim
 ·exact h.elim
theorem Rz.step (hI:I.Ok N) {s s1:St} {p:Nat} {r:ROp} {o:Oper} {d:Bool} (hz:Rz N ns s) (AE:StepG P N d p r s s1) (hr:OpRel P I ns ops o r) (hk:s.heap (s.bas+p)=none) (hn:s.bas+p<s.nxt):Rz N ns s1:=by
 obtain⟨c,A,μ,lam,a,w,R⟩:=hz;have h:=zhn (ro:=none) hI AE hr R hk hn (fun _ _ _=>False);split at h
 ·obtain⟨a',w',A',μ',lam',R'⟩:=zny h;exact⟨c,A',μ',lam',a',w',R'⟩
 ·obtain⟨A',μ',lam',R'⟩:=h;exact⟨c,A',μ',lam',_,w,R'⟩
theorem zub (hI:I.Ok N) {T:Nat->ROp->St->Prop} (hT: ∀(i:Nat) (r:ROp) (s u:St),(∀y∈r.op.opds,evl N.G s y=evl N.G u y)->T i r s->T i r u) (hl:ops.toList.length=l.length/\ ∀(i:Nat) (r:ROp),l[i]? =some r-> ∃o,ops.toList[i]? =some o/\OpRel P I ns ops o r) {i:Nat} {l2:List Nat} {s':St}:
 ∀(l1:List Nat) (s:St),Rz N ns s->(l1++i::l2).Nodup->(∀q∈l1++i::l2,s.heap (s.bas+q)=none/\s.bas+q<s.nxt)->
  (∀j∈l1,∀x y,l[j]? =some x->l[i]? =some y->Indep x y\/IndepR x y\/IndepX x y\/(IndepD x y/\ ∀s,T j x s->T i y s->sep N.G s x y=true)\/IndepR y x)->
  RunT P N l T (l1++i::l2) s s'->RunT P N l T (i::(l1++l2)) s s':=by
 intro l1
 induction l1 with
 | nil=>intro s _ _ _ _ h;exact h
 | cons j l1 ih=>
   intro s hz Bt AG Ia h
   cases h with
   | cons hr h1 OT h2=>
     rename_i s1 rj;obtain⟨oj,Pa,KK⟩:=hl.2 j rj hr;have EE:=List.nodup_cons.1 (by simpa using Bt:(j::(l1++i::l2)).Nodup);obtain⟨fj1,fj2⟩:=AG j (by simp);obtain⟨fi1,fi2⟩:=AG i (by simp);have FM:Rz N ns s1:=hz.step hI h1 KK fj1 fj2;obtain⟨g1,g2,g3⟩:=h1.free
     have JN: ∀q∈l1++i::l2,s1.heap (s1.bas+q)=none/\s1.bas+q<s1.nxt:=by
      intro q hq;obtain⟨e1,e2⟩:=AG q (by simp at hq⊢;exact .inr hq);rw[g1];refine⟨g3 _ e2 (fun e=>EE.1 ?_) e1,by omega⟩;have:q=j:=by omega
      exact this▸hq
     have h3:=ih s1 FM EE.2 JN (fun q hq x y hx hy=>Ia q (List.mem_cons_of_mem _ hq) x y hx hy) h2
     cases h3 with
     | cons RI h4 PP h5=>
       rename_i t1 ri;have Av:=Ia j List.mem_cons_self rj ri hr RI;have Az:j≠i:=by rintro rfl;exact EE.1 (by simp)
       have hd:(∀t∈ri.reads,rj.dst≠some t)/\ ∀t∈rj.reads,ri.dst≠some t:=by
        rcases Av with Av | Av | Av | Av | Av
        ·exact⟨Av.d1,Av.d2⟩
        ·exact⟨Av.d1,Av.d2⟩
        ·exact⟨Av.d1,Av.d2⟩
        ·exact⟨Av.1.d1,Av.1.d2⟩
        ·exact⟨Av.d2,Av.d1⟩
       have F0:T i ri s:=hT i ri _ _ (fun y hy=>(h1.evl hd.1 y hy).symm) PP;have Gq: ∀{t:St},StepG P N true i ri s t->T j rj t:=fun AE=>hT j rj _ _ (AE.evl hd.2) OT
       rcases Av with Av | Av | Av | ⟨Av,Ni⟩ | Av
       ·obtain⟨ej,Gb,Dg,rfl⟩:=h1.toD Av.r1;obtain⟨ei,H7,BJ,rfl⟩:=h4.toD Av.r2;obtain⟨k1,k2,k3,k4,k5⟩:=swap hz Av Az fj1 fi1 Gb Dg H7 BJ;refine .cons RI (k1.toG k2) F0 (.cons hr (k3.toG k4) (Gq (k1.toG k2)) ?_);rw[<- k5];exact h5
       ·obtain⟨t,k1,k3⟩:=zBi hz Av h1 h4;exact .cons RI k1 F0 (.cons hr k3 (Gq k1) h5)
       ·obtain⟨ej,Gb,Dg,rfl⟩:=h1.toD (zv6 Av.ap).2.2;obtain⟨ei,H7,BJ,rfl⟩:=h4.toD (zdD Av.lk).2.2.1;obtain⟨k1,k2,k3,k4,k5⟩:=zBh hz Av Az fj1 fi1 Gb Dg H7 BJ;refine .cons RI (k1.toG k2) F0 (.cons hr (k3.toG k4) (Gq (k1.toG k2)) ?_);rw[<- k5];exact h5
       ·have r1:rj.op.isRaw=false:=by
         rcases Av.lw with⟨h,_⟩ | ⟨h,_⟩
         ·exact(zdD h).2.2.1
         ·exact(zcW h).2.2.1
        have r2:ri.op.isRaw=false:=by
         rcases Av.lw with⟨_,h⟩ | ⟨_,h⟩
         ·exact(zcW h).2.2.1
         ·exact(zdD h).2.2.1
        obtain⟨ej,Gb,Dg,rfl⟩:=h1.toD r1;obtain⟨ei,H7,BJ,rfl⟩:=h4.toD r2;obtain⟨k1,k2,k3,k4,k5⟩:=zBj hz Av (Ni s OT F0) Az fj1 fi1 Gb Dg H7 BJ;refine .cons RI (k1.toG k2) F0 (.cons hr (k3.toG k4) (Gq (k1.toG k2)) ?_);rw[<- k5];exact h5
       ·obtain⟨t,k1,k3⟩:=zxQ hz Av h1 h4;exact .cons RI k1 F0 (.cons hr k3 (Gq k1) h5)
def left (n:Nat) (listed:Array Bool):List Nat:=(List.range n).filter fun i=> !listed.getD i true
def ready (ops:Array Oper) (listed:Array Bool):List Nat:=
 (List.range ops.size).filter fun i=> !listed.getD i true&&((ops[i]?).map (·.after.all fun e=> !Region.binds .any e||listed.getD e.on false)).getD false
def fut (ops:Array Oper):Nat->Nat->Array Bool->List Nat
 | 0,_,_=>[]
 | fuel+1,t,listed=>match(ready ops listed)[t % (ready ops listed).length]? with
   | some i=>i::fut ops fuel (t/ (ready ops listed).length) (listed.setIfInBounds i true)
   | none=>[]
theorem zvV (ops:Array Oper): ∀(fuel t:Nat) (listed:Array Bool) (acc:List Nat),Region.linearise.go .any ops fuel t listed acc=acc.reverse++fut ops fuel t listed
 | 0,t,listed,acc=>by simp[Region.linearise.go,fut]
 | fuel+1,t,listed,acc=>by
   simp only[Region.linearise.go,fut]
   show(match(ready ops listed)[t % (ready ops listed).length]? with
    | some i=>Region.linearise.go .any ops fuel (t/ (ready ops listed).length) (listed.setIfInBounds i true) (i::acc)
    | none=>acc.reverse)=_
   split
   ·rename_i i hi;rw[zvV ops fuel];simp
   ·simp
theorem zlz (listed:Array Bool) (i q:Nat) (d:Bool) (hi:i<listed.size):(listed.setIfInBounds i true).getD q d=if q=i then true else listed.getD q d:=by
 by_cases h:q=i
 ·subst h;simp[hi]
 ·simp[h,Array.getD_eq_getD_getElem?,Ne.symm h]
theorem zsD (hI:I.Ok N) {T:Nat->ROp->St->Prop} (hT: ∀(i:Nat) (r:ROp) (s u:St),(∀y∈r.op.opds,evl N.G s y=evl N.G u y)->T i r s->T i r u)
 {ck:List (Nat×Nat)} (FG: ∀j i,(j,i)∈ck-> ∀x y,l[j]? =some x->l[i]? =some y-> ∀s,T j x s->T i y s->sep N.G s x y=true) {c:Ctx} (hl:ops.toList.length=l.length/\ ∀(i:Nat) (r:ROp),l[i]? =some r-> ∃o,ops.toList[i]? =some o/\OpRel P I ns ops o r) (GW:zgF ck ops l=true) (Q:Exit->Act->World->Prop) {s':St}
 (hQ: ∀a' w' A' μ' lam',Rel N c ns A' μ' lam' s' a' w'->Q .normal a' w'):
 ∀(fuel t:Nat) (listed:Array Bool) (s:St) (A:Nat->Prop) (μ lam:Nat->Nat) (a:Act) (w:World),listed.size=ops.size->(left ops.size listed).length<=fuel->
  (∀(i:Nat) (o:Oper),ops[i]? =some o->listed.getD i true=true-> ∀q∈zeO o,listed.getD q false=true)->
  RunT P N l T (left ops.size listed) s s'->(∀q∈left ops.size listed,s.heap (s.bas+q)=none/\s.bas+q<s.nxt)->Rel N c ns A μ lam s a w->wpOpsIn (FW ro) 0 P ops Q (fut ops fuel t listed) a w:=by
 have hn:ops.size=l.length:=by simpa using hl.1
 simp only[zgF,zN,List.mem_range,zF,Bool.or_eq_true]at GW
 have AA: ∀(i:Nat) (o:Oper),ops[i]? =some o-> ∀q∈zeO o,q<i:=by
  intro i o ho q hq;have hi:i<ops.size:=(Array.getElem?_eq_some_iff.1 ho).1;have:=(GW i (by omega)).1;rw[ho]at this;simp only[Option.elim,zN,decide_eq_true_eq]at this;exact this q hq
 intro fuel
 induction fuel with
 | zero=>
   intro t listed s A μ lam a w _ Ac _ Am _ R;have:left ops.size listed=[]:=List.length_eq_zero_iff.1 (by omega);rw[this]at Am;cases Am
   exact hQ a w A μ lam R
 | succ fuel ih=>
   intro t listed s A μ lam a w AS Ac By Am AG R
   have Ce: ∀q,q∈left ops.size listed<->q<ops.size/\listed.getD q true=false:=by
    intro q;simp[left,List.mem_filter]
   cases hL:left ops.size listed with
   | nil=>
     have Ec:ready ops listed=[]:=by
      refine List.filter_eq_nil_iff.2 fun i hi=> ?_
      have:i∉ left ops.size listed:=by rw[hL];simp
      rw[Ce]at this;simp only[List.mem_range]at hi;simp[hi]at this;simp[this]
     rw[hL]at Am;cases Am;simp only[fut,Ec];simp only[List.getElem?_nil]
     exact hQ a w A μ lam R
   | cons h0 L0=>
     have NR:h0∈left ops.size listed:=by rw[hL];simp
     have Cr:(left ops.size listed).Pairwise (· < ·):=List.Pairwise.filter _ List.pairwise_lt_range
     have G0: ∀(i:Nat) (o:Oper),ops[i]? =some o->(∀q∈zeO o,listed.getD q false=true)->(o.after.all fun e=> !Region.binds .any e||listed.getD e.on false)=true:=by
      intro i o ho hp;rw[Array.all_eq_true'];intro e he
      cases hb:Region.binds .any e with
      | false=>simp
      | true=>
        simp only[Bool.not_true,Bool.false_or];exact hp e.on (by simp only[zeO,List.mem_filterMap];exact⟨e,by simpa using he,by simp[hb]⟩)
     have HK:h0∈ready ops listed:=by
      obtain⟨Ad,Hx⟩:=(Ce h0).1 NR;refine List.mem_filter.2 ⟨List.mem_range.2 Ad,?_⟩;rw[Hx,Array.getElem?_eq_getElem Ad];simp only[Bool.not_false,Bool.true_and,Option.map_some,Option.getD_some];refine G0 h0 _ (Array.getElem?_eq_getElem Ad) (fun q hq=> ?_);have Qa:=AA h0 _ (Array.getElem?_eq_getElem Ad) q hq
      have GC:q∉ left ops.size listed:=by
       intro Aj;rw[hL]at Aj Cr;rcases List.mem_cons.1 Aj with rfl | Aj
       ·omega
       ·have:=(List.pairwise_cons.1 Cr).1 q Aj;omega
      rw[Ce]at GC;have HN:q<listed.size:=by omega
      have:listed.getD q true=true:=by
       cases hb:listed.getD q true with
       | true=>rfl
       | false=>exact absurd ⟨by omega,hb⟩ GC
      rw[Array.getD_eq_getD_getElem?,Array.getElem?_eq_getElem HN]at this⊢;exact this
     have CB:0<(ready ops listed).length:=List.length_pos_of_mem HK;have Ad:t % (ready ops listed).length<(ready ops listed).length:=Nat.mod_lt _ CB;simp only[fut,zI Ad]
     generalize L5:(ready ops listed)[t % (ready ops listed).length]=i
     have I6:i∈ready ops listed:=by rw[<- L5];exact List.getElem_mem Ad
     obtain⟨B8,Cq⟩:=List.mem_filter.1 I6;have AV:i<ops.size:=List.mem_range.1 B8;simp only[zF,Bool.not_eq_true']at Cq;obtain⟨C8,Mz⟩:=Cq;have JF:ops[i]? =some ops[i]:=Array.getElem?_eq_getElem AV;rw[JF]at Mz;simp only[Option.map_some,Option.getD_some]at Mz
     have I7: ∀q∈zeO ops[i],listed.getD q false=true:=by
      intro q hq;simp only[zeO,List.mem_filterMap]at hq;obtain⟨e,he,hq⟩:=hq;split at hq
      ·rename_i hb;simp only[zA]at hq;subst hq;rw[Array.all_eq_true']at Mz;have:=Mz e (by simpa using he);simpa[hb]using this
      ·simp at hq
     have Aj:i∈left ops.size listed:=(Ce i).2 ⟨AV,C8⟩
     -- what is before it Dt been executed
     have Ol: ∀(k:Nat),k<ops.size->(∀(o:Oper),ops[k]? =some o-> ∀q∈zeO o,listed.getD q false=true)-> ∀m,((zAQ ops).getD k 0).testBit m=true->listed.getD m false=true:=by
      intro k
      induction k using Nat.strongRecOn with
      | _ k ihk=>
        intro hk hp m hm;have Qz:ops.toList[k]? =some ops[k]:=by simp[hk]
        obtain⟨q,hq,N2⟩:=zkZ ops.toList [] k ops[k] Qz (fun q hq=>by simpa using AA k _ (Array.getElem?_eq_getElem hk) q hq) m (by simpa[zAQ]using hm);have Ed:=hp _ (Array.getElem?_eq_getElem hk) q hq;have Nn:=AA k _ (Array.getElem?_eq_getElem hk) q hq;rcases N2 with rfl | N2
        ·exact Ed
        ·refine ihk q Nn (by omega) (fun o ho r hr=> ?_) m N2;refine By q o ho ?_ r hr;have HN:q<listed.size:=by omega
         rw[Array.getD_eq_getD_getElem?,Array.getElem?_eq_getElem HN]at Ed⊢;exact Ed
     obtain⟨l1,l2,Al⟩:=List.append_of_mem Aj;have Bt:(left ops.size listed).Nodup:=Cr.imp (fun h=>Nat.ne_of_lt h)
     have Af: ∀j∈l1,j<i:=by
      intro j hj;rw[Al]at Cr;exact(List.pairwise_append.1 Cr).2.2 j hj i (by simp)
     have Ia: ∀j∈l1,∀x y,l[j]? =some x->l[i]? =some y->Indep x y\/IndepR x y\/IndepX x y\/(IndepD x y/\ ∀s,T j x s->T i y s->sep N.G s x y=true)\/IndepR y x:=by
      intro j hj x y hx hy;have DP:=Af j hj;have h1:=(GW i (by omega)).2 j DP;rcases h1 with h1 | h1
      ·have Hy:=Ol i AV (fun o ho q hq=>by rw[JF]at ho;cases ho;exact I7 q hq) j h1;have Kq:j∈left ops.size listed:=by rw[Al];simp[hj]
       obtain⟨RJ,H1⟩:=(Ce j).1 Kq;have Pi:j<listed.size:=by omega
       rw[Array.getD_eq_getD_getElem?,Array.getElem?_eq_getElem Pi]at Hy H1;simp only[Option.getD_some]at Hy H1;rw[Hy]at H1;simp at H1
      ·rw[hx,hy]at h1;simp only[Bool.or_eq_true]at h1;rcases h1 with(((h1 | h1) | h1) | h1) | h1
       ·exact .inl (zqy h1)
       ·exact .inr (.inl (zjj h1))
       ·exact .inr (.inr (.inl (zob h1)))
       ·simp only[zF,List.contains_eq_mem,decide_eq_true_eq]at h1;exact .inr (.inr (.inr (.inl ⟨zoc h1.2,FG j i h1.1 x y hx hy⟩)))
       ·exact .inr (.inr (.inr (.inr (zjj h1))))
     rw[Al]at Am AG Bt;have FU:=zub hI hT hl l1 s ⟨c,A,μ,lam,a,w,R⟩ Bt AG Ia Am
     cases FU with
     | cons RI h1 _ h2=>
       rename_i s1 ri _;obtain⟨o,ho,Jd⟩:=hl.2 i ri RI;obtain⟨f1,f2⟩:=AG i (by simp);have hs:=zhn (ro:=ro) hI h1 Jd R f1 f2 Q;obtain⟨g1,g2,g3⟩:=h1.free
       have Jc:left ops.size (listed.setIfInBounds i true)=l1++l2:=by
        have e1:left ops.size (listed.setIfInBounds i true)=(left ops.size listed).filter (fun q=>q != i):=by
         simp only[left,List.filter_filter]
         congr 1
         funext q
         rw[zlz listed i q true (by omega)]
         by_cases h:q=i
         ·subst h;simp
         ·simp[h]
        rw[e1,Al,List.filter_append,List.filter_cons];simp only[bne_self_eq_false,zG,if_false];have Fj:i∉ l1:=fun h=>by have:=Af i h;omega
        have Fh:i∉ l2:=by
         intro h;have:=(List.nodup_append.1 Bt).2.1;exact(List.nodup_cons.1 this).1 h
        rw[List.filter_eq_self.2 (fun q hq=>by simp;rintro rfl;exact Fj hq),List.filter_eq_self.2 (fun q hq=>by simp;rintro rfl;exact Fh hq)]
       have BS:(l1++l2).length<=fuel:=by rw[Al]at Ac;simp at Ac⊢;omega
       have Oe: ∀(k:Nat) (o:Oper),ops[k]? =some o->(listed.setIfInBounds i true).getD k true=true-> ∀q∈zeO o,(listed.setIfInBounds i true).getD q false=true:=by
        intro k o' AR hk q hq;rw[zlz listed i k true (by omega)]at hk;rw[zlz listed i q false (by omega)]
        by_cases Pg:k=i
        ·subst Pg;rw[JF]at AR;cases AR;rw[I7 q hq];simp
        ·rw[if_neg Pg]at hk;rw[By k o' AR hk q hq];simp
       have DD: ∀q∈l1++l2,s1.heap (s1.bas+q)=none/\s1.bas+q<s1.nxt:=by
        intro q hq;have Eu:q∈l1++i::l2:=by simp at hq⊢;rcases hq with h | h<;>simp[h]
        obtain⟨e1,e2⟩:=AG q Eu;rw[g1];refine⟨g3 _ e2 (fun e=> ?_) e1,by omega⟩;have Qb:q=i:=by omega
        subst Qb;have EG:q∉ l1:=fun h=>by have:=Af q h;omega
        have Mu:q∉ l2:=by
         intro h;have:=(List.nodup_append.1 Bt).2.1;exact(List.nodup_cons.1 this).1 h
        simp[EG,Mu]at hq
       rw[Array.getElem?_toList]at ho;simp only[wpOpsIn,ho]
       have next : ∀a' w' A' μ' lam',Rel N c ns A' μ' lam' s1 a' w'->wpOpsIn (FW ro) 0 P ops Q (fut ops fuel (t/ (ready ops listed).length) (listed.setIfInBounds i true)) a' w':=by
        intro a' w' A' μ' lam' R';refine ih _ _ s1 A' μ' lam' a' w' (by simpa using AS) (by rw[Jc];exact BS) Oe (by rw[Jc];exact h2) (by rw[Jc];exact DD) R'
       split
       ·rename_i hw;rw[if_pos hw]at hs;refine zmc hs ?_;rintro a' w' ⟨A',μ',lam',R'⟩;exact next a' w' A' μ' lam' R'
       ·rename_i hw;rw[if_neg hw]at hs;obtain⟨A',μ',lam',R'⟩:=hs;exact⟨fun _ _=>trivial,next _ _ A' μ' lam' R'⟩
theorem zkW {c:Ctx} {A:Nat->Prop} {μ lam:Nat->Nat} {s s':St} {a:Act} {w:World} (hI:I.Ok N) {T:Nat->ROp->St->Prop} (hT: ∀(i:Nat) (r:ROp) (s u:St),(∀y∈r.op.opds,evl N.G s y=evl N.G u y)->T i r s->T i r u)
 {ck:List (Nat×Nat)} (FG: ∀j i,(j,i)∈ck-> ∀x y,l[j]? =some x->l[i]? =some y-> ∀s,T j x s->T i y s->sep N.G s x y=true) (hl:ops.toList.length=l.length/\ ∀(i:Nat) (r:ROp),l[i]? =some r-> ∃o,ops.toList[i]? =some o/\OpRel P I ns ops o r) (GW:zgF ck ops l=true) (Q:Exit->Act->World->Prop)
 (Am:RunT P N l T (List.range l.length) s s') (BD: ∀i,i<l.length->s.heap (s.bas+i)=none/\s.bas+i<s.nxt) (R:Rel N c ns A μ lam s a w)
 (hQ: ∀a' w' A' μ' lam',Rel N c ns A' μ' lam' s' a' w'->Q .normal a' w') (t:Nat):wpOpsIn (FW ro) 0 P ops Q (Region.linearise .any ops t) a w:=by
 have hn:ops.size=l.length:=by simpa using hl.1
 have hg: ∀q d,q<ops.size->(Array.replicate ops.size false).getD q d=false:=by
  intro q d hq;rw[Array.getD_eq_getD_getElem?,Array.getElem?_replicate,if_pos hq];rfl
 have GI:left ops.size (Array.replicate ops.size false)=List.range l.length:=by
  simp only[left];rw[<- hn];refine List.filter_eq_self.2 fun q hq=> ?_
  rw[hg q true (List.mem_range.1 hq)];rfl
 simp only[Region.linearise,zvV,List.reverse_nil,List.nil_append];refine zsD hI hT FG hl GW Q hQ ops.size t _ s A μ lam a w (by simp) (by rw[GI];simp[hn]) ?_ (by rw[GI];exact Am) (by rw[GI];exact fun q hq=>BD q (List.mem_range.1 hq)) R;intro i o ho hi;have:i<ops.size:=(Array.getElem?_eq_some_iff.1 ho).1;rw[hg i true this]at hi;simp at hi
end
end Rg
end
