/- Part of the proof of the laws of the package relyguardlaw36: an abstract machine for the program's functions, what they compute, and that the machine is the program's. No condition. (RgT2) -/
import Derived.Test.YtaiokglcgiemnaaGreatDoorPartAJ
section
namespace Rg
open Go
section
variable {G:Nat->List T} {p:Nat} {s:St} {op:AOp} {e:Eff}
theorem sh_wloc (h:aeval G p s op=some e):op.wrL=false->e.wloc=none:=by
 intro hw
 cases op
 all_goals(try(simp[AOp.wrL]at hw;done))
 all_goals simp only[aeval,Option.bind_eq_bind,Option.bind_eq_some_iff,Option.some.injEq,Prod.exists]at h
 all_goals(try(repeat(first | (obtain⟨_,_,h⟩:=h) | split at h | (simp only[Option.bind_eq_some_iff,Option.some.injEq]at h))))
 all_goals(try(repeat(first | (obtain⟨_,_,h⟩:=h) | split at h | (simp only[Option.bind_eq_some_iff,Option.some.injEq]at h))))
 all_goals(try(repeat(first | (obtain⟨_,_,h⟩:=h) | split at h | (simp only[Option.bind_eq_some_iff]at h))))
 all_goals(try(repeat(first | (obtain⟨_,_,h⟩:=h) | split at h | (simp only[Option.bind_eq_some_iff]at h))))
 all_goals(try subst h)
 all_goals(try rfl)
 all_goals(try(simp at h;done))
theorem sh_hp (h:aeval G p s op=some e):op.wrH=false-> ∀x∈e.hp,x.1=s.bas+p:=by
 intro hw x hx
 cases op
 all_goals(try(simp[AOp.wrH]at hw;done))
 all_goals simp only[aeval,Option.bind_eq_bind,Option.bind_eq_some_iff,Option.some.injEq,Prod.exists]at h
 all_goals(try(repeat(first | (obtain⟨_,_,h⟩:=h) | split at h | (simp only[Option.bind_eq_some_iff,Option.some.injEq]at h))))
 all_goals(try(repeat(first | (obtain⟨_,_,h⟩:=h) | split at h | (simp only[Option.bind_eq_some_iff,Option.some.injEq]at h))))
 all_goals(try(repeat(first | (obtain⟨_,_,h⟩:=h) | split at h | (simp only[Option.bind_eq_some_iff]at h))))
 all_goals(try(repeat(first | (obtain⟨_,_,h⟩:=h) | split at h | (simp only[Option.bind_eq_some_iff]at h))))
 all_goals(try subst h)
 all_goals(try(simp at hx;done))
 all_goals(try(simp at h;done))
 all_goals(simp only[List.mem_cons,List.not_mem_nil,or_false]at hx)
 all_goals(subst hx;rfl)
theorem sh_wbase (h:aeval G p s op=some e) {b:Nat} {cs:List V} (hb:e.wloc=some (b,cs)): ∃x∈op.opds,∃o,refL s x=some (b,o):=by
 cases op
 case storeL n a v=>
  simp only[aeval,Option.bind_eq_bind,Option.bind_eq_some_iff,Prod.exists]at h
  obtain⟨b',o,hr,cs0,_,v0,_,new,_,h⟩:=h
  split at h
  ·simp only[Option.bind_eq_some_iff,Option.some.injEq]at h
   obtain⟨cs',_,rfl⟩:=h
   simp only[Option.some.injEq,Prod.mk.injEq]at hb
   obtain⟨rfl,_⟩:=hb
   exact⟨a,by simp[AOp.opds],o,hr⟩
  ·simp at h
 all_goals(have:=sh_wloc h rfl;rw[this]at hb;simp at hb)
theorem sh_abase (h:aeval G p s op=some e) {b o:Nat} (hb:e.adr=some (b,o)): ∃x∈op.opds,∃o',refL s x=some (b,o'):=by
 cases op
 case faddrL off x=>
  simp only[aeval,Option.bind_eq_bind,Option.bind_eq_some_iff,Prod.exists,Option.some.injEq]at h
  obtain⟨b',o',hr,_,_,rfl⟩:=h
  simp only[Option.some.injEq,Prod.mk.injEq]at hb
  obtain⟨rfl,_⟩:=hb
  exact⟨x,by simp[AOp.opds],o',hr⟩
 case iaddrAL len sz x i=>
  simp only[aeval,Option.bind_eq_bind,Option.bind_eq_some_iff,Prod.exists]at h
  obtain⟨n,_,b',o',hr,_,_,h⟩:=h
  split at h
  ·simp only[Option.some.injEq]at h;subst h
   simp only[Option.some.injEq,Prod.mk.injEq]at hb
   obtain⟨rfl,_⟩:=hb
   exact⟨x,by simp[AOp.opds],o',hr⟩
  ·simp at h
 all_goals exfalso
 all_goals simp only[aeval,Option.bind_eq_bind,Option.bind_eq_some_iff,Option.some.injEq,Prod.exists]at h
 all_goals(try(repeat(first | (obtain⟨_,_,h⟩:=h) | split at h | (simp only[Option.bind_eq_some_iff,Option.some.injEq]at h))))
 all_goals(try(repeat(first | (obtain⟨_,_,h⟩:=h) | split at h | (simp only[Option.bind_eq_some_iff,Option.some.injEq]at h))))
 all_goals(try(repeat(first | (obtain⟨_,_,h⟩:=h) | split at h | (simp only[Option.bind_eq_some_iff]at h))))
 all_goals(try(repeat(first | (obtain⟨_,_,h⟩:=h) | split at h | (simp only[Option.bind_eq_some_iff]at h))))
 all_goals(try subst h)
 all_goals(try(simp at hb;done))
 all_goals(try(simp at h;done))
end
inductive DStep (P:Program) (N:Nam) (p:Nat) (o:ROp) (s:St):Eff->Prop where
 | skip (hw:wants s o.guard=some false):DStep P N p o s {}
 | eff {e:Eff} (hw:wants s o.guard=some true) (he:aeval N.G p s o.op=some e):DStep P N p o s e
 | pure {f:Opd} {args:List Opd} {fv:V} {g:Nat} {a b vs rs:List V} {r:V} {rf:Func} (hw:wants s o.guard=some true) (ho:o.op= .call false f args) (hfv:evl N.G s f=some fv)
    (hfn:fnOf fv=some (g,a,b)) (hreal:Real P (N.nm g) rf) (hvs:evls N.G s args=some vs) (hrs:(a++vs++b).mapM (toT1 s.heap)=some rs) (hc:PureOK P N g rs r)
    (hd:r.scalar=true\/(a++vs++b).flatMap (reach1 s.heap)=[]):DStep P N p o s { val:=r }
 | fresh {f:Opd} {args:List Opd} {fv:V} {g:Nat} {a b vs rs:List V} {r:V} {rf:Func} {H':Nat->Option O} {n':Nat} {e:Eff} (hw:wants s o.guard=some true) (ho:o.op= .fcall f args) (hfv:evl N.G s f=some fv)
    (hfn:fnOf fv=some (g,a,b)) (hreal:Real P (N.nm g) rf) (hvs:evls N.G s args=some vs) (hrs:(a++vs++b).mapM (toT1 s.heap)=some rs) (hd:(a++vs++b).flatMap (reach1 s.heap)=[])
    (hc:RawOK P N g rs (fun _=>none) 0 r H' n') (he:ownR (s.bas+p) r H'=some e):DStep P N p o s e
def AOp.isRaw:AOp->Bool
 | .call true _ _=>true
 | _=>false
theorem StepG.toD {P:Program} {N:Nam} {p:Nat} {o:ROp} {s s':St} (h:StepG P N true p o s s') (hn:o.op.isRaw=false): ∃e,DStep P N p o s e/\s.free o.dst e/\s'=s.apply o.dst e:=by
 cases h with
 | skip hw hf=>exact⟨{},.skip hw,hf,rfl⟩
 | eff hw hf he=>exact⟨_,.eff hw he,hf,rfl⟩
 | pure hw hf ho hfv hfn hreal hvs hrs hc hd=>
   refine⟨_,.pure hw ho hfv hfn hreal hvs hrs hc (hd rfl),hf,?_⟩
   rcases hd rfl with h | h
   ·rw[if_pos h]
   ·rw[h];simp[freezes]
 | raw hw hf ho=>rw[ho]at hn;simp[AOp.isRaw]at hn
 | yld hw hf ho=>rw[ho]at hn;simp[AOp.isRaw]at hn
 | fresh hw hf ho hfv hfn hreal hvs hrs hd hc he=>
   refine⟨_,.fresh hw ho hfv hfn hreal hvs hrs hd hc he,fun d hd=>⟨(hf d hd).1,fun b o hb=> ?_⟩,rfl⟩
   rw[(ownR_shape he).1]at hb;simp at hb
theorem DStep.toG {P:Program} {N:Nam} {p:Nat} {o:ROp} {s:St} {e:Eff} (h:DStep P N p o s e) (hf:s.free o.dst e):StepG P N true p o s (s.apply o.dst e):=by
 cases h with
 | skip hw=>exact .skip hw hf
 | eff hw he=>exact .eff hw hf he
 | pure hw ho hfv hfn hreal hvs hrs hc hd=>
   have:=StepG.pure (d:=true) (p:=p) hw hf ho hfv hfn hreal hvs hrs hc (fun _=>hd)
   rcases hd with h | h
   ·rw[if_pos h]at this;exact this
   ·rw[h]at this;simpa[freezes]using this
 | fresh hw ho hfv hfn hreal hvs hrs hd hc he=>exact .fresh hw (fun d hd=>⟨(hf d hd).1,fun b o hb=>by simp at hb⟩) ho hfv hfn hreal hvs hrs hd hc he
def Opd.slots:Opd->List Nat
 | .s t=>[t]
 | _=>[]
def ROp.reads (o:ROp):List Nat:=o.op.opds.flatMap Opd.slots++(match o.guard with | some (g,_)=>[g] | none=>[])
def Rz (N:Nam) (ns:Nat) (s:St):Prop:= ∃c A μ lam a w,Rel N c ns A μ lam s a w
section
variable {P:Program} {N:Nam} {ns:Nat} {s:St}
theorem Rz.adr (h:Rz N ns s) {t b o:Nat} (ha:s.adr t=some (b,o)):s.used b=true:=by
 obtain⟨c,A,μ,lam,a,w,R⟩:=h
 exact(R.adr t b o ha).1
theorem Rz.fresh (h:Rz N ns s) {k:Nat} (hk:s.nxt<=k):s.heap k=none:=by
 obtain⟨c,A,μ,lam,a,w,R⟩:=h
 exact R.fresh k hk
theorem RepC.top_some {w:World} {A:Nat->Prop} {nm μ:Nat->Nat} {H:Nat->Option O} {v:Value} {x:V} (h:RepC w A nm μ H v x): ∀k∈x.top,∃o,H k=some o:=by
 intro k hk
 cases h<;>simp[V.top]at hk<;>subst hk<;>exact⟨_,‹_›⟩
theorem RepV.top_some {w:World} {A:Nat->Prop} {nm μ:Nat->Nat} {H:Nat->Option O} {v:Value} {x:V} (h:RepV w A nm μ H v x): ∀k∈x.top,∃o,H k=some o:=by
 intro k hk
 cases x with
 | ms _ _ _=>exact RepC.top_some h k hk
 | mp _ _ _=>exact RepC.top_some h k hk
 | mm _=>exact RepC.top_some h k hk
 | _=>simp[V.top]at hk
def V.isT:V->Bool
 | .t _=>true
 | _=>false
def V.noref:V->Bool
 | .t _=>true
 | .agg cs=>cs.all V.isT
 | _=>false
def Opd.plain:Opd->Bool
 | .c v=>v.noref
 | _=>true
theorem Rz.top (h:Rz N ns s) {x:Opd} {v:V} (hp:x.plain=true) (hv:evl N.G s x=some v): ∀k∈v.top,∃o,s.heap k=some o:=by
 obtain⟨c,A,μ,lam,a,w,R⟩:=h
 intro k hk
 cases x with
 | s t=>
   simp only[evl]at hv
   split at hv<;>first | (simp at hv;done) | skip
   simp only[Option.some.injEq]at hv;subst hv
   exact(R.env t).top_some k hk
 | c u=>
   simp only[evl,Option.some.injEq]at hv;subst hv
   cases u<;>simp[Opd.plain,V.noref]at hp<;>simp[V.top]at hk
 | g q=>
   simp only[evl,Option.some.injEq]at hv;subst hv
   simp[V.top]at hk
theorem toT_ext {w:World} {A:Nat->Prop} {N:Nam} {μ:Nat->Nat} {H H':Nat->Option O} (hH: ∀k o,H k=some o->HObj w A N μ H (μ k) o) (hext: ∀k o,H k=some o->H' k=some o):
 ∀(d:Nat) (x:V) (v:Value),RepC w A N.nm μ H v x->toT H d x=toT H' d x:=by
 intro d
 induction d with
 | zero=>intro x v _;cases x<;>rfl
 | succ d ih=>
   intro x v hr
   have hrow: ∀{k sz:Nat} {rs:List (List V)} {f:Bool} (hk:H k=some (.rows sz rs f)) (i:Nat) (row:List V),rs[i]? =some row-> ∀(j:Nat) (y:V),row[j]? =some y->toT H d y=toT H' d y:=by
    intro k sz rs f hk i row hi j y hj
    obtain⟨cc,e0,z,h1,h2,h3,h4,h5⟩:=hH k _ hk
    obtain⟨u,_,hu⟩:=h5 i row j y hi hj
    exact ih y u hu
   have hmapM: ∀(l:List V),(∀(j:Nat) (y:V),l[j]? =some y->toT H d y=toT H' d y)->l.mapM (toT H d)=l.mapM (toT H' d):=by
    intro l
    induction l with
    | nil=>intro _;rfl
    | cons y l ihl=>
      intro h
      rw[List.mapM_cons,List.mapM_cons,h 0 y rfl,ihl (fun j z hj=>h (j+1) z (by simpa using hj))]
   cases x with
   | t y=>rfl
   | ms k i len=>
     obtain⟨o,hk⟩:=hr.top_some k (by simp[V.top])
     simp only[toT,hk,hext k o hk]
     cases o with
     | rows sz rs f=>
       simp only
       cases hrd:rd rs i len with
       | none=>rfl
       | some r=>
         simp only[Option.bind_eq_bind,Option.bind_some]
         have hsub: ∀(q:Nat) (row:List V),r[q]? =some row->row.mapM (toT H d)=row.mapM (toT H' d):=by
          intro q row hq
          unfold rd at hrd
          split at hrd
          ·simp only[Option.some.injEq]at hrd;subst hrd
           rw[List.getElem?_take]at hq
           split at hq
           ·rw[List.getElem?_drop]at hq
            exact hmapM row (fun j y hj=>hrow hk _ row hq j y hj)
           ·simp at hq
          ·simp at hrd
         have:r.mapM (fun row=>row.mapM (toT H d))=r.mapM (fun row=>row.mapM (toT H' d)):=by
          clear hrd
          induction r with
          | nil=>rfl
          | cons row r ihr=>
            rw[List.mapM_cons,List.mapM_cons,hsub 0 row rfl,ihr (fun q row hq=>hsub (q+1) row (by simpa using hq))]
         rw[this]
     | map es=>rfl
     | loop _ _ _ _=>rfl
     | raw _=>rfl
     | dead=>rfl
   | mp k i off=>
     obtain⟨o,hk⟩:=hr.top_some k (by simp[V.top])
     simp only[toT,hk,hext k o hk]
     cases o with
     | rows sz rs f=>
       simp only
       cases hrw:rs[i]? with
       | none=>rfl
       | some row=>
         simp only[Option.bind_eq_bind,Option.bind_some]
         rw[hmapM (row.drop off) (fun j y hj=>by rw[List.getElem?_drop]at hj;exact hrow hk i row hrw _ y hj)]
     | map es=>rfl
     | loop _ _ _ _=>rfl
     | raw _=>rfl
     | dead=>rfl
   | fn f a b=>
     cases hr with
     | fn _ _ _ va vb fa fb ha hb hva hra hvb hrb=>
       simp only[toT]
       rw[hmapM a (fun j y hj=>ih y _ (hra j y hj)),hmapM b (fun j y hj=>ih y _ (hrb j y hj))]
   | mm k=>
     cases hr with
     | mm _ es hk=>simp only[toT,hk,hext k _ hk]
     | dmm _ hk _=>simp only[toT,hk,hext k _ hk]
   | yl k=>rfl
   | agg cs=>rfl
   | tup cs=>rfl
   | undef=>rfl
   | lb=>rfl
theorem toT1_ext {w:World} {A:Nat->Prop} {N:Nam} {μ:Nat->Nat} {H H':Nat->Option O} (hH: ∀k o,H k=some o->HObj w A N μ H (μ k) o) (hext: ∀k o,H k=some o->H' k=some o) {x:V} {v:Value} (hr:RepV w A N.nm μ H v x):
 toT1 H x=toT1 H' x:=by
 cases x with
 | agg cs=>
   obtain⟨vs,_,hl⟩:=hr
   simp only[toT1]
   congr 1
   have : ∀(l:List V),(∀(j:Nat) (y:V),l[j]? =some y->toT H 1000 y=toT H' 1000 y)->l.mapM (toT H 1000)=l.mapM (toT H' 1000):=by
    intro l
    induction l with
    | nil=>intro _;rfl
    | cons y l ihl=>
      intro h
      rw[List.mapM_cons,List.mapM_cons,h 0 y rfl,ihl (fun j z hj=>h (j+1) z (by simpa using hj))]
   exact this cs (fun j y hj=>let⟨u,_,hu⟩:=hl.2 j y hj;toT_ext hH hext 1000 y u hu)
 | tup cs=>rfl
 | undef=>rfl
 | lb=>rfl
 | t y=>rfl
 | ms k i l=>simp only[toT1];rw[toT_ext hH hext 1000 _ v hr]
 | mp k i o=>simp only[toT1];rw[toT_ext hH hext 1000 _ v hr]
 | mm k=>simp only[toT1];rw[toT_ext hH hext 1000 _ v hr]
 | yl k=>rfl
 | fn f a b=>simp only[toT1];rw[toT_ext hH hext 1000 _ v hr]
theorem toT1_noref {H H':Nat->Option O} {x:V} (h:x.noref=true):toT1 H x=toT1 H' x:=by
 cases x with
 | t y=>rfl
 | agg cs=>
   simp only[toT1]
   congr 1
   have : ∀(l:List V),l.all V.isT=true->l.mapM (toT H 1000)=l.mapM (toT H' 1000):=by
    intro l
    induction l with
    | nil=>intro _;rfl
    | cons y l ihl=>
      intro h
      simp only[List.all_cons,Bool.and_eq_true]at h
      rw[List.mapM_cons,List.mapM_cons,ihl h.2]
      cases y<;>simp[V.isT]at h
      rfl
   exact this cs h
 | _=>simp[V.noref]at h
theorem Rz.one (h:Rz N ns s) {H':Nat->Option O} (hext: ∀k o,s.heap k=some o->H' k=some o) {x:Opd} {v:V} (hp:x.plain=true) (hv:evl N.G s x=some v):toT1 s.heap v=toT1 H' v:=by
 obtain⟨c,A,μ,lam,a,w,R⟩:=h
 cases x with
 | s t=>
   simp only[evl]at hv
   split at hv<;>first | (simp at hv;done) | skip
   simp only[Option.some.injEq]at hv;subst hv
   exact toT1_ext R.heap hext (R.env t)
 | c u=>
   simp only[evl,Option.some.injEq]at hv;subst hv
   exact toT1_noref hp
 | g q=>
   simp only[evl,Option.some.injEq]at hv;subst hv
   rfl
theorem toT1_trees' (H H':Nat->Option O) (c:List T):Rg.toT1 H (.agg (c.map V.t))=Rg.toT1 H' (.agg (c.map V.t)):=by
 have:(c.map V.t).mapM (toT H 1000)=(c.map V.t).mapM (toT H' 1000):=by
  induction c with
  | nil=>rfl
  | cons x r ih=>rw[List.map_cons,List.mapM_cons,List.mapM_cons,ih];rfl
 simp only[Rg.toT1,this]
theorem Rz.toT1 (h:Rz N ns s) {H':Nat->Option O} (hext: ∀k o,s.heap k=some o->H' k=some o) {f:Opd} {args:List Opd} {fv:V} {g:Nat} {a b vs:List V}
 (hpf:f.plain=true) (hpa: ∀x∈args,x.plain=true) (hfv:evl N.G s f=some fv) (hfn:fnOf fv=some (g,a,b)) (hvs:evls N.G s args=some vs):
 (a++vs++b).mapM (Rg.toT1 s.heap)=(a++vs++b).mapM (Rg.toT1 H'):=by
 have key: ∀(l:List V),(∀x∈l,Rg.toT1 s.heap x=Rg.toT1 H' x)->l.mapM (Rg.toT1 s.heap)=l.mapM (Rg.toT1 H'):=by
  intro l
  induction l with
  | nil=>intro _;rfl
  | cons y l ihl=>
    intro h
    rw[List.mapM_cons,List.mapM_cons,h y List.mem_cons_self,ihl (fun z hz=>h z (List.mem_cons_of_mem _ hz))]
 have hab: ∀x,x∈a\/x∈b->Rg.toT1 s.heap x=Rg.toT1 H' x:=by
  intro x hx
  obtain⟨c,A,μ,lam,ac,w,R⟩:=h
  unfold fnOf at hfn
  split at hfn
  ·simp only[Option.some.injEq,Prod.mk.injEq]at hfn
   obtain⟨rfl,rfl,rfl⟩:=hfn
   cases f with
   | s t=>
     simp only[evl]at hfv
     split at hfv<;>first | (simp at hfv;done) | skip
     simp only[Option.some.injEq]at hfv
     have he:=R.env t
     rw[hfv]at he
     generalize ac.tmps.getD t undef=v0 at he
     cases(he:RepC w A N.nm μ s.heap v0 _)with
     | fn _ _ _ va vb fa fb ha hb hva hra hvb hrb=>
       rcases hx with hx | hx
       ·obtain⟨i,hi,hxe⟩:=List.getElem_of_mem hx
        exact toT1_ext R.heap hext (hra i x (by rw[List.getElem?_eq_getElem hi,hxe])).toV
       ·obtain⟨i,hi,hxe⟩:=List.getElem_of_mem hx
        exact toT1_ext R.heap hext (hrb i x (by rw[List.getElem?_eq_getElem hi,hxe])).toV
   | c u=>
     simp only[evl,Option.some.injEq]at hfv;subst hfv
     simp[Opd.plain,V.noref]at hpf
   | g q=>simp[evl]at hfv
  ·simp only[Option.some.injEq,Prod.mk.injEq]at hfn
   obtain⟨rfl,rfl,rfl⟩:=hfn
   have : ∃y,x= .t y:=by
    rcases hx with hx | hx<;>(simp only[List.mem_map]at hx;obtain⟨y,_,rfl⟩:=hx;exact⟨y,rfl⟩)
   obtain⟨y,rfl⟩:=this
   rfl
  ·simp only[Option.some.injEq,Prod.mk.injEq]at hfn
   obtain⟨rfl,rfl,rfl⟩:=hfn
   rcases hx with hx | hx
   ·simp only[List.mem_singleton]at hx;subst hx
    exact toT1_trees' _ _ _
   ·simp at hx
  ·simp at hfn
 refine key _ (fun x hx=> ?_)
 simp only[List.mem_append]at hx
 rcases hx with(hx | hx) | hx
 ·exact hab x (.inl hx)
 ·obtain⟨h1,h2⟩:=evls_spec hvs
  obtain⟨i,hi,hxe⟩:=List.getElem_of_mem hx
  obtain⟨y,hy,hev⟩:=h2 i x (by rw[List.getElem?_eq_getElem hi,hxe])
  exact h.one hext (hpa y (List.mem_of_getElem? hy)) hev
 ·exact hab x (.inr hx)
theorem reach_nil {H H':Nat->Option O}: ∀(d:Nat) (x:V),reach H d x=[]->reach H' d x=[]:=by
 intro d
 induction d with
 | zero=>intro x _;cases x<;>rfl
 | succ d ih=>
   intro x h
   cases x with
   | ms k i l=>simp[reach]at h
   | mp k i o=>simp[reach]at h
   | fn f a b=>
     simp only[reach,List.append_eq_nil_iff,List.flatMap_eq_nil_iff]at h⊢
     exact⟨fun y hy=>ih y (h.1 y hy),fun y hy=>ih y (h.2 y hy)⟩
   | _=>rfl
theorem reach1_nil {H H':Nat->Option O} {l:List V} (h:l.flatMap (reach1 H)=[]):l.flatMap (reach1 H')=[]:=by
 rw[List.flatMap_eq_nil_iff]at h⊢
 intro x hx
 have:=h x hx
 cases x with
 | agg cs=>
   simp only[reach1,List.flatMap_eq_nil_iff]at this⊢
   exact fun y hy=>reach_nil 1000 y (this y hy)
 | _=>exact reach_nil (H:=H) 1000 _ this
theorem DStep.transfer (hz:Rz N ns s) {p:Nat} {x:ROp} {d:Option Nat} {e' e:Eff} (hpl: ∀y∈x.op.opds,y.plain=true) (hslots: ∀t∈x.reads,d≠some t) (hused: ∀d',d=some d'->s.used d'=false)
 (hL:x.op.rdL=true->e'.wloc=none) (hH:x.op.rdH=true-> ∀k o,s.heap k=some o->(s.apply d e').heap k=some o):
 DStep P N p x s e<->DStep P N p x (s.apply d e') e:=by
 have henv: ∀t,d≠some t->(s.apply d e').env t=s.env t:=by
  intro t ht
  cases d with
  | none=>rfl
  | some d'=>simp only[St.apply];exact upd_other _ _ (fun h=>ht (by rw[h]))
 have hadr: ∀t,d≠some t->(s.apply d e').adr t=s.adr t:=by
  intro t ht
  cases d with
  | none=>rfl
  | some d'=>simp only[St.apply];exact upd_other _ _ (fun h=>ht (by rw[h]))
 have hop: ∀y∈x.op.opds,∀t∈y.slots,d≠some t:=by
  intro y hy t ht
  exact hslots t (List.mem_append_left _ (List.mem_flatMap.2 ⟨y,hy,ht⟩))
 have hev: ∀y∈x.op.opds,evl N.G s y=evl N.G (s.apply d e') y:=by
  intro y hy
  cases y with
  | s t=>simp only[evl,henv t (hop _ hy t (by simp[Opd.slots]))]
  | c v=>rfl
  | g q=>rfl
 have href: ∀y∈x.op.opds,refL s y=refL (s.apply d e') y:=by
  intro y hy
  cases y with
  | s t=>simp only[refL,henv t (hop _ hy t (by simp[Opd.slots])),hadr t (hop _ hy t (by simp[Opd.slots]))]
  | c v=>rfl
  | g q=>rfl
 have hloc:x.op.rdL=true-> ∀y∈x.op.opds,∀b o,refL s y=some (b,o)->s.loc b=(s.apply d e').loc b:=by
  intro hr y hy b o href
  have hw:=hL hr
  have hbd:d≠some b:=by
   cases y with
   | s t=>
     simp only[refL]at href
     split at href
     ·rename_i q hq
      simp only[Option.some.injEq]at href;subst href
      intro hd
      have h1:=hz.adr hq
      rw[hused b hd]at h1;simp at h1
     ·split at href<;>first | (simp at href;done) | skip
      simp only[Option.some.injEq,Prod.mk.injEq]at href
      obtain⟨rfl,_⟩:=href
      exact hop _ hy t (by simp[Opd.slots])
   | c v=>simp[refL]at href
   | g q=>simp[refL]at href
  cases d with
  | none=>simp only[St.apply,hw]
  | some d'=>simp only[St.apply,hw];rw[upd_other _ _ (fun h=>hbd (by rw[h]))]
 have hheap:x.op.rdH=true-> ∀y∈x.op.opds,∀v,evl N.G s y=some v-> ∀k∈v.top,s.heap k=(s.apply d e').heap k:=by
  intro hr y hy v hv k hk
  obtain⟨o,ho⟩:=hz.top (hpl y hy) hv k hk
  rw[ho,hH hr k o ho]
 have hwant:wants s x.guard=wants (s.apply d e') x.guard:=by
  cases hg:x.guard with
  | none=>rfl
  | some gw=>
    obtain⟨g,wnt⟩:=gw
    simp only[wants,henv g (hslots g (by simp[ROp.reads,hg]))]
 have haev:aeval N.G p s x.op=aeval N.G p (s.apply d e') x.op:=aeval_congr hev href hloc hheap rfl
 have hcallH: ∀{r:Bool} {f:Opd} {args:List Opd},x.op= .call r f args->x.op.rdH=true:=by intro r f args h;rw[h];rfl
 have hargs: ∀{r:Bool} {f:Opd} {args:List Opd},x.op= .call r f args->f∈x.op.opds/\ ∀y∈args,y∈x.op.opds:=by
  intro r f args h;rw[h];simp only[AOp.opds];exact⟨List.mem_cons_self,fun y hy=>List.mem_cons_of_mem _ hy⟩
 have hcallF: ∀{f:Opd} {args:List Opd},x.op= .fcall f args->x.op.rdH=true:=by intro f args h;rw[h];rfl
 have hargsF: ∀{f:Opd} {args:List Opd},x.op= .fcall f args->f∈x.op.opds/\ ∀y∈args,y∈x.op.opds:=by
  intro f args h;rw[h];simp only[AOp.opds];exact⟨List.mem_cons_self,fun y hy=>List.mem_cons_of_mem _ hy⟩
 constructor
 ·intro h
  cases h with
  | fresh hw ho hfv hfn hreal hvs hrs hd hc he=>
    obtain⟨g1,g2⟩:=hargsF ho
    have hext:=hH (hcallF ho)
    have e1:=hz.toT1 hext (hpl _ g1) (fun y hy=>hpl y (g2 y hy)) hfv hfn hvs
    exact .fresh (hwant▸hw) ho (by rw[<- hev _ g1];exact hfv) hfn hreal (by rw[<- evls_congr (fun y hy=>hev y (g2 y hy))];exact hvs) (by rw[<- e1];exact hrs) (reach1_nil hd) hc he
  | skip hw=>exact .skip (hwant▸hw)
  | eff hw he=>exact .eff (hwant▸hw) (haev▸he)
  | pure hw ho hfv hfn hreal hvs hrs hc hd=>
    obtain⟨g1,g2⟩:=hargs ho
    have hext:=hH (hcallH ho)
    have e1:=hz.toT1 hext (hpl _ g1) (fun y hy=>hpl y (g2 y hy)) hfv hfn hvs
    refine .pure (hwant▸hw) ho (by rw[<- hev _ g1];exact hfv) hfn hreal (by rw[<- evls_congr (fun y hy=>hev y (g2 y hy))];exact hvs) (by rw[<- e1];exact hrs) hc (hd.imp id reach1_nil)
 ·intro h
  cases h with
  | skip hw=>exact .skip (hwant▸hw)
  | eff hw he=>exact .eff (hwant▸hw) (haev▸he)
  | pure hw ho hfv hfn hreal hvs hrs hc hd=>
    obtain⟨g1,g2⟩:=hargs ho
    have hext:=hH (hcallH ho)
    rw[<- hev _ g1]at hfv
    rw[<- evls_congr (fun y hy=>hev y (g2 y hy))]at hvs
    have e1:=hz.toT1 hext (hpl _ g1) (fun y hy=>hpl y (g2 y hy)) hfv hfn hvs
    refine .pure (hwant▸hw) ho hfv hfn hreal hvs (by rw[e1];exact hrs) hc (hd.imp id reach1_nil)
  | fresh hw ho hfv hfn hreal hvs hrs hd hc he=>
    obtain⟨g1,g2⟩:=hargsF ho
    have hext:=hH (hcallF ho)
    rw[<- hev _ g1]at hfv
    rw[<- evls_congr (fun y hy=>hev y (g2 y hy))]at hvs
    have e1:=hz.toT1 hext (hpl _ g1) (fun y hy=>hpl y (g2 y hy)) hfv hfn hvs
    exact .fresh (hwant▸hw) ho hfv hfn hreal hvs (by rw[e1];exact hrs) (reach1_nil hd) hc he
theorem hpUpd_other {h:Nat->Option O} {k:Nat}: ∀{l:List (Nat×O)} ,(∀x∈l,x.1≠k)->hpUpd h l k=h k:=by
 intro l
 induction l generalizing h with
 | nil=>intro _;rfl
 | cons x l ih=>
   intro hx
   obtain⟨q,o⟩:=x
   simp only[hpUpd]
   rw[ih (fun y hy=>hx y (List.mem_cons_of_mem _ hy)),upd_other _ _ (Ne.symm (hx (q,o) List.mem_cons_self))]
theorem hpUpd_same {h h':Nat->Option O} {k:Nat}: ∀{l:List (Nat×O)},(∃x∈l,x.1=k)->hpUpd h l k=hpUpd h' l k:=by
 intro l
 induction l generalizing h h' with
 | nil=>rintro⟨x,hx,_⟩;simp at hx
 | cons x l ih=>
   rintro⟨y,hy,he⟩
   obtain⟨q,o⟩:=x
   simp only[hpUpd]
   by_cases hin: ∃z∈l,z.1=k
   ·exact ih hin
   ·have hno: ∀z∈l,z.1≠k:=fun z hz e=>hin ⟨z,hz,e⟩
    rw[hpUpd_other hno,hpUpd_other hno]
    rcases List.mem_cons.1 hy with rfl | hy
    ·simp only at he;subst he;simp
    ·exact absurd he (hno y hy)
theorem hpUpd_comm {h:Nat->Option O} {l m:List (Nat×O)} (hd: ∀x∈l,∀y∈m,x.1≠y.1):hpUpd (hpUpd h l) m=hpUpd (hpUpd h m) l:=by
 funext k
 by_cases hl: ∃x∈l,x.1=k
 ·obtain⟨x,hx,rfl⟩:=hl
  rw[hpUpd_other (l:=m) (fun y hy e=>hd x hx y hy e.symm)]
  exact hpUpd_same ⟨x,hx,rfl⟩
 ·have hno: ∀x∈l,x.1≠k:=fun x hx e=>hl ⟨x,hx,e⟩
  rw[hpUpd_other (l:=l) (h:=hpUpd h m) hno]
  by_cases hm: ∃y∈m,y.1=k
  ·exact hpUpd_same hm
  ·have hno': ∀y∈m,y.1≠k:=fun y hy e=>hm ⟨y,hy,e⟩
   rw[hpUpd_other hno',hpUpd_other hno',hpUpd_other hno]
theorem upd_comm {α:Type} {f:Nat->α} {i j:Nat} {a b:α} (h:i≠j):upd (upd f i a) j b=upd (upd f j b) i a:=by
 funext k
 simp only[upd]
 by_cases h1:k=i
 ·subst h1;simp[h]
 ·by_cases h2:k=j
  ·subst h2;simp[h1]
  ·simp[h1,h2]
theorem apply_comm {d1 d2:Option Nat} {e1 e2:Eff} (hd: ∀x,d1=some x->d2≠some x) (hw:e1.wloc=none\/e2.wloc=none) (h1: ∀b cs,e1.wloc=some (b,cs)->d2≠some b) (h2: ∀b cs,e2.wloc=some (b,cs)->d1≠some b)
 (hh: ∀x∈e1.hp,∀y∈e2.hp,x.1≠y.1):(s.apply d1 e1).apply d2 e2=(s.apply d2 e2).apply d1 e1:=by
 have henv:((s.apply d1 e1).apply d2 e2).env=((s.apply d2 e2).apply d1 e1).env:=by
  cases d1<;>cases d2<;>simp only[St.apply]
  rename_i a b
  exact upd_comm (fun h=>hd a rfl (by rw[h]))
 have hadr:((s.apply d1 e1).apply d2 e2).adr=((s.apply d2 e2).apply d1 e1).adr:=by
  cases d1<;>cases d2<;>simp only[St.apply]
  rename_i a b
  exact upd_comm (fun h=>hd a rfl (by rw[h]))
 have hus:((s.apply d1 e1).apply d2 e2).used=((s.apply d2 e2).apply d1 e1).used:=by
  simp only[St.apply]
  cases e1.adr<;>cases e2.adr<;>simp only
  funext k
  simp only[upd]
  split<;>split<;>rfl
 have hhp:((s.apply d1 e1).apply d2 e2).heap=((s.apply d2 e2).apply d1 e1).heap:=hpUpd_comm hh
 have hlc:((s.apply d1 e1).apply d2 e2).loc=((s.apply d2 e2).apply d1 e1).loc:=by
  simp only[St.apply]
  rcases hw with hw | hw
  ·cases hw2:e2.wloc with
   | none=>
     simp only[hw]
     cases d1<;>cases d2<;>simp only
     rename_i a b
     exact upd_comm (fun h=>hd a rfl (by rw[h]))
   | some bc=>
     obtain⟨b,cs⟩:=bc
     simp only[hw]
     have hb:=h2 b cs hw2
     cases d1 with
     | none=>rfl
     | some a=>
       have hab:a≠b:=fun h=>hb (by rw[h])
       cases d2 with
       | none=>simp only;exact upd_comm hab
       | some c=>
         simp only
         rw[upd_comm (f:=s.loc) hab]
         exact upd_comm (fun h=>hd a rfl (by rw[h]))
  ·cases hw1:e1.wloc with
   | none=>
     simp only[hw]
     cases d1<;>cases d2<;>simp only
     rename_i a b
     exact upd_comm (fun h=>hd a rfl (by rw[h]))
   | some bc=>
     obtain⟨b,cs⟩:=bc
     simp only[hw]
     have hb:=h1 b cs hw1
     cases d2 with
     | none=>rfl
     | some c=>
       have hcb:c≠b:=fun h=>hb (by rw[h])
       cases d1 with
       | none=>simp only;exact(upd_comm hcb).symm
       | some a=>
         simp only
         rw[upd_comm (f:=s.loc) hcb]
         exact upd_comm (fun h=>hd a rfl (by rw[h]))
 have hn:((s.apply d1 e1).apply d2 e2).nxt=((s.apply d2 e2).apply d1 e1).nxt:=rfl
 have hb:((s.apply d1 e1).apply d2 e2).bas=((s.apply d2 e2).apply d1 e1).bas:=rfl
 generalize(s.apply d1 e1).apply d2 e2=A at *
 generalize(s.apply d2 e2).apply d1 e1=B at *
 cases A;cases B
 simp_all
def indep (a b:ROp):Bool:=
 (match a.dst with | some d=> !b.reads.contains d&&b.dst != some d | none=>true)&&
 (match b.dst with | some d=> !a.reads.contains d | none=>true)&&
 !(a.op.wrH&&b.op.rdH)&& !(b.op.wrH&&a.op.rdH)&& !(a.op.wrL&&(b.op.rdL||b.op.mkL))&& !(b.op.wrL&&(a.op.rdL||a.op.mkL))&&
 !a.op.isRaw&& !b.op.isRaw&&a.op.opds.all Opd.plain&&b.op.opds.all Opd.plain
structure Indep (a b:ROp):Prop where
 d1: ∀t∈b.reads,a.dst≠some t
 d12: ∀x,a.dst=some x->b.dst≠some x
 d2: ∀t∈a.reads,b.dst≠some t
 h1:a.op.wrH=true->b.op.rdH=false
 h2:b.op.wrH=true->a.op.rdH=false
 l1:a.op.wrL=true->b.op.rdL=false/\b.op.mkL=false
 l2:b.op.wrL=true->a.op.rdL=false/\a.op.mkL=false
 r1:a.op.isRaw=false
 r2:b.op.isRaw=false
 p1: ∀y∈a.op.opds,y.plain=true
 p2: ∀y∈b.op.opds,y.plain=true
theorem indep_spec {a b:ROp} (h:indep a b=true):Indep a b:=by
 simp only[indep,Bool.and_eq_true,Bool.not_eq_true',Bool.and_eq_false_iff,List.all_eq_true]at h
 obtain⟨⟨⟨⟨⟨⟨⟨⟨⟨a1,a2⟩,a3⟩,a4⟩,a5⟩,a6⟩,a7⟩,a8⟩,a9⟩,a10⟩:=h
 refine⟨?_,?_,?_,?_,?_,?_,?_,a7,a8,a9,a10⟩
 ·intro t ht hd
  rw[hd]at a1
  simp at a1
  exact a1.1 ht
 ·intro x hx hd
  rw[hx]at a1
  simp[hd]at a1
 ·intro t ht hd
  rw[hd]at a2
  simp at a2
  exact a2 ht
 ·intro hw;rcases a3 with h | h
  ·rw[hw]at h;simp at h
  ·exact h
 ·intro hw;rcases a4 with h | h
  ·rw[hw]at h;simp at h
  ·exact h
 ·intro hw;rcases a5 with h | h
  ·rw[hw]at h;simp at h
  ·simpa using h
 ·intro hw;rcases a6 with h | h
  ·rw[hw]at h;simp at h
  ·simpa using h
theorem wrH_rdH {op:AOp} (h:op.rdH=false):op.wrH=false:=by cases op<;>simp_all [AOp.rdH,AOp.wrH]
theorem wrL_rdL {op:AOp} (h:op.rdL=false):op.wrL=false:=by cases op<;>simp_all [AOp.rdL,AOp.wrL]
theorem DStep.shape {p:Nat} {x:ROp} {e:Eff} (h:DStep P N p x s e):
 (x.op.wrL=false->e.wloc=none)/\(x.op.wrH=false-> ∀y∈e.hp,y.1=s.bas+p)/\(∀y∈e.hp,y.1=s.bas+p\/(s.heap y.1).isSome=true)/\
 (∀b cs,e.wloc=some (b,cs)-> ∃y∈x.op.opds,∃o,refL s y=some (b,o))/\(∀b o,e.adr=some (b,o)-> ∃y∈x.op.opds,∃o,refL s y=some (b,o)):=by
 cases h with
 | skip hw=>exact⟨fun _=>rfl,fun _=>by simp,by simp,by simp,by simp⟩
 | eff hw he=>exact⟨sh_wloc he,sh_hp he,hp_keys he,fun b cs hb=>sh_wbase he hb,fun b o hb=>sh_abase he hb⟩
 | pure hw ho hfv hfn hreal hvs hrs hc hd=>exact⟨fun _=>rfl,fun _=>by simp,by simp,by simp,by simp⟩
 | fresh hw ho hfv hfn hreal hvs hrs hd hc he=>
   obtain⟨h1,h2,h3⟩:=ownR_shape he
   exact⟨fun _=>h3,fun _=>ownR_key he,fun y hy=> .inl (ownR_key he y hy),fun b cs hb=>by rw[h3]at hb;simp at hb,fun b o hb=>by rw[h1]at hb;simp at hb⟩
theorem base_ne (hz:Rz N ns s) {y:Opd} {b o d:Nat} (h:refL s y=some (b,o)) (hs:d∉ y.slots) (hu:s.used d=false):b≠d:=by
 cases y with
 | s t=>
   simp only[refL]at h
   split at h
   ·rename_i q hq
    simp only[Option.some.injEq]at h;subst h
    rintro rfl
    have:=hz.adr hq
    rw[hu]at this;simp at this
   ·split at h<;>first | (simp at h;done) | skip
    simp only[Option.some.injEq,Prod.mk.injEq]at h
    obtain⟨rfl,_⟩:=h
    rintro rfl
    simp[Opd.slots]at hs
 | c v=>simp[refL]at h
 | g q=>simp[refL]at h
theorem swap (hz:Rz N ns s) {pj pi:Nat} {j i:ROp} {ej ei:Eff} (hij:Indep j i) (hpp:pj≠pi) (fj:s.heap (s.bas+pj)=none) (fi:s.heap (s.bas+pi)=none)
 (hj:DStep P N pj j s ej) (hfj:s.free j.dst ej) (hi:DStep P N pi i (s.apply j.dst ej) ei) (hfi:(s.apply j.dst ej).free i.dst ei):
 DStep P N pi i s ei/\s.free i.dst ei/\DStep P N pj j (s.apply i.dst ei) ej/\(s.apply i.dst ei).free j.dst ej/\(s.apply j.dst ej).apply i.dst ei=(s.apply i.dst ei).apply j.dst ej:=by
 obtain⟨sj1,sj2,sj3,sj4,sj5⟩:=hj.shape
 have hext1:i.op.rdH=true-> ∀k o,s.heap k=some o->(s.apply j.dst ej).heap k=some o:=by
  intro hr k o hk
  have hwj:j.op.wrH=false:=by
   cases hw:j.op.wrH with
   | false=>rfl
   | true=>have:=hij.h1 hw;rw[hr]at this;simp at this
  show hpUpd s.heap ej.hp k=some o
  rw[hpUpd_other,hk]
  intro x hx e
  have:=sj2 hwj x hx
  rw[e]at this;rw[this,fj]at hk;simp at hk
 have hLi:i.op.rdL=true->ej.wloc=none:=by
  intro hr
  refine sj1 ?_
  cases hw:j.op.wrL with
  | false=>rfl
  | true=>have:=(hij.l1 hw).1;rw[hr]at this;simp at this
 have hi':DStep P N pi i s ei:=(DStep.transfer hz hij.p2 hij.d1 (fun d' hd=>(hfj d' hd).1) hLi hext1).2 hi
 have hfi':s.free i.dst ei:=by
  intro d hd
  obtain⟨h1,h2⟩:=hfi d hd
  refine⟨?_,h2⟩
  cases hu:s.used d with
  | false=>rfl
  | true=>have:=used_mono (d:=j.dst) (e:=ej) hu;rw[h1]at this;simp at this
 obtain⟨si1,si2,si3,si4,si5⟩:=hi'.shape
 have hext2:j.op.rdH=true-> ∀k o,s.heap k=some o->(s.apply i.dst ei).heap k=some o:=by
  intro hr k o hk
  have hwi:i.op.wrH=false:=by
   cases hw:i.op.wrH with
   | false=>rfl
   | true=>have:=hij.h2 hw;rw[hr]at this;simp at this
  show hpUpd s.heap ei.hp k=some o
  rw[hpUpd_other,hk]
  intro x hx e
  have:=si2 hwi x hx
  rw[e]at this;rw[this,fi]at hk;simp at hk
 have hLj:j.op.rdL=true->ei.wloc=none:=by
  intro hr
  refine si1 ?_
  cases hw:i.op.wrL with
  | false=>rfl
  | true=>have:=(hij.l2 hw).1;rw[hr]at this;simp at this
 have hj':DStep P N pj j (s.apply i.dst ei) ej:=(DStep.transfer hz hij.p1 hij.d2 (fun d' hd=>(hfi' d' hd).1) hLj hext2).1 hj
 have hsl: ∀{x:ROp} {y:Opd},y∈x.op.opds-> ∀t∈y.slots,t∈x.reads:=fun hy t ht=>List.mem_append_left _ (List.mem_flatMap.2 ⟨_,hy,ht⟩)
 have hfj':(s.apply i.dst ei).free j.dst ej:=by
  intro d hd
  obtain⟨h1,h2⟩:=hfj d hd
  refine⟨?_,h2⟩
  simp only[St.apply]
  cases ha:ei.adr with
  | none=>exact h1
  | some bo=>
    obtain⟨b,o⟩:=bo
    obtain⟨y,hy,o',hr⟩:=si5 b o ha
    have hb:b≠d:=base_ne hz hr (fun hin=>hij.d1 d (hsl hy d hin) hd) h1
    simp only[upd_other _ _ (Ne.symm hb)];exact h1
 refine⟨hi',hfi',hj',hfj',apply_comm hij.d12 ?_ ?_ ?_ ?_⟩
 ·cases hw:j.op.wrL with
  | false=>exact .inl (sj1 hw)
  | true=>exact .inr (si1 (wrL_rdL (hij.l1 hw).1))
 ·intro b cs hb hd
  obtain⟨y,hy,o',hr⟩:=sj4 b cs hb
  exact base_ne hz hr (fun hin=>hij.d2 b (hsl hy b hin) hd) (hfi' b hd).1 rfl
 ·intro b cs hb hd
  obtain⟨y,hy,o',hr⟩:=si4 b cs hb
  exact base_ne hz hr (fun hin=>hij.d1 b (hsl hy b hin) hd) (hfj b hd).1 rfl
 ·intro x hx y hy e
  have hne:s.bas+pj≠s.bas+pi:=by omega
  by_cases hwj:j.op.wrH=true
  ·have hwi:=wrH_rdH (hij.h1 hwj)
   have e2:=si2 hwi y hy
   rcases sj3 x hx with h1 | h1
   ·exact hne (by rw[<- h1,<- e2,e])
   ·rw[e,e2,fi]at h1;simp at h1
  ·have e1:=sj2 (by simpa using hwj) x hx
   rcases si3 y hy with h1 | h1
   ·exact hne (by rw[<- e1,<- h1,e])
   ·rw[<- e,e1,fj]at h1;simp at h1
def AOp.isApp:AOp->Bool
 | .append _ _ _ _=>true
 | _=>false
theorem look_sh {op:AOp} (h:op.looks=true):op.wrH=false/\op.wrL=false/\op.isRaw=false/\op.rdL=false:=by
 cases op<;>simp_all [AOp.looks,AOp.wrH,AOp.wrL,AOp.isRaw,AOp.rdL]
theorem evInt_top {G:Nat->List T} {y:Opd} {n:Int} {v:V} (h:evInt G s y=some n) (hv:evl G s y=some v):v.top=[]:=by
 unfold evInt at h
 rw[hv]at h
 split at h
 ·rename_i heq;cases heq;rfl
 ·cases h
theorem look_alive {op:AOp} {p:Nat} {G:Nat->List T} {e:Eff} (hl:op.looks=true) (he:aeval G p s op=some e):
 ∀y∈op.opds,∀v,evl G s y=some v-> ∀k∈v.top,s.heap k≠some .dead:=by
 intro y hy v hv k hk hd
 cases op<;>simp only[AOp.looks,Bool.false_eq_true]at hl
 ·simp only[AOp.opds,List.mem_singleton]at hy
  subst hy
  simp only[aeval,hv,Option.bind_eq_bind,Option.bind_some]at he
  cases v<;>simp[V.top]at hk<;>subst hk<;>simp[hd]at he
 ·simp only[AOp.opds,List.mem_singleton]at hy
  subst hy
  simp only[aeval,hv,Option.bind_eq_bind,Option.bind_some]at he
  cases v<;>simp[V.top]at hk<;>subst hk<;>simp[hd]at he
 ·rename_i sz x lo hi mx
  simp only[AOp.opds,List.mem_cons,List.mem_append,Option.mem_toList]at hy
  simp only[aeval,Option.bind_eq_bind,Option.bind_eq_some_iff]at he
  obtain⟨u,hu,n,hn,h,hh,l,hlo,he⟩:=he
  have hop: ∀{q:Opd} {d:Nat} {z:Option Opd} {m:Int},z=some q->evOpt G s d z=some m->evl G s q=some v->v.top=[]:=by
   intro q d z m hz hm hq
   subst hz
   exact evInt_top hm hq
  rcases hy with rfl | (hy | hy) | hy
  ·obtain rfl:=Option.some.inj (hu.symm.trans hv)
   cases u<;>simp[V.top]at hk<;>subst hk<;>simp[lenOf,hd]at hn
  ·rw[hop hy hlo hv]at hk;simp at hk
  ·rw[hop hy hh hv]at hk;simp at hk
  ·subst hy
   simp only[Option.bind_eq_some_iff]at he
   obtain⟨m,hm,_⟩:=he
   rw[evInt_top hm hv]at hk;simp at hk
 ·simp only[AOp.opds,List.mem_singleton]at hy
  subst hy
  simp only[aeval,hv,Option.bind_eq_bind,Option.bind_some]at he
  cases v<;>simp[V.top]at hk<;>subst hk<;>simp[hd]at he
 ·rename_i sz x i
  simp only[AOp.opds,List.mem_cons,List.not_mem_nil,or_false]at hy
  simp only[aeval,Option.bind_eq_bind,Option.bind_eq_some_iff]at he
  obtain⟨n,hn,u,hu,he⟩:=he
  rcases hy with rfl | rfl
  ·obtain rfl:=Option.some.inj (hu.symm.trans hv)
   cases u<;>simp[V.top]at hk<;>subst hk<;>simp[hd]at he
  ·rw[evInt_top hn hv]at hk;simp at hk
 ·simp only[AOp.opds,List.mem_singleton]at hy
  subst hy
  simp only[aeval,hv,Option.bind_eq_bind,Option.bind_some,Option.bind_eq_some_iff]at he
  obtain⟨n,hn,_⟩:=he
  cases v<;>simp[V.top]at hk<;>subst hk<;>simp[lenOf,hd]at hn
def indepX (a b:ROp):Bool:=
 (match a.dst with | some d=> !b.reads.contains d&&b.dst != some d | none=>true)&&
 (match b.dst with | some d=> !a.reads.contains d | none=>true)&&a.op.isApp&&b.op.looks&&a.op.opds.all Opd.plain&&b.op.opds.all Opd.plain
structure IndepX (a b:ROp):Prop where
 d1: ∀t∈b.reads,a.dst≠some t
 d12: ∀x,a.dst=some x->b.dst≠some x
 d2: ∀t∈a.reads,b.dst≠some t
 ap:a.op.isApp=true
 lk:b.op.looks=true
 p1: ∀y∈a.op.opds,y.plain=true
 p2: ∀y∈b.op.opds,y.plain=true
theorem indepX_spec {a b:ROp} (h:indepX a b=true):IndepX a b:=by
 simp only[indepX,Bool.and_eq_true,List.all_eq_true]at h
 obtain⟨⟨⟨⟨⟨a1,a2⟩,a3⟩,a4⟩,a5⟩,a6⟩:=h
 refine⟨?_,?_,?_,a3,a4,a5,a6⟩
 ·intro t ht hd
  rw[hd]at a1
  simp at a1
  exact a1.1 ht
 ·intro x hx hd
  rw[hx]at a1
  simp[hd]at a1
 ·intro t ht hd
  rw[hd]at a2
  simp at a2
  exact a2 ht
theorem app_sh {op:AOp} (h:op.isApp=true):op.wrL=false/\op.rdL=false/\op.isRaw=false:=by
 cases op<;>simp_all [AOp.isApp,AOp.wrL,AOp.rdL,AOp.isRaw]
theorem app_heap {op:AOp} {p:Nat} {G:Nat->List T} {e:Eff} (hl:op.isApp=true) (he:aeval G p s op=some e):
 ∀k,k≠s.bas+p->hpUpd s.heap e.hp k=s.heap k\/hpUpd s.heap e.hp k=some .dead:=by
 intro k hk
 cases op<;>simp only[AOp.isApp,Bool.false_eq_true]at hl
 simp only[aeval,Option.bind_eq_bind,Option.bind_eq_some_iff]at he
 obtain⟨u,hu,v,hv,a,ha,b,hb,he⟩:=he
 split at he
 ·split at he
  ·cases he;exact .inl rfl
  ·split at he
   ·cases he
    left
    simp only[hpUpd]
    exact upd_other _ _ hk
   ·simp only[Option.bind_eq_some_iff,Option.some.injEq]at he
    obtain⟨ts,_,rfl⟩:=he
    exact .inl rfl
   ·split at he
    ·split at he
     ·cases he
      simp only[hpUpd]
      rw[upd_other _ _ hk]
      unfold upd
      split
      ·exact .inr rfl
      ·exact .inl rfl
     ·cases he
    ·cases he
   ·cases he
 ·cases he
theorem swapX (hz:Rz N ns s) {pj pi:Nat} {j i:ROp} {ej ei:Eff} (hij:IndepX j i) (hpp:pj≠pi) (fj:s.heap (s.bas+pj)=none) (fi:s.heap (s.bas+pi)=none)
 (hj:DStep P N pj j s ej) (hfj:s.free j.dst ej) (hi:DStep P N pi i (s.apply j.dst ej) ei) (hfi:(s.apply j.dst ej).free i.dst ei):
 DStep P N pi i s ei/\s.free i.dst ei/\DStep P N pj j (s.apply i.dst ei) ej/\(s.apply i.dst ei).free j.dst ej/\(s.apply j.dst ej).apply i.dst ei=(s.apply i.dst ei).apply j.dst ej:=by
 obtain⟨iwH,iwL,iraw,irL⟩:=look_sh hij.lk
 obtain⟨jwL,jrL,jraw⟩:=app_sh hij.ap
 obtain⟨sj1,sj2,sj3,sj4,sj5⟩:=hj.shape
 have hjw:ej.wloc=none:=sj1 jwL
 have hjh: ∀k,k≠s.bas+pj->(s.apply j.dst ej).heap k=s.heap k\/(s.apply j.dst ej).heap k=some .dead:=by
  intro k hk
  cases hj with
  | skip hw=>exact .inl rfl
  | eff hw he=>exact app_heap hij.ap he k hk
  | pure hw ho=>exact .inl rfl
  | fresh hw ho=>have:=hij.ap;rw[ho]at this;cases this
 have henv: ∀t∈i.reads,(s.apply j.dst ej).env t=s.env t:=by
  intro t ht
  have hd:=hij.d1 t ht
  cases hjd:j.dst with
  | none=>rfl
  | some d'=>rw[hjd]at hd;simp only[St.apply];exact upd_other _ _ (fun h=>hd (by rw[h]))
 have hop: ∀y∈i.op.opds,evl N.G (s.apply j.dst ej) y=evl N.G s y:=by
  intro y hy
  cases y with
  | s t=>simp only[evl,henv t (List.mem_append_left _ (List.mem_flatMap.2 ⟨_,hy,by simp[Opd.slots]⟩))]
  | c v=>rfl
  | g q=>rfl
 have hi0:DStep P N pi i (s.apply j.dst { ej with hp:=[] }) ei:=by
  cases hi with
  | skip hw=>exact .skip hw
  | eff hw he=>
    refine .eff hw ?_
    rw[<- he]
    refine(aeval_congr (s:=s.apply j.dst ej) (u:=s.apply j.dst { ej with hp:=[] }) (fun x _=>by cases x<;>rfl) (fun x _=>by cases x<;>rfl) (fun hr=>by rw[irL]at hr;cases hr) (fun _ x hx v hv k hk=> ?_) rfl).symm
    obtain⟨o,ho⟩:=hz.top (hij.p2 x hx) (by rw[<- hop x hx];exact hv) k hk
    have hkp:k≠s.bas+pj:=by rintro rfl;rw[fj]at ho;cases ho
    rcases hjh k hkp with h | h
    ·exact h
    ·exact absurd h (look_alive hij.lk he x hx v hv k hk)
  | pure hw ho=>have:=hij.lk;rw[ho]at this;cases this
  | fresh hw ho=>have:=hij.lk;rw[ho]at this;cases this
 have hi':DStep P N pi i s ei:=(DStep.transfer (e':= { ej with hp:=[] }) hz hij.p2 hij.d1 (fun d' hd=>(hfj d' hd).1) (fun _=>hjw) (fun _ k o hk=>hk)).2 hi0
 have hfi':s.free i.dst ei:=by
  intro d hd
  obtain⟨h1,h2⟩:=hfi d hd
  refine⟨?_,h2⟩
  cases hu:s.used d with
  | false=>rfl
  | true=>have:=used_mono (d:=j.dst) (e:=ej) hu;rw[h1]at this;simp at this
 obtain⟨si1,si2,si3,si4,si5⟩:=hi'.shape
 have hext2:j.op.rdH=true-> ∀k o,s.heap k=some o->(s.apply i.dst ei).heap k=some o:=by
  intro hr k o hk
  show hpUpd s.heap ei.hp k=some o
  rw[hpUpd_other,hk]
  intro x hx e
  have:=si2 iwH x hx
  rw[e]at this;rw[this,fi]at hk;simp at hk
 have hj':DStep P N pj j (s.apply i.dst ei) ej:=(DStep.transfer hz hij.p1 hij.d2 (fun d' hd=>(hfi' d' hd).1) (fun _=>si1 iwL) hext2).1 hj
 have hsl: ∀{x:ROp} {y:Opd},y∈x.op.opds-> ∀t∈y.slots,t∈x.reads:=fun hy t ht=>List.mem_append_left _ (List.mem_flatMap.2 ⟨_,hy,ht⟩)
 have hfj':(s.apply i.dst ei).free j.dst ej:=by
  intro d hd
  obtain⟨h1,h2⟩:=hfj d hd
  refine⟨?_,h2⟩
  simp only[St.apply]
  cases ha:ei.adr with
  | none=>exact h1
  | some bo=>
    obtain⟨b,o⟩:=bo
    obtain⟨y,hy,o',hr⟩:=si5 b o ha
    have hb:b≠d:=base_ne hz hr (fun hin=>hij.d1 d (hsl hy d hin) hd) h1
    simp only[upd_other _ _ (Ne.symm hb)];exact h1
 refine⟨hi',hfi',hj',hfj',apply_comm hij.d12 (.inl hjw) (fun b cs hb=>by rw[hjw]at hb;cases hb) (fun b cs hb=>by rw[si1 iwL]at hb;cases hb) ?_⟩
 intro x hx y hy e
 have hne:s.bas+pj≠s.bas+pi:=by omega
 have e2:=si2 iwH y hy
 rcases sj3 x hx with h1 | h1
 ·exact hne (by rw[<- h1,<- e2,e])
 ·rw[e,e2,fi]at h1;simp at h1
def AOp.still:AOp->Bool
 | .mv _ | .faddrL _ _ | .loadL _ _ _ | .allocL _=>true
 | _=>false
def indepR (a b:ROp):Bool:=
 (match a.dst with | some d=> !b.reads.contains d&&b.dst != some d | none=>true)&&
 (match b.dst with | some d=> !a.reads.contains d | none=>true)&&a.op.still&&b.op.isRaw&&a.op.opds.all Opd.plain
structure IndepR (a b:ROp):Prop where
 d1: ∀t∈b.reads,a.dst≠some t
 d12: ∀x,a.dst=some x->b.dst≠some x
 d2: ∀t∈a.reads,b.dst≠some t
 st:a.op.still=true
 rw:b.op.isRaw=true
 p1: ∀y∈a.op.opds,y.plain=true
theorem indepR_spec {a b:ROp} (h:indepR a b=true):IndepR a b:=by
 simp only[indepR,Bool.and_eq_true,List.all_eq_true]at h
 obtain⟨⟨⟨⟨a1,a2⟩,a3⟩,a4⟩,a5⟩:=h
 refine⟨?_,?_,?_,a3,a4,a5⟩
 ·intro t ht hd
  rw[hd]at a1
  simp at a1
  exact a1.1 ht
 ·intro x hx hd
  rw[hx]at a1
  simp[hd]at a1
 ·intro t ht hd
  rw[hd]at a2
  simp at a2
  exact a2 ht
theorem still_sh {op:AOp} (h:op.still=true):op.rdH=false/\op.wrH=false/\op.wrL=false/\op.isRaw=false:=by
 cases op<;>simp_all [AOp.still,AOp.rdH,AOp.wrH,AOp.wrL,AOp.isRaw]
theorem still_eff {op:AOp} {e:Eff} {p:Nat} {G:Nat->List T} (h:op.still=true) (he:aeval G p s op=some e):e.hp=[]/\e.wloc=none:=by
 cases op<;>simp only[AOp.still,Bool.false_eq_true]at h
 all_goals simp only[aeval,Option.bind_eq_bind,Option.bind_eq_some_iff,Option.some.injEq,Prod.exists]at he
 ·obtain⟨_,_,rfl⟩:=he;exact⟨rfl,rfl⟩
 ·subst he;exact⟨rfl,rfl⟩
 ·obtain⟨_,_,_,_,_,_,_,_,_,rfl⟩:=he;exact⟨rfl,rfl⟩
 ·obtain⟨_,_,_,_,_,_,_,_,rfl⟩:=he;exact⟨rfl,rfl⟩
theorem still_heap {op:AOp} {p:Nat} {G:Nat->List T} {H:Nat->Option O} {n:Nat} (h:op.still=true):aeval G p { s with heap:=H,nxt:=n } op=aeval G p s op:=by
 refine(aeval_congr (s:=s) (u:={ s with heap:=H,nxt:=n }) (G:=G) (p:=p) (op:=op) (fun x _=> ?_) (fun x _=> ?_) (fun _ _ _ _ _ _=>rfl) (fun hr=> ?_) rfl).symm
 ·cases x<;>rfl
 ·cases x<;>rfl
 ·rw[(still_sh h).1]at hr;cases hr
theorem swapR (hz:Rz N ns s) {pj pi:Nat} {j i:ROp} {s1 s2:St} (hij:IndepR j i) (h1:StepG P N true pj j s s1) (h2:StepG P N true pi i s1 s2):
 ∃t,StepG P N true pi i s t/\StepG P N true pj j t s2:=by
 obtain⟨sr,swH,swL,snr⟩:=still_sh hij.st
 obtain⟨ej,hdj,hfj,rfl⟩:=h1.toD snr
 have hej:ej.hp=[]/\ej.wloc=none:=by
  cases hdj with
  | skip hw=>exact⟨rfl,rfl⟩
  | eff hw he=>exact still_eff hij.st he
  | pure hw ho=>exact⟨rfl,rfl⟩
  | fresh hw ho=>have:=hij.st;rw[ho]at this;cases this
 obtain⟨ehp,ewl⟩:=hej
 have hheap:(s.apply j.dst ej).heap=s.heap:=by simp only[St.apply,ehp,hpUpd]
 have henv: ∀t∈i.reads,(s.apply j.dst ej).env t=s.env t:=by
  intro t ht
  have hd:=hij.d1 t ht
  cases hjd:j.dst with
  | none=>rfl
  | some d'=>rw[hjd]at hd;simp only[St.apply];exact upd_other _ _ (fun h=>hd (by rw[h]))
 have hop: ∀y∈i.op.opds,evl N.G (s.apply j.dst ej) y=evl N.G s y:=by
  intro y hy
  cases y with
  | s t=>simp only[evl,henv t (List.mem_append_left _ (List.mem_flatMap.2 ⟨_,hy,by simp[Opd.slots]⟩))]
  | c v=>rfl
  | g q=>rfl
 have hwants:wants (s.apply j.dst ej) i.guard=wants s i.guard:=by
  cases hg:i.guard with
  | none=>rfl
  | some gw=>
    obtain⟨g,w⟩:=gw
    have:g∈i.reads:=by unfold ROp.reads;rw[hg];simp
    simp only[wants,henv g this]
 have hfree: ∀{e:Eff},(s.apply j.dst ej).free i.dst e->s.free i.dst e:=by
  intro e hf d hd
  obtain⟨h1,h2⟩:=hf d hd
  refine⟨?_,h2⟩
  cases hu:s.used d with
  | false=>rfl
  | true=>have:=used_mono (d:=j.dst) (e:=ej) hu;rw[h1]at this;simp at this
 -- what is left to do when the call has been made
 have fin: ∀(H':Nat->Option O) (n':Nat) (r:V),s.free i.dst {}->StepG P N true pj j ({ s with heap:=H',nxt:=n' }.apply i.dst { val:=r }) (({ s.apply j.dst ej with heap:=H',nxt:=n' }:St).apply i.dst { val:=r }):=by
  intro H' n' r hfi
  have hst:({ s with heap:=H',nxt:=n' }:St).apply i.dst { val:=r }= { s.apply i.dst { val:=r }with heap:=H',nxt:=n' }:=rfl
  have hj':DStep P N pj j (s.apply i.dst { val:=r }) ej:=
   (DStep.transfer hz hij.p1 hij.d2 (fun d' hd=>(hfi d' hd).1) (fun _=>rfl) (fun hr=>by rw[sr]at hr;cases hr)).1 hdj
  have hj2:DStep P N pj j ({ s with heap:=H',nxt:=n' }.apply i.dst { val:=r }) ej:=by
   rw[hst]
   cases hj' with
   | skip hw=>exact .skip hw
   | eff hw he=>exact .eff hw (by rw[still_heap hij.st];exact he)
   | pure hw ho=>have:=hij.st;rw[ho]at this;cases this
   | fresh hw ho=>have:=hij.st;rw[ho]at this;cases this
  have hfj2:(({ s with heap:=H',nxt:=n' }:St).apply i.dst { val:=r }).free j.dst ej:=hfj
  have:=hj2.toG hfj2
  have e1:({ s.apply j.dst ej with heap:=H',nxt:=n' }:St)=({ s with heap:=H',nxt:=n' }:St).apply j.dst ej:=by
   simp only[St.apply,ehp,hpUpd]
  rw[e1,apply_comm (s:={ s with heap:=H',nxt:=n' }) hij.d12 (.inl ewl) (fun b cs hb=>by rw[ewl]at hb;cases hb) (fun b cs hb=>by cases hb) (by rw[ehp];simp)]
  exact this
 cases h2 with
 | skip hw hf=>
   refine⟨_,.skip (by rw[<- hwants];exact hw) (hfree hf),?_⟩
   have:=fin s.heap s.nxt .undef (hfree hf)
   have e1:({ s.apply j.dst ej with heap:=s.heap,nxt:=s.nxt }:St)=s.apply j.dst ej:=by
    simp only[St.apply,ehp,hpUpd]
   rw[e1]at this
   exact this
 | eff hw hf he=>have:=hij.rw;revert he;cases hop':i.op<;>rw[hop']at this<;>simp[AOp.isRaw]at this<;>simp[aeval]
 | pure hw hf ho=>have:=hij.rw;rw[ho]at this;simp[AOp.isRaw]at this
 | fresh hw hf ho=>have:=hij.rw;rw[ho]at this;simp[AOp.isRaw]at this
 | raw hw hf ho hfv hfn hreal hvs hc hn hfr=>
   rename_i f args fv g a b vs r rf H' n'
   have hev: ∀y,y∈f::args->evl N.G (s.apply j.dst ej) y=evl N.G s y:=fun y hy=>hop y (by rw[ho];exact hy)
   rw[hev f (by simp)]at hfv
   rw[evls_congr (fun x hx=>hev x (by simp[hx]))]at hvs
   rw[hheap]at hc hfr
   exact⟨_,.raw (by rw[<- hwants];exact hw) (hfree hf) ho hfv hfn hreal hvs hc hn hfr,fin H' n' r (hfree hf)⟩
 | yld hw hf ho hfv hk hvs hlen hca hk1 hcb hk2 hfr=>
   rename_i f args k vs env env1 env' ps ps1 ps' ca cb bd1 bd' e t1 t2
   have hev: ∀y,y∈f::args->evl N.G (s.apply j.dst ej) y=evl N.G s y:=fun y hy=>hop y (by rw[ho];exact hy)
   rw[hev f (by simp)]at hfv
   rw[evls_congr (fun x hx=>hev x (by simp[hx]))]at hvs
   rw[hheap]at hk hca hfr
   exact⟨_,.yld (by rw[<- hwants];exact hw) (hfree hf) ho hfv hk hvs hlen hca hk1 hcb hk2 hfr,fin _ _ _ (hfree hf)⟩
end
end Rg
end
