/- Part of the proof of laws of relyguardlaw36. No condition. -/
import Derived.Test.YtaiokglcgiemnaaGreatDoorCartAE
set_option linter.unusedVariables false
set_option linter.unusedSimpArgs false
section
namespace Rg
open Go
section
variable {G:Nat->List T} {p:Nat} {s:St} {op:AOp} {e:Eff}
theorem zh2 (h:zw4 G p s op=some e):op.wrL=false->e.wloc=none:=by
 intro hw;cases op
 all_goals(try(simp[AOp.wrL]at hw;done))
 all_goals simp only[zw4,zC,zB,zA,Prod.exists]at h
 all_goals(try(repeat(first | (obtain⟨_,_,h⟩:=h) | split at h | (simp only[zB,zA]at h))))
 all_goals(try(repeat(first | (obtain⟨_,_,h⟩:=h) | split at h | (simp only[zB,zA]at h))))
 all_goals(try(repeat(first | (obtain⟨_,_,h⟩:=h) | split at h | (simp only[zB]at h))))
 all_goals(try(repeat(first | (obtain⟨_,_,h⟩:=h) | split at h | (simp only[zB]at h))))
 all_goals(try subst h)
 all_goals(try rfl)
 all_goals(try(simp at h;done))
theorem zrI (h:zw4 G p s op=some e):op.wrH=false-> ∀x∈e.hp,x.1=s.bas+p:=by
 intro hw x hx;cases op
 all_goals(try(simp[AOp.wrH]at hw;done))
 all_goals simp only[zw4,zC,zB,zA,Prod.exists]at h
 all_goals(try(repeat(first | (obtain⟨_,_,h⟩:=h) | split at h | (simp only[zB,zA]at h))))
 all_goals(try(repeat(first | (obtain⟨_,_,h⟩:=h) | split at h | (simp only[zB,zA]at h))))
 all_goals(try(repeat(first | (obtain⟨_,_,h⟩:=h) | split at h | (simp only[zB]at h))))
 all_goals(try(repeat(first | (obtain⟨_,_,h⟩:=h) | split at h | (simp only[zB]at h))))
 all_goals(try subst h)
 all_goals(try(simp at hx;done))
 all_goals(try(simp at h;done))
 all_goals(simp only[List.mem_cons,List.not_mem_nil,or_false]at hx)
 all_goals(subst hx;rfl)
theorem zmp (h:zw4 G p s op=some e) {b:Nat} {cs:List V} (hb:e.wloc=some (b,cs)): ∃x∈op.opds,∃o,zyS s x=some (b,o):=by
 cases op
 case storeL n a v=>
  simp only[zw4,zC,zB,Prod.exists]at h;obtain⟨b',o,hr,cs0,_,v0,_,new,_,h⟩:=h;split at h
  ·simp only[zB,zA]at h;obtain⟨cs',_,rfl⟩:=h;simp only[zA,Prod.mk.injEq]at hb;obtain⟨rfl,_⟩:=hb;exact⟨a,by simp[AOp.opds],o,hr⟩
  ·simp at h
 all_goals(have:=zh2 h rfl;rw[this]at hb;simp at hb)
theorem zmq (h:zw4 G p s op=some e) {b o:Nat} (hb:e.adr=some (b,o)): ∃x∈op.opds,∃o',zyS s x=some (b,o'):=by
 cases op
 case faddrL off x=>
  simp only[zw4,zC,zB,Prod.exists,zA]at h;obtain⟨b',o',hr,_,_,rfl⟩:=h;simp only[zA,Prod.mk.injEq]at hb;obtain⟨rfl,_⟩:=hb;exact⟨x,by simp[AOp.opds],o',hr⟩
 case iaddrAL len sz x i=>
  simp only[zw4,zC,zB,Prod.exists]at h;obtain⟨n,_,b',o',hr,_,_,h⟩:=h;split at h
  ·simp only[zA]at h;subst h;simp only[zA,Prod.mk.injEq]at hb;obtain⟨rfl,_⟩:=hb;exact⟨x,by simp[AOp.opds],o',hr⟩
  ·simp at h
 all_goals exfalso
 all_goals simp only[zw4,zC,zB,zA,Prod.exists]at h
 all_goals(try(repeat(first | (obtain⟨_,_,h⟩:=h) | split at h | (simp only[zB,zA]at h))))
 all_goals(try(repeat(first | (obtain⟨_,_,h⟩:=h) | split at h | (simp only[zB,zA]at h))))
 all_goals(try(repeat(first | (obtain⟨_,_,h⟩:=h) | split at h | (simp only[zB]at h))))
 all_goals(try(repeat(first | (obtain⟨_,_,h⟩:=h) | split at h | (simp only[zB]at h))))
 all_goals(try subst h)
 all_goals(try(simp at hb;done))
 all_goals(try(simp at h;done))
end
inductive DStep (P:Program) (N:Nam) (p:Nat) (o:ROp) (s:St):Eff->Prop where
 | skip (hw:zxW s o.guard=some false):DStep P N p o s {}
 | eff {e:Eff} (hw:zxW s o.guard=some true) (he:zw4 N.G p s o.op=some e):DStep P N p o s e
 | pure {f:Opd} {args:List Opd} {fv:V} {g:Nat} {a b vs rs:List V} {r:V} {rf:Func} (hw:zxW s o.guard=some true) (ho:o.op= .call false f args) (An:evl N.G s f=some fv)
    (Au:zze fv=some (g,a,b)) (Am:Real P (N.nm g) rf) (Aq:zzo N.G s args=some vs) (AA:(a++vs++b).mapM (toT1 s.heap)=some rs) (hc:zfl P N g rs r)
    (hd:r.scalar=true\/(a++vs++b).flatMap (zxp s.heap)=[]):DStep P N p o s { val:=r }
 | fresh {f:Opd} {args:List Opd} {fv:V} {g:Nat} {a b vs rs:List V} {r:V} {rf:Func} {H':Nat->Option O} {n':Nat} {e:Eff} (hw:zxW s o.guard=some true) (ho:o.op= .fcall f args) (An:evl N.G s f=some fv)
    (Au:zze fv=some (g,a,b)) (Am:Real P (N.nm g) rf) (Aq:zzo N.G s args=some vs) (AA:(a++vs++b).mapM (toT1 s.heap)=some rs) (hd:(a++vs++b).flatMap (zxp s.heap)=[])
    (hc:zhR P N g rs (fun _=>none) 0 r H' n') (he:zBy (s.bas+p) r H'=some e):DStep P N p o s e
def AOp.isRaw:AOp->Bool
 | .call true _ _=>true
 | _=>false
theorem StepG.toD {P:Program} {N:Nam} {p:Nat} {o:ROp} {s s':St} (h:StepG P N true p o s s') (hn:o.op.isRaw=false): ∃e,DStep P N p o s e/\s.free o.dst e/\s'=s.apply o.dst e:=by
 cases h with
 | skip hw hf=>exact⟨{},.skip hw,hf,rfl⟩
 | eff hw hf he=>exact⟨_,.eff hw he,hf,rfl⟩
 | pure hw hf ho An Au Am Aq AA hc hd=>
   refine⟨_,.pure hw ho An Au Am Aq AA hc (hd rfl),hf,?_⟩;rcases hd rfl with h | h
   ·rw[if_pos h]
   ·rw[h];simp[freezes]
 | raw hw hf ho=>rw[ho]at hn;simp[AOp.isRaw]at hn
 | yld hw hf ho=>rw[ho]at hn;simp[AOp.isRaw]at hn
 | fresh hw hf ho An Au Am Aq AA hd hc he=>
   refine⟨_,.fresh hw ho An Au Am Aq AA hd hc he,fun d hd=>⟨(hf d hd).1,fun b o hb=> ?_⟩,rfl⟩;rw[(zy3 he).1]at hb;simp at hb
theorem DStep.toG {P:Program} {N:Nam} {p:Nat} {o:ROp} {s:St} {e:Eff} (h:DStep P N p o s e) (hf:s.free o.dst e):StepG P N true p o s (s.apply o.dst e):=by
 cases h with
 | skip hw=>exact .skip hw hf
 | eff hw he=>exact .eff hw hf he
 | pure hw ho An Au Am Aq AA hc hd=>
   have:=StepG.pure (d:=true) (p:=p) hw hf ho An Au Am Aq AA hc (fun _=>hd);rcases hd with h | h
   ·rw[if_pos h]at this;exact this
   ·rw[h]at this;simpa[freezes]using this
 | fresh hw ho An Au Am Aq AA hd hc he=>exact .fresh hw (fun d hd=>⟨(hf d hd).1,fun b o hb=>by simp at hb⟩) ho An Au Am Aq AA hd hc he
def Opd.slots:Opd->List Nat
 | .s t=>[t]
 | _=>[]
def ROp.reads (o:ROp):List Nat:=o.op.opds.flatMap Opd.slots++(match o.guard with | some (g,_)=>[g] | none=>[])
def Rz (N:Nam) (ns:Nat) (s:St):Prop:= ∃c A μ lam a w,Rel N c ns A μ lam s a w
section
variable {P:Program} {N:Nam} {ns:Nat} {s:St}
theorem Rz.adr (h:Rz N ns s) {t b o:Nat} (ha:s.adr t=some (b,o)):s.used b=true:=by
 obtain⟨c,A,μ,lam,a,w,R⟩:=h;exact(R.adr t b o ha).1
theorem Rz.fresh (h:Rz N ns s) {k:Nat} (hk:s.nxt<=k):s.heap k=none:=by
 obtain⟨c,A,μ,lam,a,w,R⟩:=h;exact R.fresh k hk
theorem RepC.top_some {w:World} {A:Nat->Prop} {nm μ:Nat->Nat} {H:Nat->Option O} {v:Value} {x:V} (h:RepC w A nm μ H v x): ∀k∈x.top,∃o,H k=some o:=by
 intro k hk;cases h<;>simp[V.top]at hk<;>subst hk<;>exact⟨_,‹_›⟩
theorem zxy.top_some {w:World} {A:Nat->Prop} {nm μ:Nat->Nat} {H:Nat->Option O} {v:Value} {x:V} (h:zxy w A nm μ H v x): ∀k∈x.top,∃o,H k=some o:=by
 intro k hk
 cases x with
 | ms _ _ _=>exact RepC.top_some h k hk
 | mp _ _ _=>exact RepC.top_some h k hk
 | mm _=>exact RepC.top_some h k hk
 | _=>simp[V.top]at hk
def V.isT:V->Bool
 | .t _=>true
 | _=>false
def V.noref:V->Bool
 | .t _=>true
 | .agg cs=>cs.all V.isT
 | _=>false
def Opd.plain:Opd->Bool
 | .c v=>v.noref
 | _=>true
theorem Rz.top (h:Rz N ns s) {x:Opd} {v:V} (hp:x.plain=true) (hv:evl N.G s x=some v): ∀k∈v.top,∃o,s.heap k=some o:=by
 obtain⟨c,A,μ,lam,a,w,R⟩:=h;intro k hk
 cases x with
 | s t=>
   simp only[evl]at hv;split at hv<;>first | (simp at hv;done) | skip
   simp only[zA]at hv;subst hv
   exact(R.env t).top_some k hk
 | c u=>
   simp only[evl,zA]at hv;subst hv
   cases u<;>simp[Opd.plain,V.noref]at hp<;>simp[V.top]at hk
 | g q=>
   simp only[evl,zA]at hv;subst hv;simp[V.top]at hk
theorem zeF {w:World} {A:Nat->Prop} {N:Nam} {μ:Nat->Nat} {H H':Nat->Option O} (hH: ∀k o,H k=some o->zkf w A N μ H (μ k) o) (Bh: ∀k o,H k=some o->H' k=some o):
 ∀(d:Nat) (x:V) (v:Value),RepC w A N.nm μ H v x->toT H d x=toT H' d x:=by
 intro d
 induction d with
 | zero=>intro x v _;cases x<;>rfl
 | succ d ih=>
   intro x v hr
   have A6: ∀{k sz:Nat} {rs:List (List V)} {f:Bool} (hk:H k=some (.rows sz rs f)) (i:Nat) (row:List V),rs[i]? =some row-> ∀(j:Nat) (y:V),row[j]? =some y->toT H d y=toT H' d y:=by
    intro k sz rs f hk i row hi j y hj;obtain⟨cc,e0,z,h1,h2,h3,h4,h5⟩:=hH k _ hk;obtain⟨u,_,hu⟩:=h5 i row j y hi hj;exact ih y u hu
   have EE: ∀(l:List V),(∀(j:Nat) (y:V),l[j]? =some y->toT H d y=toT H' d y)->l.mapM (toT H d)=l.mapM (toT H' d):=by
    intro l
    induction l with
    | nil=>intro _;rfl
    | cons y l ihl=>
      intro h;rw[List.mapM_cons,List.mapM_cons,h 0 y rfl,ihl (fun j z hj=>h (j+1) z (by simpa using hj))]
   cases x with
   | t y=>rfl
   | ms k i len=>
     obtain⟨o,hk⟩:=hr.top_some k (by simp[V.top]);simp only[toT,hk,Bh k o hk]
     cases o with
     | rows sz rs f=>
       simp only
       cases BM:rd rs i len with
       | none=>rfl
       | some r=>
         simp only[zC,zD]
         have Di: ∀(q:Nat) (row:List V),r[q]? =some row->row.mapM (toT H d)=row.mapM (toT H' d):=by
          intro q row hq;unfold rd at BM;split at BM
          ·simp only[zA]at BM;subst BM;rw[zO]at hq;split at hq
           ·rw[List.getElem?_drop]at hq;exact EE row (fun j y hj=>A6 hk _ row hq j y hj)
           ·simp at hq
          ·simp at BM
         have:r.mapM (fun row=>row.mapM (toT H d))=r.mapM (fun row=>row.mapM (toT H' d)):=by
          clear BM
          induction r with
          | nil=>rfl
          | cons row r ihr=>
            rw[List.mapM_cons,List.mapM_cons,Di 0 row rfl,ihr (fun q row hq=>Di (q+1) row (by simpa using hq))]
         rw[this]
     | map es=>rfl
     | loop _ _ _ _=>rfl
     | raw _=>rfl
     | dead=>rfl
   | mp k i off=>
     obtain⟨o,hk⟩:=hr.top_some k (by simp[V.top]);simp only[toT,hk,Bh k o hk]
     cases o with
     | rows sz rs f=>
       simp only
       cases OA:rs[i]? with
       | none=>rfl
       | some row=>
         simp only[zC,zD]
         rw[EE (row.drop off) (fun j y hj=>by rw[List.getElem?_drop]at hj;exact A6 hk i row OA _ y hj)]
     | map es=>rfl
     | loop _ _ _ _=>rfl
     | raw _=>rfl
     | dead=>rfl
   | fn f a b=>
     cases hr with
     | fn _ _ _ va vb fa fb ha hb Bn Cl CO DC=>
       simp only[toT]
       rw[EE a (fun j y hj=>ih y _ (Cl j y hj)),EE b (fun j y hj=>ih y _ (DC j y hj))]
   | mm k=>
     cases hr with
     | mm _ es hk=>simp only[toT,hk,Bh k _ hk]
     | dmm _ hk _=>simp only[toT,hk,Bh k _ hk]
   | yl k=>rfl
   | agg cs=>rfl
   | tup cs=>rfl
   | undef=>rfl
   | lb=>rfl
theorem zga {w:World} {A:Nat->Prop} {N:Nam} {μ:Nat->Nat} {H H':Nat->Option O} (hH: ∀k o,H k=some o->zkf w A N μ H (μ k) o) (Bh: ∀k o,H k=some o->H' k=some o) {x:V} {v:Value} (hr:zxy w A N.nm μ H v x):
 toT1 H x=toT1 H' x:=by
 cases x with
 | agg cs=>
   obtain⟨vs,_,hl⟩:=hr;simp only[toT1]
   congr 1
   have : ∀(l:List V),(∀(j:Nat) (y:V),l[j]? =some y->toT H 1000 y=toT H' 1000 y)->l.mapM (toT H 1000)=l.mapM (toT H' 1000):=by
    intro l
    induction l with
    | nil=>intro _;rfl
    | cons y l ihl=>
      intro h;rw[List.mapM_cons,List.mapM_cons,h 0 y rfl,ihl (fun j z hj=>h (j+1) z (by simpa using hj))]
   exact this cs (fun j y hj=>let⟨u,_,hu⟩:=hl.2 j y hj;zeF hH Bh 1000 y u hu)
 | tup cs=>rfl
 | undef=>rfl
 | lb=>rfl
 | t y=>rfl
 | ms k i l=>simp only[toT1];rw[zeF hH Bh 1000 _ v hr]
 | mp k i o=>simp only[toT1];rw[zeF hH Bh 1000 _ v hr]
 | mm k=>simp only[toT1];rw[zeF hH Bh 1000 _ v hr]
 | yl k=>rfl
 | fn f a b=>simp only[toT1];rw[zeF hH Bh 1000 _ v hr]
theorem zjz {H H':Nat->Option O} {x:V} (h:x.noref=true):toT1 H x=toT1 H' x:=by
 cases x with
 | t y=>rfl
 | agg cs=>
   simp only[toT1]
   congr 1
   have : ∀(l:List V),l.all V.isT=true->l.mapM (toT H 1000)=l.mapM (toT H' 1000):=by
    intro l
    induction l with
    | nil=>intro _;rfl
    | cons y l ihl=>
      intro h;simp only[List.all_cons,zF]at h;rw[List.mapM_cons,List.mapM_cons,ihl h.2];cases y<;>simp[V.isT]at h
      rfl
   exact this cs h
 | _=>simp[V.noref]at h
theorem Rz.one (h:Rz N ns s) {H':Nat->Option O} (Bh: ∀k o,s.heap k=some o->H' k=some o) {x:Opd} {v:V} (hp:x.plain=true) (hv:evl N.G s x=some v):toT1 s.heap v=toT1 H' v:=by
 obtain⟨c,A,μ,lam,a,w,R⟩:=h
 cases x with
 | s t=>
   simp only[evl]at hv;split at hv<;>first | (simp at hv;done) | skip
   simp only[zA]at hv;subst hv
   exact zga R.heap Bh (R.env t)
 | c u=>
   simp only[evl,zA]at hv;subst hv
   exact zjz hp
 | g q=>
   simp only[evl,zA]at hv;subst hv;rfl
theorem zhX (H H':Nat->Option O) (c:List T):Rg.toT1 H (.agg (c.map V.t))=Rg.toT1 H' (.agg (c.map V.t)):=by
 have:(c.map V.t).mapM (toT H 1000)=(c.map V.t).mapM (toT H' 1000):=by
  induction c with
  | nil=>rfl
  | cons x r ih=>rw[List.map_cons,List.mapM_cons,List.mapM_cons,ih];rfl
 simp only[Rg.toT1,this]
theorem Rz.toT1 (h:Rz N ns s) {H':Nat->Option O} (Bh: ∀k o,s.heap k=some o->H' k=some o) {f:Opd} {args:List Opd} {fv:V} {g:Nat} {a b vs:List V}
 (OI:f.plain=true) (Er: ∀x∈args,x.plain=true) (An:evl N.G s f=some fv) (Au:zze fv=some (g,a,b)) (Aq:zzo N.G s args=some vs):
 (a++vs++b).mapM (Rg.toT1 s.heap)=(a++vs++b).mapM (Rg.toT1 H'):=by
 have key: ∀(l:List V),(∀x∈l,Rg.toT1 s.heap x=Rg.toT1 H' x)->l.mapM (Rg.toT1 s.heap)=l.mapM (Rg.toT1 H'):=by
  intro l
  induction l with
  | nil=>intro _;rfl
  | cons y l ihl=>
    intro h;rw[List.mapM_cons,List.mapM_cons,h y List.mem_cons_self,ihl (fun z hz=>h z (List.mem_cons_of_mem _ hz))]
 have DV: ∀x,x∈a\/x∈b->Rg.toT1 s.heap x=Rg.toT1 H' x:=by
  intro x hx;obtain⟨c,A,μ,lam,ac,w,R⟩:=h;unfold zze at Au;split at Au
  ·simp only[zA,Prod.mk.injEq]at Au;obtain⟨rfl,rfl,rfl⟩:=Au
   cases f with
   | s t=>
     simp only[evl]at An;split at An<;>first | (simp at An;done) | skip
     simp only[zA]at An;have he:=R.env t;rw[An]at he
     generalize ac.tmps.getD t undef=v0 at he
     cases(he:RepC w A N.nm μ s.heap v0 _)with
     | fn _ _ _ va vb fa fb ha hb Bn Cl CO DC=>
       rcases hx with hx | hx
       ·obtain⟨i,hi,JA⟩:=List.getElem_of_mem hx;exact zga R.heap Bh (Cl i x (by rw[zI hi,JA])).toV
       ·obtain⟨i,hi,JA⟩:=List.getElem_of_mem hx
        exact zga R.heap Bh (DC i x (by rw[zI hi,JA])).toV
   | c u=>
     simp only[evl,zA]at An;subst An
     simp[Opd.plain,V.noref]at OI
   | g q=>simp[evl]at An
  ·simp only[zA,Prod.mk.injEq]at Au;obtain⟨rfl,rfl,rfl⟩:=Au
   have : ∃y,x= .t y:=by
    rcases hx with hx | hx<;>(simp only[List.mem_map]at hx;obtain⟨y,_,rfl⟩:=hx;exact⟨y,rfl⟩)
   obtain⟨y,rfl⟩:=this;rfl
  ·simp only[zA,Prod.mk.injEq]at Au;obtain⟨rfl,rfl,rfl⟩:=Au;rcases hx with hx | hx
   ·simp only[List.mem_singleton]at hx;subst hx;exact zhX _ _ _
   ·simp at hx
  ·simp at Au
 refine key _ (fun x hx=> ?_);simp only[List.mem_append]at hx;rcases hx with(hx | hx) | hx
 ·exact DV x (.inl hx)
 ·obtain⟨h1,h2⟩:=ze8 Aq;obtain⟨i,hi,JA⟩:=List.getElem_of_mem hx;obtain⟨y,hy,Aj⟩:=h2 i x (by rw[zI hi,JA]);exact h.one Bh (Er y (zL hy)) Aj
 ·exact DV x (.inr hx)
theorem zha {H H':Nat->Option O}: ∀(d:Nat) (x:V),zx0 H d x=[]->zx0 H' d x=[]:=by
 intro d
 induction d with
 | zero=>intro x _;cases x<;>rfl
 | succ d ih=>
   intro x h
   cases x with
   | ms k i l=>simp[zx0]at h
   | mp k i o=>simp[zx0]at h
   | fn f a b=>
     simp only[zx0,List.append_eq_nil_iff,List.flatMap_eq_nil_iff]at h⊢
     exact⟨fun y hy=>ih y (h.1 y hy),fun y hy=>ih y (h.2 y hy)⟩
   | _=>rfl
theorem zzn {H H':Nat->Option O} {l:List V} (h:l.flatMap (zxp H)=[]):l.flatMap (zxp H')=[]:=by
 rw[List.flatMap_eq_nil_iff]at h⊢;intro x hx;have:=h x hx
 cases x with
 | agg cs=>
   simp only[zxp,List.flatMap_eq_nil_iff]at this⊢
   exact fun y hy=>zha 1000 y (this y hy)
 | _=>exact zha (H:=H) 1000 _ this
theorem DStep.transfer (hz:Rz N ns s) {p:Nat} {x:ROp} {d:Option Nat} {e' e:Eff} (Cm: ∀y∈x.op.opds,y.plain=true) (C8: ∀t∈x.reads,d≠some t) (JJ: ∀d',d=some d'->s.used d'=false)
 (hL:x.op.rdL=true->e'.wloc=none) (hH:x.op.rdH=true-> ∀k o,s.heap k=some o->(s.apply d e').heap k=some o):
 DStep P N p x s e<->DStep P N p x (s.apply d e') e:=by
 have BY: ∀t,d≠some t->(s.apply d e').env t=s.env t:=by
  intro t ht
  cases d with
  | none=>rfl
  | some d'=>simp only[St.apply];exact zaa _ _ (fun h=>ht (by rw[h]))
 have C3: ∀t,d≠some t->(s.apply d e').adr t=s.adr t:=by
  intro t ht
  cases d with
  | none=>rfl
  | some d'=>simp only[St.apply];exact zaa _ _ (fun h=>ht (by rw[h]))
 have Ao: ∀y∈x.op.opds,∀t∈y.slots,d≠some t:=by
  intro y hy t ht;exact C8 t (List.mem_append_left _ (List.mem_flatMap.2 ⟨y,hy,ht⟩))
 have Aj: ∀y∈x.op.opds,evl N.G s y=evl N.G (s.apply d e') y:=by
  intro y hy
  cases y with
  | s t=>simp only[evl,BY t (Ao _ hy t (by simp[Opd.slots]))]
  | c v=>rfl
  | g q=>rfl
 have B5: ∀y∈x.op.opds,zyS s y=zyS (s.apply d e') y:=by
  intro y hy
  cases y with
  | s t=>simp only[zyS,BY t (Ao _ hy t (by simp[Opd.slots])),C3 t (Ao _ hy t (by simp[Opd.slots]))]
  | c v=>rfl
  | g q=>rfl
 have Fc:x.op.rdL=true-> ∀y∈x.op.opds,∀b o,zyS s y=some (b,o)->s.loc b=(s.apply d e').loc b:=by
  intro hr y hy b o B5;have hw:=hL hr
  have Jz:d≠some b:=by
   cases y with
   | s t=>
     simp only[zyS]at B5;split at B5
     ·rename_i q hq;simp only[zA]at B5;subst B5;intro hd;have h1:=hz.adr hq;rw[JJ b hd]at h1;simp at h1
     ·split at B5<;>first | (simp at B5;done) | skip
      simp only[zA,Prod.mk.injEq]at B5;obtain⟨rfl,_⟩:=B5
      exact Ao _ hy t (by simp[Opd.slots])
   | c v=>simp[zyS]at B5
   | g q=>simp[zyS]at B5
  cases d with
  | none=>simp only[St.apply,hw]
  | some d'=>simp only[St.apply,hw];rw[zaa _ _ (fun h=>Jz (by rw[h]))]
 have Ap:x.op.rdH=true-> ∀y∈x.op.opds,∀v,evl N.G s y=some v-> ∀k∈v.top,s.heap k=(s.apply d e').heap k:=by
  intro hr y hy v hv k hk;obtain⟨o,ho⟩:=hz.top (Cm y hy) hv k hk;rw[ho,hH hr k o ho]
 have Bv:zxW s x.guard=zxW (s.apply d e') x.guard:=by
  cases hg:x.guard with
  | none=>rfl
  | some gw=>
    obtain⟨g,wnt⟩:=gw;simp only[zxW,BY g (C8 g (by simp[ROp.reads,hg]))]
 have Gt:zw4 N.G p s x.op=zw4 N.G p (s.apply d e') x.op:=zzd Aj B5 Fc Ap rfl;have Gl: ∀{r:Bool} {f:Opd} {args:List Opd},x.op= .call r f args->x.op.rdH=true:=by intro r f args h;rw[h];rfl
 have Br: ∀{r:Bool} {f:Opd} {args:List Opd},x.op= .call r f args->f∈x.op.opds/\ ∀y∈args,y∈x.op.opds:=by
  intro r f args h;rw[h];simp only[AOp.opds];exact⟨List.mem_cons_self,fun y hy=>List.mem_cons_of_mem _ hy⟩
 have Gm: ∀{f:Opd} {args:List Opd},x.op= .fcall f args->x.op.rdH=true:=by intro f args h;rw[h];rfl
 have Gs: ∀{f:Opd} {args:List Opd},x.op= .fcall f args->f∈x.op.opds/\ ∀y∈args,y∈x.op.opds:=by
  intro f args h;rw[h];simp only[AOp.opds];exact⟨List.mem_cons_self,fun y hy=>List.mem_cons_of_mem _ hy⟩
 constructor
 ·intro h
  cases h with
  | fresh hw ho An Au Am Aq AA hd hc he=>
    obtain⟨g1,g2⟩:=Gs ho;have Bh:=hH (Gm ho);have e1:=hz.toT1 Bh (Cm _ g1) (fun y hy=>Cm y (g2 y hy)) An Au Aq
    exact .fresh (Bv▸hw) ho (by rw[<- Aj _ g1];exact An) Au Am (by rw[<- zaY (fun y hy=>Aj y (g2 y hy))];exact Aq) (by rw[<- e1];exact AA) (zzn hd) hc he
  | skip hw=>exact .skip (Bv▸hw)
  | eff hw he=>exact .eff (Bv▸hw) (Gt▸he)
  | pure hw ho An Au Am Aq AA hc hd=>
    obtain⟨g1,g2⟩:=Br ho;have Bh:=hH (Gl ho);have e1:=hz.toT1 Bh (Cm _ g1) (fun y hy=>Cm y (g2 y hy)) An Au Aq;refine .pure (Bv▸hw) ho (by rw[<- Aj _ g1];exact An) Au Am (by rw[<- zaY (fun y hy=>Aj y (g2 y hy))];exact Aq) (by rw[<- e1];exact AA) hc (hd.imp id zzn)
 ·intro h
  cases h with
  | skip hw=>exact .skip (Bv▸hw)
  | eff hw he=>exact .eff (Bv▸hw) (Gt▸he)
  | pure hw ho An Au Am Aq AA hc hd=>
    obtain⟨g1,g2⟩:=Br ho;have Bh:=hH (Gl ho);rw[<- Aj _ g1]at An;rw[<- zaY (fun y hy=>Aj y (g2 y hy))]at Aq;have e1:=hz.toT1 Bh (Cm _ g1) (fun y hy=>Cm y (g2 y hy)) An Au Aq
    refine .pure (Bv▸hw) ho An Au Am Aq (by rw[e1];exact AA) hc (hd.imp id zzn)
  | fresh hw ho An Au Am Aq AA hd hc he=>
    obtain⟨g1,g2⟩:=Gs ho;have Bh:=hH (Gm ho);rw[<- Aj _ g1]at An;rw[<- zaY (fun y hy=>Aj y (g2 y hy))]at Aq;have e1:=hz.toT1 Bh (Cm _ g1) (fun y hy=>Cm y (g2 y hy)) An Au Aq;exact .fresh (Bv▸hw) ho An Au Am Aq (by rw[e1];exact AA) (zzn hd) hc he
theorem zaK {h:Nat->Option O} {k:Nat}: ∀{l:List (Nat×O)} ,(∀x∈l,x.1≠k)->zxu h l k=h k:=by
 intro l
 induction l generalizing h with
 | nil=>intro _;rfl
 | cons x l ih=>
   intro hx;obtain⟨q,o⟩:=x;simp only[zxu];rw[ih (fun y hy=>hx y (List.mem_cons_of_mem _ hy)),zaa _ _ (Ne.symm (hx (q,o) List.mem_cons_self))]
theorem zfW {h h':Nat->Option O} {k:Nat}: ∀{l:List (Nat×O)},(∃x∈l,x.1=k)->zxu h l k=zxu h' l k:=by
 intro l
 induction l generalizing h h' with
 | nil=>rintro⟨x,hx,_⟩;simp at hx
 | cons x l ih=>
   rintro⟨y,hy,he⟩;obtain⟨q,o⟩:=x;simp only[zxu]
   by_cases Ar: ∃z∈l,z.1=k
   ·exact ih Ar
   ·have Bs: ∀z∈l,z.1≠k:=fun z hz e=>Ar ⟨z,hz,e⟩
    rw[zaK Bs,zaK Bs];rcases List.mem_cons.1 hy with rfl | hy
    ·simp only at he;subst he;simp
    ·exact absurd he (Bs y hy)
theorem zjR {h:Nat->Option O} {l m:List (Nat×O)} (hd: ∀x∈l,∀y∈m,x.1≠y.1):zxu (zxu h l) m=zxu (zxu h m) l:=by
 funext k
 by_cases hl: ∃x∈l,x.1=k
 ·obtain⟨x,hx,rfl⟩:=hl;rw[zaK (l:=m) (fun y hy e=>hd x hx y hy e.symm)];exact zfW ⟨x,hx,rfl⟩
 ·have Bs: ∀x∈l,x.1≠k:=fun x hx e=>hl ⟨x,hx,e⟩
  rw[zaK (l:=l) (h:=zxu h m) Bs]
  by_cases hm: ∃y∈m,y.1=k
  ·exact zfW hm
  ·have Kk: ∀y∈m,y.1≠k:=fun y hy e=>hm ⟨y,hy,e⟩
   rw[zaK Kk,zaK Kk,zaK Bs]
theorem zyC {α:Type} {f:Nat->α} {i j:Nat} {a b:α} (h:i≠j):upd (upd f i a) j b=upd (upd f j b) i a:=by
 funext k
 simp only[upd]
 by_cases h1:k=i
 ·subst h1;simp[h]
 ·by_cases h2:k=j
  ·subst h2;simp[h1]
  ·simp[h1,h2]
theorem zci {d1 d2:Option Nat} {e1 e2:Eff} (hd: ∀x,d1=some x->d2≠some x) (hw:e1.wloc=none\/e2.wloc=none) (h1: ∀b cs,e1.wloc=some (b,cs)->d2≠some b) (h2: ∀b cs,e2.wloc=some (b,cs)->d1≠some b)
 (hh: ∀x∈e1.hp,∀y∈e2.hp,x.1≠y.1):(s.apply d1 e1).apply d2 e2=(s.apply d2 e2).apply d1 e1:=by
 have BY:((s.apply d1 e1).apply d2 e2).env=((s.apply d2 e2).apply d1 e1).env:=by
  cases d1<;>cases d2<;>simp only[St.apply]
  rename_i a b;exact zyC (fun h=>hd a rfl (by rw[h]))
 have C3:((s.apply d1 e1).apply d2 e2).adr=((s.apply d2 e2).apply d1 e1).adr:=by
  cases d1<;>cases d2<;>simp only[St.apply]
  rename_i a b;exact zyC (fun h=>hd a rfl (by rw[h]))
 have Jl:((s.apply d1 e1).apply d2 e2).used=((s.apply d2 e2).apply d1 e1).used:=by
  simp only[St.apply];cases e1.adr<;>cases e2.adr<;>simp only
  funext k
  simp only[upd];split<;>split<;>rfl
 have Lz:((s.apply d1 e1).apply d2 e2).heap=((s.apply d2 e2).apply d1 e1).heap:=zjR hh
 have Lq:((s.apply d1 e1).apply d2 e2).loc=((s.apply d2 e2).apply d1 e1).loc:=by
  simp only[St.apply];rcases hw with hw | hw
  ·cases C4:e2.wloc with
   | none=>
     simp only[hw];cases d1<;>cases d2<;>simp only
     rename_i a b
     exact zyC (fun h=>hd a rfl (by rw[h]))
   | some bc=>
     obtain⟨b,cs⟩:=bc;simp only[hw];have hb:=h2 b cs C4
     cases d1 with
     | none=>rfl
     | some a=>
       have DV:a≠b:=fun h=>hb (by rw[h])
       cases d2 with
       | none=>simp only;exact zyC DV
       | some c=>
         simp only;rw[zyC (f:=s.loc) DV];exact zyC (fun h=>hd a rfl (by rw[h]))
  ·cases Cq:e1.wloc with
   | none=>
     simp only[hw];cases d1<;>cases d2<;>simp only
     rename_i a b
     exact zyC (fun h=>hd a rfl (by rw[h]))
   | some bc=>
     obtain⟨b,cs⟩:=bc;simp only[hw];have hb:=h1 b cs Cq
     cases d2 with
     | none=>rfl
     | some c=>
       have C6:c≠b:=fun h=>hb (by rw[h])
       cases d1 with
       | none=>simp only;exact(zyC C6).symm
       | some a=>
         simp only;rw[zyC (f:=s.loc) C6];exact zyC (fun h=>hd a rfl (by rw[h]))
 have hn:((s.apply d1 e1).apply d2 e2).nxt=((s.apply d2 e2).apply d1 e1).nxt:=rfl;have hb:((s.apply d1 e1).apply d2 e2).bas=((s.apply d2 e2).apply d1 e1).bas:=rfl
 generalize(s.apply d1 e1).apply d2 e2=A at *
 generalize(s.apply d2 e2).apply d1 e1=B at *
 cases A;cases B
 simp_all
def zm3 (a b:ROp):Bool:=
 (match a.dst with | some d=> !b.reads.contains d&&b.dst != some d | none=>true)&&
 (match b.dst with | some d=> !a.reads.contains d | none=>true)&&
 !(a.op.wrH&&b.op.rdH)&& !(b.op.wrH&&a.op.rdH)&& !(a.op.wrL&&(b.op.rdL||b.op.mkL))&& !(b.op.wrL&&(a.op.rdL||a.op.mkL))&&
 !a.op.isRaw&& !b.op.isRaw&&a.op.opds.all Opd.plain&&b.op.opds.all Opd.plain
structure Indep (a b:ROp):Prop where
 d1: ∀t∈b.reads,a.dst≠some t
 d12: ∀x,a.dst=some x->b.dst≠some x
 d2: ∀t∈a.reads,b.dst≠some t
 h1:a.op.wrH=true->b.op.rdH=false
 h2:b.op.wrH=true->a.op.rdH=false
 l1:a.op.wrL=true->b.op.rdL=false/\b.op.mkL=false
 l2:b.op.wrL=true->a.op.rdL=false/\a.op.mkL=false
 r1:a.op.isRaw=false
 r2:b.op.isRaw=false
 p1: ∀y∈a.op.opds,y.plain=true
 p2: ∀y∈b.op.opds,y.plain=true
theorem zBQ {a b:ROp} (h:zm3 a b=true):Indep a b:=by
 simp only[zm3,zF,Bool.not_eq_true',Bool.and_eq_false_iff,zN]at h;obtain⟨⟨⟨⟨⟨⟨⟨⟨⟨a1,a2⟩,a3⟩,a4⟩,a5⟩,a6⟩,a7⟩,a8⟩,a9⟩,a10⟩:=h;refine⟨?_,?_,?_,?_,?_,?_,?_,a7,a8,a9,a10⟩
 ·intro t ht hd;rw[hd]at a1;simp at a1;exact a1.1 ht
 ·intro x hx hd;rw[hx]at a1;simp[hd]at a1
 ·intro t ht hd;rw[hd]at a2;simp at a2;exact a2 ht
 ·intro hw;rcases a3 with h | h
  ·rw[hw]at h;simp at h
  ·exact h
 ·intro hw;rcases a4 with h | h
  ·rw[hw]at h;simp at h
  ·exact h
 ·intro hw;rcases a5 with h | h
  ·rw[hw]at h;simp at h
  ·simpa using h
 ·intro hw;rcases a6 with h | h
  ·rw[hw]at h;simp at h
  ·simpa using h
theorem zn2 {op:AOp} (h:op.rdH=false):op.wrH=false:=by cases op<;>simp_all [AOp.rdH,AOp.wrH]
theorem zCU {op:AOp} (h:op.rdL=false):op.wrL=false:=by cases op<;>simp_all [AOp.rdL,AOp.wrL]
theorem DStep.shape {p:Nat} {x:ROp} {e:Eff} (h:DStep P N p x s e):
 (x.op.wrL=false->e.wloc=none)/\(x.op.wrH=false-> ∀y∈e.hp,y.1=s.bas+p)/\(∀y∈e.hp,y.1=s.bas+p\/(s.heap y.1).isSome=true)/\
 (∀b cs,e.wloc=some (b,cs)-> ∃y∈x.op.opds,∃o,zyS s y=some (b,o))/\(∀b o,e.adr=some (b,o)-> ∃y∈x.op.opds,∃o,zyS s y=some (b,o)):=by
 cases h with
 | skip hw=>exact⟨fun _=>rfl,fun _=>by simp,by simp,by simp,by simp⟩
 | eff hw he=>exact⟨zh2 he,zrI he,zlp he,fun b cs hb=>zmp he hb,fun b o hb=>zmq he hb⟩
 | pure hw ho An Au Am Aq AA hc hd=>exact⟨fun _=>rfl,fun _=>by simp,by simp,by simp,by simp⟩
 | fresh hw ho An Au Am Aq AA hd hc he=>
   obtain⟨h1,h2,h3⟩:=zy3 he;exact⟨fun _=>h3,fun _=>zAM he,fun y hy=> .inl (zAM he y hy),fun b cs hb=>by rw[h3]at hb;simp at hb,fun b o hb=>by rw[h1]at hb;simp at hb⟩
theorem zd7 (hz:Rz N ns s) {y:Opd} {b o d:Nat} (h:zyS s y=some (b,o)) (hs:d∉ y.slots) (hu:s.used d=false):b≠d:=by
 cases y with
 | s t=>
   simp only[zyS]at h;split at h
   ·rename_i q hq;simp only[zA]at h;subst h;rintro rfl;have:=hz.adr hq;rw[hu]at this;simp at this
   ·split at h<;>first | (simp at h;done) | skip
    simp only[zA,Prod.mk.injEq]at h;obtain⟨rfl,_⟩:=h;rintro rfl
    simp[Opd.slots]at hs
 | c v=>simp[zyS]at h
 | g q=>simp[zyS]at h
theorem swap (hz:Rz N ns s) {pj pi:Nat} {j i:ROp} {ej ei:Eff} (At:Indep j i) (NK:pj≠pi) (fj:s.heap (s.bas+pj)=none) (fi:s.heap (s.bas+pi)=none)
 (hj:DStep P N pj j s ej) (CL:s.free j.dst ej) (hi:DStep P N pi i (s.apply j.dst ej) ei) (BJ:(s.apply j.dst ej).free i.dst ei):
 DStep P N pi i s ei/\s.free i.dst ei/\DStep P N pj j (s.apply i.dst ei) ej/\(s.apply i.dst ei).free j.dst ej/\(s.apply j.dst ej).apply i.dst ei=(s.apply i.dst ei).apply j.dst ej:=by
 obtain⟨sj1,sj2,sj3,sj4,sj5⟩:=hj.shape
 have KF:i.op.rdH=true-> ∀k o,s.heap k=some o->(s.apply j.dst ej).heap k=some o:=by
  intro hr k o hk
  have Ll:j.op.wrH=false:=by
   cases hw:j.op.wrH with
   | false=>rfl
   | true=>have:=At.h1 hw;rw[hr]at this;simp at this
  show zxu s.heap ej.hp k=some o;rw[zaK,hk];intro x hx e;have:=sj2 Ll x hx;rw[e]at this;rw[this,fj]at hk;simp at hk
 have J0:i.op.rdL=true->ej.wloc=none:=by
  intro hr;refine sj1 ?_
  cases hw:j.op.wrL with
  | false=>rfl
  | true=>have:=(At.l1 hw).1;rw[hr]at this;simp at this
 have AN:DStep P N pi i s ei:=(DStep.transfer hz At.p2 At.d1 (fun d' hd=>(CL d' hd).1) J0 KF).2 hi
 have DN:s.free i.dst ei:=by
  intro d hd;obtain⟨h1,h2⟩:=BJ d hd;refine⟨?_,h2⟩
  cases hu:s.used d with
  | false=>rfl
  | true=>have:=zcd (d:=j.dst) (e:=ej) hu;rw[h1]at this;simp at this
 obtain⟨si1,si2,si3,si4,si5⟩:=AN.shape
 have Gg:j.op.rdH=true-> ∀k o,s.heap k=some o->(s.apply i.dst ei).heap k=some o:=by
  intro hr k o hk
  have CJ:i.op.wrH=false:=by
   cases hw:i.op.wrH with
   | false=>rfl
   | true=>have:=At.h2 hw;rw[hr]at this;simp at this
  show zxu s.heap ei.hp k=some o;rw[zaK,hk];intro x hx e;have:=si2 CJ x hx;rw[e]at this;rw[this,fi]at hk;simp at hk
 have P0:j.op.rdL=true->ei.wloc=none:=by
  intro hr;refine si1 ?_
  cases hw:i.op.wrL with
  | false=>rfl
  | true=>have:=(At.l2 hw).1;rw[hr]at this;simp at this
 have Dz:DStep P N pj j (s.apply i.dst ei) ej:=(DStep.transfer hz At.p1 At.d2 (fun d' hd=>(DN d' hd).1) P0 Gg).1 hj;have BU: ∀{x:ROp} {y:Opd},y∈x.op.opds-> ∀t∈y.slots,t∈x.reads:=fun hy t ht=>List.mem_append_left _ (List.mem_flatMap.2 ⟨_,hy,ht⟩)
 have Gf:(s.apply i.dst ei).free j.dst ej:=by
  intro d hd;obtain⟨h1,h2⟩:=CL d hd;refine⟨?_,h2⟩;simp only[St.apply]
  cases ha:ei.adr with
  | none=>exact h1
  | some bo=>
    obtain⟨b,o⟩:=bo;obtain⟨y,hy,o',hr⟩:=si5 b o ha;have hb:b≠d:=zd7 hz hr (fun Ar=>At.d1 d (BU hy d Ar) hd) h1;simp only[zaa _ _ (Ne.symm hb)];exact h1
 refine⟨AN,DN,Dz,Gf,zci At.d12 ?_ ?_ ?_ ?_⟩
 ·cases hw:j.op.wrL with
  | false=>exact .inl (sj1 hw)
  | true=>exact .inr (si1 (zCU (At.l1 hw).1))
 ·intro b cs hb hd;obtain⟨y,hy,o',hr⟩:=sj4 b cs hb;exact zd7 hz hr (fun Ar=>At.d2 b (BU hy b Ar) hd) (DN b hd).1 rfl
 ·intro b cs hb hd;obtain⟨y,hy,o',hr⟩:=si4 b cs hb;exact zd7 hz hr (fun Ar=>At.d1 b (BU hy b Ar) hd) (CL b hd).1 rfl
 ·intro x hx y hy e;have A8:s.bas+pj≠s.bas+pi:=by omega
  by_cases Ll:j.op.wrH=true
  ·have CJ:=zn2 (At.h1 Ll);have e2:=si2 CJ y hy;rcases sj3 x hx with h1 | h1
   ·exact A8 (by rw[<- h1,<- e2,e])
   ·rw[e,e2,fi]at h1;simp at h1
  ·have e1:=sj2 (by simpa using Ll) x hx;rcases si3 y hy with h1 | h1
   ·exact A8 (by rw[<- e1,<- h1,e])
   ·rw[<- e,e1,fj]at h1;simp at h1
def AOp.isApp:AOp->Bool
 | .append _ _ _ _=>true
 | _=>false
theorem zyH {op:AOp} (h:op.looks=true):op.wrH=false/\op.wrL=false/\op.isRaw=false/\op.rdL=false:=by
 cases op<;>simp_all [AOp.looks,AOp.wrH,AOp.wrL,AOp.isRaw,AOp.rdL]
theorem zfa {G:Nat->List T} {y:Opd} {n:Int} {v:V} (h:zb7 G s y=some n) (hv:evl G s y=some v):v.top=[]:=by
 unfold zb7 at h;rw[hv]at h;split at h
 ·rename_i EK;cases EK;rfl
 ·cases h
theorem zBO {op:AOp} {p:Nat} {G:Nat->List T} {e:Eff} (hl:op.looks=true) (he:zw4 G p s op=some e):
 ∀y∈op.opds,∀v,evl G s y=some v-> ∀k∈v.top,s.heap k≠some .dead:=by
 intro y hy v hv k hk hd;cases op<;>simp only[AOp.looks,zG]at hl
 ·simp only[AOp.opds,List.mem_singleton]at hy;subst hy;simp only[zw4,hv,zC,zD]at he;cases v<;>simp[V.top]at hk<;>subst hk<;>simp[hd]at he
 ·simp only[AOp.opds,List.mem_singleton]at hy;subst hy;simp only[zw4,hv,zC,zD]at he;cases v<;>simp[V.top]at hk<;>subst hk<;>simp[hd]at he
 ·rename_i sz x lo hi mx;simp only[AOp.opds,List.mem_cons,List.mem_append,Option.mem_toList]at hy;simp only[zw4,zC,zB]at he;obtain⟨u,hu,n,hn,h,hh,l,Fd,he⟩:=he
  have Ao: ∀{q:Opd} {d:Nat} {z:Option Opd} {m:Int},z=some q->zb6 G s d z=some m->evl G s q=some v->v.top=[]:=by
   intro q d z m hz hm hq;subst hz;exact zfa hm hq
  rcases hy with rfl | (hy | hy) | hy
  ·obtain rfl:=Option.some.inj (hu.symm.trans hv);cases u<;>simp[V.top]at hk<;>subst hk<;>simp[lenOf,hd]at hn
  ·rw[Ao hy Fd hv]at hk;simp at hk
  ·rw[Ao hy hh hv]at hk;simp at hk
  ·subst hy;simp only[zB]at he;obtain⟨m,hm,_⟩:=he;rw[zfa hm hv]at hk;simp at hk
 ·simp only[AOp.opds,List.mem_singleton]at hy;subst hy;simp only[zw4,hv,zC,zD]at he;cases v<;>simp[V.top]at hk<;>subst hk<;>simp[hd]at he
 ·rename_i sz x i;simp only[AOp.opds,List.mem_cons,List.not_mem_nil,or_false]at hy;simp only[zw4,zC,zB]at he;obtain⟨n,hn,u,hu,he⟩:=he;rcases hy with rfl | rfl
  ·obtain rfl:=Option.some.inj (hu.symm.trans hv);cases u<;>simp[V.top]at hk<;>subst hk<;>simp[hd]at he
  ·rw[zfa hn hv]at hk;simp at hk
 ·simp only[AOp.opds,List.mem_singleton]at hy;subst hy;simp only[zw4,hv,zC,zD,zB]at he;obtain⟨n,hn,_⟩:=he;cases v<;>simp[V.top]at hk<;>subst hk<;>simp[lenOf,hd]at hn
def zi8 (a b:ROp):Bool:=
 (match a.dst with | some d=> !b.reads.contains d&&b.dst != some d | none=>true)&&
 (match b.dst with | some d=> !a.reads.contains d | none=>true)&&a.op.isApp&&b.op.looks&&a.op.opds.all Opd.plain&&b.op.opds.all Opd.plain
structure IndepX (a b:ROp):Prop where
 d1: ∀t∈b.reads,a.dst≠some t
 d12: ∀x,a.dst=some x->b.dst≠some x
 d2: ∀t∈a.reads,b.dst≠some t
 ap:a.op.isApp=true
 lk:b.op.looks=true
 p1: ∀y∈a.op.opds,y.plain=true
 p2: ∀y∈b.op.opds,y.plain=true
theorem zBp {a b:ROp} (h:zi8 a b=true):IndepX a b:=by
 simp only[zi8,zF,zN]at h;obtain⟨⟨⟨⟨⟨a1,a2⟩,a3⟩,a4⟩,a5⟩,a6⟩:=h;refine⟨?_,?_,?_,a3,a4,a5,a6⟩
 ·intro t ht hd;rw[hd]at a1;simp at a1;exact a1.1 ht
 ·intro x hx hd;rw[hx]at a1;simp[hd]at a1
 ·intro t ht hd;rw[hd]at a2;simp at a2;exact a2 ht
theorem zCS {op:AOp} (h:op.isApp=true):op.wrL=false/\op.rdL=false/\op.isRaw=false:=by
 cases op<;>simp_all [AOp.isApp,AOp.wrL,AOp.rdL,AOp.isRaw]
theorem znz {op:AOp} {p:Nat} {G:Nat->List T} {e:Eff} (hl:op.isApp=true) (he:zw4 G p s op=some e):
 ∀k,k≠s.bas+p->zxu s.heap e.hp k=s.heap k\/zxu s.heap e.hp k=some .dead:=by
 intro k hk;cases op<;>simp only[AOp.isApp,zG]at hl
 simp only[zw4,zC,zB]at he;obtain⟨u,hu,v,hv,a,ha,b,hb,he⟩:=he;split at he
 ·split at he
  ·cases he;exact .inl rfl
  ·split at he
   ·cases he;left;simp only[zxu];exact zaa _ _ hk
   ·simp only[zB,zA]at he;obtain⟨ts,_,rfl⟩:=he;exact .inl rfl
   ·split at he
    ·split at he
     ·cases he;simp only[zxu];rw[zaa _ _ hk];unfold upd;split
      ·exact .inr rfl
      ·exact .inl rfl
     ·cases he
    ·cases he
   ·cases he
 ·cases he
theorem zrF (hz:Rz N ns s) {pj pi:Nat} {j i:ROp} {ej ei:Eff} (At:IndepX j i) (NK:pj≠pi) (fj:s.heap (s.bas+pj)=none) (fi:s.heap (s.bas+pi)=none)
 (hj:DStep P N pj j s ej) (CL:s.free j.dst ej) (hi:DStep P N pi i (s.apply j.dst ej) ei) (BJ:(s.apply j.dst ej).free i.dst ei):
 DStep P N pi i s ei/\s.free i.dst ei/\DStep P N pj j (s.apply i.dst ei) ej/\(s.apply i.dst ei).free j.dst ej/\(s.apply j.dst ej).apply i.dst ei=(s.apply i.dst ei).apply j.dst ej:=by
 obtain⟨iwH,iwL,iraw,irL⟩:=zyH At.lk;obtain⟨jwL,jrL,jraw⟩:=zCS At.ap;obtain⟨sj1,sj2,sj3,sj4,sj5⟩:=hj.shape;have Jr:ej.wloc=none:=sj1 jwL
 have Pa: ∀k,k≠s.bas+pj->(s.apply j.dst ej).heap k=s.heap k\/(s.apply j.dst ej).heap k=some .dead:=by
  intro k hk
  cases hj with
  | skip hw=>exact .inl rfl
  | eff hw he=>exact znz At.ap he k hk
  | pure hw ho=>exact .inl rfl
  | fresh hw ho=>have:=At.ap;rw[ho]at this;cases this
 have BY: ∀t∈i.reads,(s.apply j.dst ej).env t=s.env t:=by
  intro t ht;have hd:=At.d1 t ht
  cases MJ:j.dst with
  | none=>rfl
  | some d'=>rw[MJ]at hd;simp only[St.apply];exact zaa _ _ (fun h=>hd (by rw[h]))
 have Ao: ∀y∈i.op.opds,evl N.G (s.apply j.dst ej) y=evl N.G s y:=by
  intro y hy
  cases y with
  | s t=>simp only[evl,BY t (List.mem_append_left _ (List.mem_flatMap.2 ⟨_,hy,by simp[Opd.slots]⟩))]
  | c v=>rfl
  | g q=>rfl
 have DM:DStep P N pi i (s.apply j.dst { ej with hp:=[] }) ei:=by
  cases hi with
  | skip hw=>exact .skip hw
  | eff hw he=>
    refine .eff hw ?_;rw[<- he];refine(zzd (s:=s.apply j.dst ej) (u:=s.apply j.dst { ej with hp:=[] }) (fun x _=>by cases x<;>rfl) (fun x _=>by cases x<;>rfl) (fun hr=>by rw[irL]at hr;cases hr) (fun _ x hx v hv k hk=> ?_) rfl).symm;obtain⟨o,ho⟩:=hz.top (At.p2 x hx) (by rw[<- Ao x hx];exact hv) k hk;have DH:k≠s.bas+pj:=by rintro rfl;rw[fj]at ho;cases ho
    rcases Pa k DH with h | h
    ·exact h
    ·exact absurd h (zBO At.lk he x hx v hv k hk)
  | pure hw ho=>have:=At.lk;rw[ho]at this;cases this
  | fresh hw ho=>have:=At.lk;rw[ho]at this;cases this
 have AN:DStep P N pi i s ei:=(DStep.transfer (e':= { ej with hp:=[] }) hz At.p2 At.d1 (fun d' hd=>(CL d' hd).1) (fun _=>Jr) (fun _ k o hk=>hk)).2 DM
 have DN:s.free i.dst ei:=by
  intro d hd;obtain⟨h1,h2⟩:=BJ d hd;refine⟨?_,h2⟩
  cases hu:s.used d with
  | false=>rfl
  | true=>have:=zcd (d:=j.dst) (e:=ej) hu;rw[h1]at this;simp at this
 obtain⟨si1,si2,si3,si4,si5⟩:=AN.shape
 have Gg:j.op.rdH=true-> ∀k o,s.heap k=some o->(s.apply i.dst ei).heap k=some o:=by
  intro hr k o hk;show zxu s.heap ei.hp k=some o;rw[zaK,hk];intro x hx e;have:=si2 iwH x hx;rw[e]at this;rw[this,fi]at hk;simp at hk
 have Dz:DStep P N pj j (s.apply i.dst ei) ej:=(DStep.transfer hz At.p1 At.d2 (fun d' hd=>(DN d' hd).1) (fun _=>si1 iwL) Gg).1 hj;have BU: ∀{x:ROp} {y:Opd},y∈x.op.opds-> ∀t∈y.slots,t∈x.reads:=fun hy t ht=>List.mem_append_left _ (List.mem_flatMap.2 ⟨_,hy,ht⟩)
 have Gf:(s.apply i.dst ei).free j.dst ej:=by
  intro d hd;obtain⟨h1,h2⟩:=CL d hd;refine⟨?_,h2⟩;simp only[St.apply]
  cases ha:ei.adr with
  | none=>exact h1
  | some bo=>
    obtain⟨b,o⟩:=bo;obtain⟨y,hy,o',hr⟩:=si5 b o ha;have hb:b≠d:=zd7 hz hr (fun Ar=>At.d1 d (BU hy d Ar) hd) h1;simp only[zaa _ _ (Ne.symm hb)];exact h1
 refine⟨AN,DN,Dz,Gf,zci At.d12 (.inl Jr) (fun b cs hb=>by rw[Jr]at hb;cases hb) (fun b cs hb=>by rw[si1 iwL]at hb;cases hb) ?_⟩;intro x hx y hy e;have A8:s.bas+pj≠s.bas+pi:=by omega
 have e2:=si2 iwH y hy;rcases sj3 x hx with h1 | h1
 ·exact A8 (by rw[<- h1,<- e2,e])
 ·rw[e,e2,fi]at h1;simp at h1
def AOp.still:AOp->Bool
 | .mv _ | .faddrL _ _ | .loadL _ _ _ | .allocL _=>true
 | _=>false
def zfV (a b:ROp):Bool:=
 (match a.dst with | some d=> !b.reads.contains d&&b.dst != some d | none=>true)&&
 (match b.dst with | some d=> !a.reads.contains d | none=>true)&&a.op.still&&b.op.isRaw&&a.op.opds.all Opd.plain
structure IndepR (a b:ROp):Prop where
 d1: ∀t∈b.reads,a.dst≠some t
 d12: ∀x,a.dst=some x->b.dst≠some x
 d2: ∀t∈a.reads,b.dst≠some t
 st:a.op.still=true
 rw:b.op.isRaw=true
 p1: ∀y∈a.op.opds,y.plain=true
theorem zAe {a b:ROp} (h:zfV a b=true):IndepR a b:=by
 simp only[zfV,zF,zN]at h;obtain⟨⟨⟨⟨a1,a2⟩,a3⟩,a4⟩,a5⟩:=h;refine⟨?_,?_,?_,a3,a4,a5⟩
 ·intro t ht hd;rw[hd]at a1;simp at a1;exact a1.1 ht
 ·intro x hx hd;rw[hx]at a1;simp[hd]at a1
 ·intro t ht hd;rw[hd]at a2;simp at a2;exact a2 ht
theorem zAJ {op:AOp} (h:op.still=true):op.rdH=false/\op.wrH=false/\op.wrL=false/\op.isRaw=false:=by
 cases op<;>simp_all [AOp.still,AOp.rdH,AOp.wrH,AOp.wrL,AOp.isRaw]
theorem zgX {op:AOp} {e:Eff} {p:Nat} {G:Nat->List T} (h:op.still=true) (he:zw4 G p s op=some e):e.hp=[]/\e.wloc=none:=by
 cases op<;>simp only[AOp.still,zG]at h
 all_goals simp only[zw4,zC,zB,zA,Prod.exists]at he
 ·obtain⟨_,_,rfl⟩:=he;exact⟨rfl,rfl⟩
 ·subst he;exact⟨rfl,rfl⟩
 ·obtain⟨_,_,_,_,_,_,_,_,_,rfl⟩:=he;exact⟨rfl,rfl⟩
 ·obtain⟨_,_,_,_,_,_,_,_,rfl⟩:=he;exact⟨rfl,rfl⟩
theorem zfz {op:AOp} {p:Nat} {G:Nat->List T} {H:Nat->Option O} {n:Nat} (h:op.still=true):zw4 G p { s with heap:=H,nxt:=n } op=zw4 G p s op:=by
 refine(zzd (s:=s) (u:={ s with heap:=H,nxt:=n }) (G:=G) (p:=p) (op:=op) (fun x _=> ?_) (fun x _=> ?_) (fun _ _ _ _ _ _=>rfl) (fun hr=> ?_) rfl).symm
 ·cases x<;>rfl
 ·cases x<;>rfl
 ·rw[(zAJ h).1]at hr;cases hr
theorem zrG (hz:Rz N ns s) {pj pi:Nat} {j i:ROp} {s1 s2:St} (At:IndepR j i) (h1:StepG P N true pj j s s1) (h2:StepG P N true pi i s1 s2):
 ∃t,StepG P N true pi i s t/\StepG P N true pj j t s2:=by
 obtain⟨sr,swH,swL,snr⟩:=zAJ At.st;obtain⟨ej,H7,CL,rfl⟩:=h1.toD snr
 have GX:ej.hp=[]/\ej.wloc=none:=by
  cases H7 with
  | skip hw=>exact⟨rfl,rfl⟩
  | eff hw he=>exact zgX At.st he
  | pure hw ho=>exact⟨rfl,rfl⟩
  | fresh hw ho=>have:=At.st;rw[ho]at this;cases this
 obtain⟨ehp,ewl⟩:=GX;have Ap:(s.apply j.dst ej).heap=s.heap:=by simp only[St.apply,ehp,zxu]
 have BY: ∀t∈i.reads,(s.apply j.dst ej).env t=s.env t:=by
  intro t ht;have hd:=At.d1 t ht
  cases MJ:j.dst with
  | none=>rfl
  | some d'=>rw[MJ]at hd;simp only[St.apply];exact zaa _ _ (fun h=>hd (by rw[h]))
 have Ao: ∀y∈i.op.opds,evl N.G (s.apply j.dst ej) y=evl N.G s y:=by
  intro y hy
  cases y with
  | s t=>simp only[evl,BY t (List.mem_append_left _ (List.mem_flatMap.2 ⟨_,hy,by simp[Opd.slots]⟩))]
  | c v=>rfl
  | g q=>rfl
 have Eh:zxW (s.apply j.dst ej) i.guard=zxW s i.guard:=by
  cases hg:i.guard with
  | none=>rfl
  | some gw=>
    obtain⟨g,w⟩:=gw;have:g∈i.reads:=by unfold ROp.reads;rw[hg];simp
    simp only[zxW,BY g this]
 have AI: ∀{e:Eff},(s.apply j.dst ej).free i.dst e->s.free i.dst e:=by
  intro e hf d hd;obtain⟨h1,h2⟩:=hf d hd;refine⟨?_,h2⟩
  cases hu:s.used d with
  | false=>rfl
  | true=>have:=zcd (d:=j.dst) (e:=ej) hu;rw[h1]at this;simp at this
 -- what is left to do when the call Da been made
 have fin: ∀(H':Nat->Option O) (n':Nat) (r:V),s.free i.dst {}->StepG P N true pj j ({ s with heap:=H',nxt:=n' }.apply i.dst { val:=r }) (({ s.apply j.dst ej with heap:=H',nxt:=n' }:St).apply i.dst { val:=r }):=by
  intro H' n' r BJ;have AB:({ s with heap:=H',nxt:=n' }:St).apply i.dst { val:=r }= { s.apply i.dst { val:=r }with heap:=H',nxt:=n' }:=rfl
  have Dz:DStep P N pj j (s.apply i.dst { val:=r }) ej:=
   (DStep.transfer hz At.p1 At.d2 (fun d' hd=>(BJ d' hd).1) (fun _=>rfl) (fun hr=>by rw[sr]at hr;cases hr)).1 H7
  have Hy:DStep P N pj j ({ s with heap:=H',nxt:=n' }.apply i.dst { val:=r }) ej:=by
   rw[AB]
   cases Dz with
   | skip hw=>exact .skip hw
   | eff hw he=>exact .eff hw (by rw[zfz At.st];exact he)
   | pure hw ho=>have:=At.st;rw[ho]at this;cases this
   | fresh hw ho=>have:=At.st;rw[ho]at this;cases this
  have MU:(({ s with heap:=H',nxt:=n' }:St).apply i.dst { val:=r }).free j.dst ej:=CL;have:=Hy.toG MU
  have e1:({ s.apply j.dst ej with heap:=H',nxt:=n' }:St)=({ s with heap:=H',nxt:=n' }:St).apply j.dst ej:=by
   simp only[St.apply,ehp,zxu]
  rw[e1,zci (s:={ s with heap:=H',nxt:=n' }) At.d12 (.inl ewl) (fun b cs hb=>by rw[ewl]at hb;cases hb) (fun b cs hb=>by cases hb) (by rw[ehp];simp)];exact this
 cases h2 with
 | skip hw hf=>
   refine⟨_,.skip (by rw[<- Eh];exact hw) (AI hf),?_⟩;have:=fin s.heap s.nxt .undef (AI hf)
   have e1:({ s.apply j.dst ej with heap:=s.heap,nxt:=s.nxt }:St)=s.apply j.dst ej:=by
    simp only[St.apply,ehp,zxu]
   rw[e1]at this
   exact this
 | eff hw hf he=>have:=At.rw;revert he;cases Ik:i.op<;>rw[Ik]at this<;>simp[AOp.isRaw]at this<;>simp[zw4]
 | pure hw hf ho=>have:=At.rw;rw[ho]at this;simp[AOp.isRaw]at this
 | fresh hw hf ho=>have:=At.rw;rw[ho]at this;simp[AOp.isRaw]at this
 | raw hw hf ho An Au Am Aq hc hn AE=>
   rename_i f args fv g a b vs r rf H' n';have Aj: ∀y,y∈f::args->evl N.G (s.apply j.dst ej) y=evl N.G s y:=fun y hy=>Ao y (by rw[ho];exact hy)
   rw[Aj f (by simp)]at An;rw[zaY (fun x hx=>Aj x (by simp[hx]))]at Aq;rw[Ap]at hc AE
   exact⟨_,.raw (by rw[<- Eh];exact hw) (AI hf) ho An Au Am Aq hc hn AE,fin H' n' r (AI hf)⟩
 | yld hw hf ho An hk Aq Ac Bd Ba C6 AX AE=>
   rename_i f args k vs env env1 env' ps ps1 ps' ca cb bd1 bd' e t1 t2;have Aj: ∀y,y∈f::args->evl N.G (s.apply j.dst ej) y=evl N.G s y:=fun y hy=>Ao y (by rw[ho];exact hy)
   rw[Aj f (by simp)]at An;rw[zaY (fun x hx=>Aj x (by simp[hx]))]at Aq;rw[Ap]at hk Bd AE;exact⟨_,.yld (by rw[<- Eh];exact hw) (AI hf) ho An hk Aq Ac Bd Ba C6 AX AE,fin _ _ _ (AI hf)⟩
end
end Rg
end
section
namespace Rg
open Go
def AOp.writes:AOp->Bool
 | .store _ _ _ | .append _ _ _ _=>true
 | _=>false
theorem zyu {op:AOp} (h:op.writes=true):op.wrL=false/\op.rdL=false/\op.isRaw=false/\isCall op=false:=by
 cases op<;>simp_all [AOp.writes,AOp.wrL,AOp.rdL,AOp.isRaw,isCall]
theorem zfR {op:AOp} (h:op.looks=true):isCall op=false:=by
 cases op<;>simp_all [AOp.looks,isCall]
theorem zBt {op:AOp}: ∀y∈op.wopd,y∈op.opds:=by
 cases op<;>simp[AOp.wopd,AOp.opds]
section
variable {P:Program} {N:Nam} {s u:St}
theorem ziu {G:Nat->List T} {x:Opd} (h: ∀t∈x.slots,s.env t=u.env t):evl G s x=evl G u x:=by
 cases x with
 | s t=>simp only[evl,h t (by simp[Opd.slots])]
 | c v=>rfl
 | g q=>rfl
theorem wkey {op:AOp} {p:Nat} {G:Nat->List T} {e:Eff} (hl:op.writes=true) (he:zw4 G p s op=some e):
 ∀x∈e.hp,x.1=s.bas+p\/ ∃y∈op.wopd,∃v,evl G s y=some v/\x.1∈v.top:=by
 intro x hx;cases op<;>simp only[AOp.writes,zG]at hl
 ·simp only[zw4,zC,zB]at he;obtain⟨u,hu,he⟩:=he;split at he
  ·split at he
   ·simp only[zB]at he;obtain⟨row,_,v,_,new,_,he⟩:=he;split at he
    ·simp only[zB,zA]at he;obtain⟨row',_,rfl⟩:=he;simp only[List.mem_singleton]at hx;subst hx;exact .inr ⟨_,by simp[AOp.wopd],_,hu,by simp[V.top]⟩
    ·cases he
   ·cases he
  ·cases he
 ·simp only[zw4,zC,zB]at he;obtain⟨u,hu,v,hv,a,ha,b,hb,he⟩:=he;split at he
  ·split at he
   ·cases he;cases hx
   ·split at he
    ·cases he;simp only[List.mem_cons,List.not_mem_nil,or_false]at hx;subst hx;exact .inl rfl
    ·simp only[zB,zA]at he;obtain⟨ts,_,rfl⟩:=he;cases hx
    ·split at he
     ·split at he
      ·cases he;simp only[List.mem_cons,List.not_mem_nil,or_false]at hx;rcases hx with rfl | rfl
       ·exact .inr ⟨_,by simp[AOp.wopd],_,hu,by simp[V.top]⟩
       ·exact .inl rfl
      ·cases he
     ·cases he
    ·cases he
  ·cases he
theorem DStep.transferE {p:Nat} {x:ROp} {d:Option Nat} {e' e:Eff} (CT:isCall x.op=false) (AW:x.op.rdL=false) (C8: ∀t∈x.reads,d≠some t)
 (Ap: ∀y∈x.op.opds,∀v,evl N.G s y=some v-> ∀k∈v.top,s.heap k=(s.apply d e').heap k):
 DStep P N p x s e<->DStep P N p x (s.apply d e') e:=by
 have BY: ∀t,d≠some t->(s.apply d e').env t=s.env t:=by
  intro t ht
  cases d with
  | none=>rfl
  | some d'=>simp only[St.apply];exact zaa _ _ (fun h=>ht (by rw[h]))
 have C3: ∀t,d≠some t->(s.apply d e').adr t=s.adr t:=by
  intro t ht
  cases d with
  | none=>rfl
  | some d'=>simp only[St.apply];exact zaa _ _ (fun h=>ht (by rw[h]))
 have Ao: ∀y∈x.op.opds,∀t∈y.slots,d≠some t:=by
  intro y hy t ht;exact C8 t (List.mem_append_left _ (List.mem_flatMap.2 ⟨y,hy,ht⟩))
 have Aj: ∀y∈x.op.opds,evl N.G s y=evl N.G (s.apply d e') y:=fun y hy=>ziu fun t ht=>(BY t (Ao y hy t ht)).symm
 have B5: ∀y∈x.op.opds,zyS s y=zyS (s.apply d e') y:=by
  intro y hy
  cases y with
  | s t=>simp only[zyS,BY t (Ao _ hy t (by simp[Opd.slots])),C3 t (Ao _ hy t (by simp[Opd.slots]))]
  | c v=>rfl
  | g q=>rfl
 have Bv:zxW s x.guard=zxW (s.apply d e') x.guard:=by
  cases hg:x.guard with
  | none=>rfl
  | some gw=>
    obtain⟨g,wnt⟩:=gw;simp only[zxW,BY g (C8 g (by simp[ROp.reads,hg]))]
 have Gt:zw4 N.G p s x.op=zw4 N.G p (s.apply d e') x.op:=zzd Aj B5 (fun h=>by rw[AW]at h;cases h) (fun _=>Ap) rfl;constructor
 ·intro h
  cases h with
  | skip hw=>exact .skip (Bv▸hw)
  | eff hw he=>exact .eff (Bv▸hw) (Gt▸he)
  | pure hw ho=>rw[ho]at CT;cases CT
  | fresh hw ho=>rw[ho]at CT;cases CT
 ·intro h
  cases h with
  | skip hw=>exact .skip (Bv▸hw)
  | eff hw he=>exact .eff (Bv▸hw) (Gt▸he)
  | pure hw ho=>rw[ho]at CT;cases CT
  | fresh hw ho=>rw[ho]at CT;cases CT
def zlo (a b:ROp):Bool:=
 (match a.dst with | some d=> !b.reads.contains d&&b.dst != some d | none=>true)&&
 (match b.dst with | some d=> !a.reads.contains d | none=>true)&&((a.op.looks&&b.op.writes)||(a.op.writes&&b.op.looks))&&a.op.opds.all Opd.plain&&b.op.opds.all Opd.plain
structure IndepD (a b:ROp):Prop where
 d1: ∀t∈b.reads,a.dst≠some t
 d12: ∀x,a.dst=some x->b.dst≠some x
 d2: ∀t∈a.reads,b.dst≠some t
 lw:(a.op.looks=true/\b.op.writes=true)\/(a.op.writes=true/\b.op.looks=true)
 p1: ∀y∈a.op.opds,y.plain=true
 p2: ∀y∈b.op.opds,y.plain=true
theorem zil {a b:ROp} (h:zlo a b=true):IndepD a b:=by
 simp only[zlo,zF,Bool.or_eq_true,zN]at h;obtain⟨⟨⟨⟨a1,a2⟩,a3⟩,a5⟩,a6⟩:=h;refine⟨?_,?_,?_,a3,a5,a6⟩
 ·intro t ht hd;rw[hd]at a1;simp at a1;exact a1.1 ht
 ·intro x hx hd;rw[hx]at a1;simp[hd]at a1
 ·intro t ht hd;rw[hd]at a2;simp at a2;exact a2 ht
theorem zAa {G:Nat->List T} {l:List Opd} {y:Opd} {v:V} {k:Nat} (hy:y∈l) (hv:evl G s y=some v) (hk:k∈v.top):k∈zAF G s l:=
 List.mem_flatMap.2 ⟨y,hy,by rw[hv];exact hk⟩
theorem DStep.wkey {p:Nat} {x:ROp} {e:Eff} (h:DStep P N p x s e) (hw:x.op.writes=true): ∀z∈e.hp,z.1=s.bas+p\/z.1∈zAF N.G s x.op.wopd:=by
 have CT:=(zyu hw).2.2.2
 cases h with
 | skip hw=>simp
 | eff _ he=>
   intro z hz;rcases Rg.wkey hw he z hz with h | ⟨y,hy,v,hv,hk⟩
   ·exact .inl h
   ·exact .inr (zAa hy hv hk)
 | pure hw ho=>rw[ho]at CT;cases CT
 | fresh hw ho=>rw[ho]at CT;cases CT
theorem zck {G:Nat->List T} {l:List Opd} (h: ∀y∈l,evl G s y=evl G u y):zAF G s l=zAF G u l:=by
 unfold zAF
 induction l with
 | nil=>rfl
 | cons y l ih=>rw[List.flatMap_cons,List.flatMap_cons,h y (by simp),ih fun z hz=>h z (by simp[hz])]
theorem zky {G:Nat->List T} {a b:ROp} (ha: ∀y∈a.op.opds,evl G s y=evl G u y) (hb: ∀y∈b.op.opds,evl G s y=evl G u y):sep G s a b=sep G u a b:=by
 simp only[sep,zck ha,zck hb,zck (fun y hy=>ha y (zBt y hy)),zck (fun y hy=>hb y (zBt y hy))]
theorem zrH {ns:Nat} (hz:Rz N ns s) {pj pi:Nat} {j i:ROp} {ej ei:Eff} (At:IndepD j i) (hs:sep N.G s j i=true) (NK:pj≠pi) (fj:s.heap (s.bas+pj)=none) (fi:s.heap (s.bas+pi)=none)
 (hj:DStep P N pj j s ej) (CL:s.free j.dst ej) (hi:DStep P N pi i (s.apply j.dst ej) ei) (BJ:(s.apply j.dst ej).free i.dst ei):
 DStep P N pi i s ei/\s.free i.dst ei/\DStep P N pj j (s.apply i.dst ei) ej/\(s.apply i.dst ei).free j.dst ej/\(s.apply j.dst ej).apply i.dst ei=(s.apply i.dst ei).apply j.dst ej:=by
 have cj:isCall j.op=false/\j.op.rdL=false/\j.op.wrL=false:=by
  rcases At.lw with⟨h,_⟩ | ⟨h,_⟩
  ·exact⟨zfR h,(zyH h).2.2.2,(zyH h).2.1⟩
  ·exact⟨(zyu h).2.2.2,(zyu h).2.1,(zyu h).1⟩
 have ci:isCall i.op=false/\i.op.rdL=false/\i.op.wrL=false:=by
  rcases At.lw with⟨_,h⟩ | ⟨_,h⟩
  ·exact⟨(zyu h).2.2.2,(zyu h).2.1,(zyu h).1⟩
  ·exact⟨zfR h,(zyH h).2.2.2,(zyH h).2.1⟩
 obtain⟨sj1,sj2,sj3,sj4,sj5⟩:=hj.shape;have Jr:ej.wloc=none:=sj1 cj.2.2
 have AN:DStep P N pi i s ei:=by
  refine(DStep.transferE ci.1 ci.2.1 At.d1 (fun y hy v hv k hk=> ?_)).2 hi;obtain⟨o,ho⟩:=hz.top (At.p2 y hy) hv k hk;show s.heap k=zxu s.heap ej.hp k;rw[zaK];rintro z HJ rfl;rcases At.lw with⟨hl,hw⟩ | ⟨hw,hl⟩
  ·have:=sj2 (zyH hl).1 z HJ;rw[this,fj]at ho;cases ho
  ·rcases hj.wkey hw z HJ with h | h
   ·rw[h,fj]at ho;cases ho
   ·have Ip:j.op.looks=false:=by revert hw;cases j.op<;>simp[AOp.writes,AOp.looks]
    simp only[sep,Ip,zG,if_false,zN]at hs;have:=hs _ (zAa hy hv hk);simp[h]at this
 have DN:s.free i.dst ei:=by
  intro d hd;obtain⟨h1,h2⟩:=BJ d hd;refine⟨?_,h2⟩
  cases hu:s.used d with
  | false=>rfl
  | true=>have:=zcd (d:=j.dst) (e:=ej) hu;rw[h1]at this;simp at this
 obtain⟨si1,si2,si3,si4,si5⟩:=AN.shape
 have Dz:DStep P N pj j (s.apply i.dst ei) ej:=by
  refine(DStep.transferE cj.1 cj.2.1 At.d2 (fun y hy v hv k hk=> ?_)).1 hj;obtain⟨o,ho⟩:=hz.top (At.p1 y hy) hv k hk;show s.heap k=zxu s.heap ei.hp k;rw[zaK];rintro z HJ rfl;rcases At.lw with⟨hl,hw⟩ | ⟨hw,hl⟩
  ·rcases AN.wkey hw z HJ with h | h
   ·rw[h,fi]at ho;cases ho
   ·simp only[sep,hl,if_true,zN]at hs;have:=hs _ (zAa hy hv hk);simp[h]at this
  ·have:=si2 (zyH hl).1 z HJ;rw[this,fi]at ho;cases ho
 have BU: ∀{x:ROp} {y:Opd},y∈x.op.opds-> ∀t∈y.slots,t∈x.reads:=fun hy t ht=>List.mem_append_left _ (List.mem_flatMap.2 ⟨_,hy,ht⟩)
 have Gf:(s.apply i.dst ei).free j.dst ej:=by
  intro d hd;obtain⟨h1,h2⟩:=CL d hd;refine⟨?_,h2⟩;simp only[St.apply]
  cases ha:ei.adr with
  | none=>exact h1
  | some bo=>
    obtain⟨b,o⟩:=bo;obtain⟨y,hy,o',hr⟩:=si5 b o ha;have hb:b≠d:=zd7 hz hr (fun Ar=>At.d1 d (BU hy d Ar) hd) h1;simp only[zaa _ _ (Ne.symm hb)];exact h1
 refine⟨AN,DN,Dz,Gf,zci At.d12 (.inl Jr) (fun b cs hb=>by rw[Jr]at hb;cases hb) (fun b cs hb=>by rw[si1 ci.2.2]at hb;cases hb) ?_⟩;intro x hx y hy e;have A8:s.bas+pj≠s.bas+pi:=by omega
 rcases At.lw with⟨hl,hw⟩ | ⟨hw,hl⟩
 ·have e1:=sj2 (zyH hl).1 x hx;rcases si3 y hy with h1 | h1
  ·exact A8 (by rw[<- e1,<- h1,e])
  ·rw[<- e,e1,fj]at h1;simp at h1
 ·have e2:=si2 (zyH hl).1 y hy;rcases sj3 x hx with h1 | h1
  ·exact A8 (by rw[<- h1,<- e2,e])
  ·rw[e,e2,fi]at h1;simp at h1
theorem StepG.env {d:Bool} {p:Nat} {o:ROp} {s':St} (h:StepG P N d p o s s') {q:Nat} (hq:o.dst≠some q):s'.env q=s.env q:=by
 have key: ∀(t:St) (e:Eff),t.env=s.env->(t.apply o.dst e).env q=s.env q:=by
  intro t e ht
  cases hd:o.dst with
  | none=>simp only[St.apply,ht]
  | some x=>simp only[St.apply,ht];exact zaa _ _ (fun h=>hq (by rw[hd,h]))
 cases h<;>exact key _ _ rfl
theorem StepG.evl {d:Bool} {p:Nat} {o x:ROp} {s':St} (h:StepG P N d p o s s') (hd: ∀t∈x.reads,o.dst≠some t): ∀y∈x.op.opds,evl N.G s y=evl N.G s' y:=
 fun y hy=>ziu fun t ht=>(h.env (hd t (List.mem_append_left _ (List.mem_flatMap.2 ⟨y,hy,ht⟩)))).symm
theorem zpe {ns:Nat} (hz:Rz N ns s) {pj pi:Nat} {j i:ROp} {s1 s2:St} (At:IndepR i j) (h1:StepG P N true pj j s s1) (h2:StepG P N true pi i s1 s2):
 ∃t,StepG P N true pi i s t/\StepG P N true pj j t s2:=by
 obtain⟨sr,swH,swL,snr⟩:=zAJ At.st;obtain⟨ei,G5,BJ,rfl⟩:=h2.toD snr
 have Pk:ei.hp=[]/\ei.wloc=none:=by
  cases G5 with
  | skip hw=>exact⟨rfl,rfl⟩
  | eff hw he=>exact zgX At.st he
  | pure hw ho=>exact⟨rfl,rfl⟩
  | fresh hw ho=>have:=At.st;rw[ho]at this;cases this
 obtain⟨ehp,ewl⟩:=Pk;have BU: ∀{x:ROp} {y:Opd},y∈x.op.opds-> ∀t∈y.slots,t∈x.reads:=fun hy t ht=>List.mem_append_left _ (List.mem_flatMap.2 ⟨_,hy,ht⟩)
 -- the operation that looks at slots alone,ahead of the call
 have first : ∀(H':Nat->Option O) (n':Nat) (r:V),s.free j.dst {}->DStep P N pi i (({ s with heap:=H',nxt:=n' }:St).apply j.dst { val:=r }) ei->DStep P N pi i s ei:=by
  intro H' n' r CL hd;refine(DStep.transfer (d:=j.dst) (e':= { val:=r }) hz At.p1 At.d2 (fun d' hd=>(CL d' hd).1) (fun _=>rfl) (fun hr=>by rw[sr]at hr;cases hr)).2 ?_
  cases hd with
  | skip hw=>exact .skip hw
  | eff hw he=>exact .eff hw (by rw[<- zfz (H:=H') (n:=n') At.st];exact he)
  | pure hw ho=>have:=At.st;rw[ho]at this;cases this
  | fresh hw ho=>have:=At.st;rw[ho]at this;cases this
 have fin: ∀(H':Nat->Option O) (n':Nat) (r:V),s.free j.dst {}->DStep P N pi i s ei->s.free i.dst ei->
  (∀(q:Opd),q∈j.op.opds->evl N.G s q=evl N.G (s.apply i.dst ei) q)/\zxW s j.guard=zxW (s.apply i.dst ei) j.guard/\(s.apply i.dst ei).heap=s.heap/\(s.apply i.dst ei).free j.dst {}/\
  (({ s with heap:=H',nxt:=n' }:St).apply j.dst { val:=r }).apply i.dst ei=({ s.apply i.dst ei with heap:=H',nxt:=n' }:St).apply j.dst { val:=r }:=by
  intro H' n' r CL hd hf;have hg:=hd.toG hf;refine⟨hg.evl At.d1,?_,by simp only[St.apply,ehp,zxu],?_,?_⟩
  ·cases Ge:j.guard with
   | none=>rfl
   | some gw=>
     obtain⟨g,wnt⟩:=gw;have:=hg.env (q:=g) (At.d1 g (by simp[ROp.reads,Ge]));simp only[zxW,this]
  ·intro d D2;obtain⟨k1,_⟩:=CL d D2;refine⟨?_,fun b o hb=>by cases hb⟩;simp only[St.apply]
   cases ha:ei.adr with
   | none=>exact k1
   | some bo=>
     obtain⟨b,o⟩:=bo;obtain⟨y,hy,o',hr⟩:=hd.shape.2.2.2.2 b o ha;have hb:b≠d:=zd7 hz hr (fun Ar=>At.d2 d (BU hy d Ar) D2) k1;simp only[zaa _ _ (Ne.symm hb)];exact k1
  ·have e1:({ s.apply i.dst ei with heap:=H',nxt:=n' }:St)=({ s with heap:=H',nxt:=n' }:St).apply i.dst ei:=by
    simp only[St.apply,ehp,zxu]
   rw[e1,zci (s:={ s with heap:=H',nxt:=n' }) (fun x hx hy=>At.d12 x hy hx) (.inl rfl) (fun b cs hb=>by cases hb) (fun b cs hb=>by rw[ewl]at hb;cases hb) (by simp)]
 cases h1 with
 | skip hw hf=>
   have hd:=first s.heap s.nxt .undef hf G5;obtain⟨g1,g2,g3,g4,g5⟩:=fin s.heap s.nxt .undef hf hd BJ;refine⟨_,hd.toG BJ,?_⟩;have:=StepG.skip (P:=P) (N:=N) (d:=true) (p:=pj) (o:=j) (s:=s.apply i.dst ei) (by rw[<- g2];exact hw) g4;rw[show(s.apply j.dst {}).apply i.dst ei=(s.apply i.dst ei).apply j.dst {}from ?_]
   ·exact this
   ·have e2:({ s.apply i.dst ei with heap:=s.heap,nxt:=s.nxt }:St)=s.apply i.dst ei:=by simp only[St.apply,ehp,zxu]
    rw[e2]at g5;exact g5
 | eff hw hf he=>have:=At.rw;revert he;cases Ik:j.op<;>rw[Ik]at this<;>simp[AOp.isRaw]at this<;>simp[zw4]
 | pure hw hf ho=>have:=At.rw;rw[ho]at this;simp[AOp.isRaw]at this
 | fresh hw hf ho=>have:=At.rw;rw[ho]at this;simp[AOp.isRaw]at this
 | raw hw hf ho An Au Am Aq hc hn AE=>
   rename_i f args fv g a b vs r rf H' n';have hd:=first H' n' r hf G5;obtain⟨g1,g2,g3,g4,g5⟩:=fin H' n' r hf hd BJ;have Aj: ∀y,y∈f::args->evl N.G s y=evl N.G (s.apply i.dst ei) y:=fun y hy=>g1 y (by rw[ho];exact hy)
   rw[Aj f (by simp)]at An;rw[zaY (fun x hx=>Aj x (by simp[hx]))]at Aq;refine⟨_,hd.toG BJ,?_⟩;rw[g5]
   exact .raw (by rw[<- g2];exact hw) g4 ho An Au Am Aq (by rw[g3];exact hc) hn (by rw[g3];exact AE)
 | yld hw hf ho An hk Aq Ac Bd Ba C6 AX AE=>
   rename_i f args k vs env env1 env' ps ps1 ps' ca cb bd1 bd' e t1 t2;have hd:=first _ _ _ hf G5;obtain⟨g1,g2,g3,g4,g5⟩:=fin _ _ _ hf hd BJ;have Aj: ∀y,y∈f::args->evl N.G s y=evl N.G (s.apply i.dst ei) y:=fun y hy=>g1 y (by rw[ho];exact hy)
   rw[Aj f (by simp)]at An;rw[zaY (fun x hx=>Aj x (by simp[hx]))]at Aq;refine⟨_,hd.toG BJ,?_⟩;rw[g5];exact .yld (by rw[<- g2];exact hw) g4 ho An (by rw[g3];exact hk) Aq Ac (by rw[g3];exact Bd) Ba C6 AX (by rw[g3];exact AE)
inductive RunT (P:Program) (N:Nam) (l:List ROp) (T:Nat->ROp->St->Prop):List Nat->St->St->Prop where
 | nil {s:St}:RunT P N l T [] s s
 | cons {i:Nat} {is:List Nat} {s s1 s2:St} {r:ROp} (hr:l[i]? =some r) (h1:StepG P N true i r s s1) (ht:T i r s) (h2:RunT P N l T is s1 s2):RunT P N l T (i::is) s s2
theorem Run.toT {l:List ROp} {is:List Nat} {s':St} (h:Run P N true l is s s'):RunT P N l (fun _ _ _=>True) is s s':=by
 induction h with
 | nil=>exact .nil
 | cons hr h1 h2 ih=>exact .cons hr h1 trivial ih
theorem Run.env {d:Bool} {l:List ROp} {is:List Nat} {s':St} (h:Run P N d l is s s') {t:Nat} (ht: ∀q∈is,∀z,l[q]? =some z->z.dst≠some t):s'.env t=s.env t:=by
 induction h with
 | nil=>rfl
 | cons hr h1 h2 ih=>rw[ih fun q hq=>ht q (by simp[hq]),h1.env (ht _ (by simp) _ hr)]
def zeV (ck:List (Nat×Nat)) (i:Nat):Bool:=ck.any fun x=>x.1==i||x.2==i
def zdW (ck:List (Nat×Nat)) (l:List ROp):Bool:=
 (List.range l.length).all fun i=> !zeV ck i||(List.range l.length).all fun q=>decide (q<i)||(match l[i]?,l[q]? with
   | some r,some z=>(match z.dst with | some t=> !r.reads.contains t | none=>true)
   | _,_=>true)
theorem zgY {ck:List (Nat×Nat)} {l:List ROp} (h:zdW ck l=true) {i q:Nat} {r z:ROp} (hi:l[i]? =some r) (hq:l[q]? =some z) (hm:zeV ck i=true) (A4:i<=q): ∀t∈r.reads,z.dst≠some t:=by
 intro t ht hd;simp only[zdW,zN,List.mem_range,Bool.or_eq_true,decide_eq_true_eq]at h;have h1:=h i (zH.1 hi).1;rw[hm]at h1;rcases h1 with h1 | h1
 ·cases h1
 ·rcases h1 q (zH.1 hq).1 with h1 | h1
  ·omega
  ·rw[hi,hq]at h1;simp[hd,ht]at h1
def zCM (N:Nam) (ck:List (Nat×Nat)) (e:St) (i:Nat) (r:ROp) (s:St):Prop:=zeV ck i=true-> ∀y∈r.op.opds,evl N.G s y=evl N.G e y
theorem Run.annot {ck:List (Nat×Nat)} {l:List ROp} {is:List Nat} {s':St} (AB:zdW ck l=true) (h:Run P N true l is s s') (hs:is.Pairwise (· < ·)):RunT P N l (zCM N ck s') is s s':=by
 induction h with
 | nil=>exact .nil
 | cons hr h1 h2 ih=>
   obtain⟨Ai,Lo⟩:=List.pairwise_cons.1 hs;refine .cons hr h1 (fun hm y hy=> ?_) (ih Lo);have Af:Run P N true l (_::_) _ _:=.cons hr h1 h2;refine ziu fun t ht=>(Af.env fun q hq z hz=> ?_).symm
   refine zgY AB hr hz hm ?_ t (List.mem_append_left _ (List.mem_flatMap.2 ⟨y,hy,ht⟩));rcases List.mem_cons.1 hq with rfl | hq
   ·exact Nat.le_refl _
   ·exact Nat.le_of_lt (Ai q hq)
theorem zh4 {ck:List (Nat×Nat)} {l:List ROp} {e:St} (h:zAw N.G e l ck=true) {j i:Nat} (hm:(j,i)∈ck) {x y:ROp} (hx:l[j]? =some x) (hy:l[i]? =some y)
 {s:St} (h1:zCM N ck e j x s) (h2:zCM N ck e i y s):sep N.G s x y=true:=by
 simp only[zAw,zN]at h;have h0:=h _ hm;simp only[hx,hy]at h0;have m1:zeV ck j=true:=List.any_eq_true.2 ⟨_,hm,by simp⟩;have m2:zeV ck i=true:=List.any_eq_true.2 ⟨_,hm,by simp⟩;rw[zky (h1 m1) (h2 m2)];exact h0
end
end Rg
end
section
namespace Rg
open Go
def zy2 (o:Oper):List Nat:=o.after.toList.filterMap fun e=>if Region.binds .any e then some e.on else none
def zAW:List Nat->List Oper->List Nat
 | acc,[]=>acc
 | acc,o::os=>zAW (acc++[(zy2 o).foldl (fun s q=>s ||| 2^q ||| acc.getD q 0) 0]) os
def zDz (ops:Array Oper):List Nat:=zAW [] ops.toList
def zdt (ck:List (Nat×Nat)) (ops:Array Oper) (l:List ROp):Bool:=
 let b:=zDz ops
 (List.range l.length).all fun i=>
   ((ops[i]?).elim true fun o=>(zy2 o).all (· <i))&&
   (List.range i).all fun j=>(b.getD i 0).testBit j||(match l[j]?,l[i]? with | some x,some y=>zm3 x y||zfV x y||zi8 x y||(ck.contains (j,i)&&zlo x y)||zfV y x | _,_=>false)
def zlN (ops:Array Oper) (l:List ROp):Bool:=zdt [] ops l
def zCa (ops:Array Oper) (l:List ROp):List (Nat×Nat):=
 let b:=zDz ops
 (List.range l.length).flatMap fun i=>(List.range i).filterMap fun j=>if(b.getD i 0).testBit j then none else match l[j]?,l[i]? with
   | some x,some y=>if zm3 x y||zfV x y||zi8 x y||zfV y x then none else some (j,i)
   | _,_=>none
theorem zja (acc:List Nat) (m:Nat): ∀(l:List Nat) (s:Nat),(l.foldl (fun s q=>s ||| 2^q ||| acc.getD q 0) s).testBit m=true->s.testBit m=true\/ ∃q∈l,m=q\/(acc.getD q 0).testBit m=true
 | [],s,h=> .inl h
 | q::l,s,h=>by
   rcases zja acc m l _ h with h | ⟨q',DZ,h⟩
   ·simp only[Nat.testBit_or,Bool.or_eq_true]at h;rcases h with(h | h) | h
    ·exact .inl h
    ·right;refine⟨q,List.mem_cons_self,.inl ?_⟩;rw[Nat.testBit_two_pow]at h;exact(by simpa using h:q=m).symm
    ·exact .inr ⟨q,List.mem_cons_self,.inr h⟩
   ·exact .inr ⟨q',List.mem_cons_of_mem _ DZ,h⟩
theorem zhM: ∀(os:List Oper) (acc:List Nat),∃r,zAW acc os=acc++r
 | [],acc=>⟨[],by simp[zAW]⟩
 | o::os,acc=>by
   obtain⟨r,hr⟩:=zhM os (acc++[(zy2 o).foldl (fun s q=>s ||| 2^q ||| acc.getD q 0) 0]);exact⟨(zy2 o).foldl (fun s q=>s ||| 2^q ||| acc.getD q 0) 0::r,by simp only[zAW];rw[hr,zQ];rfl⟩
theorem zf5: ∀(os:List Oper) (acc:List Nat) (k:Nat) (o:Oper),os[k]? =some o->(∀q∈zy2 o,q<acc.length+k)-> ∀m,((zAW acc os).getD (acc.length+k) 0).testBit m=true->
 ∃q∈zy2 o,m=q\/((zAW acc os).getD q 0).testBit m=true
 | [],acc,k,o,h,_,_,_=>by simp at h
 | o'::os,acc,k,o,h,Ai,m,hm=>by
   cases k with
   | zero=>
     simp at h;subst h;simp only[zAW]at hm⊢;obtain⟨r,hr⟩:=zhM os (acc++[(zy2 o').foldl (fun s q=>s ||| 2^q ||| acc.getD q 0) 0]);rw[hr]at hm⊢
     have e1:(acc++[(zy2 o').foldl (fun s q=>s ||| 2^q ||| acc.getD q 0) 0]++r).getD (acc.length+0) 0=(zy2 o').foldl (fun s q=>s ||| 2^q ||| acc.getD q 0) 0:=by
      simp[zK]
     rw[e1]at hm;rcases zja acc m _ _ hm with h | ⟨q,hq,h⟩
     ·simp at h
     ·refine⟨q,hq,h.imp id fun h=> ?_⟩;have FD:q<acc.length:=by have:=Ai q hq;omega
      have e2:(acc++[(zy2 o').foldl (fun s q=>s ||| 2^q ||| acc.getD q 0) 0]++r).getD q 0=acc.getD q 0:=by
       simp only[zK];rw[zQ,List.getElem?_append_left FD]
      rw[e2];exact h
   | succ k=>
     simp at h;simp only[zAW]at hm⊢;have hl:(acc++[(zy2 o').foldl (fun s q=>s ||| 2^q ||| acc.getD q 0) 0]).length=acc.length+1:=by simp
     have e:acc.length+(k+1)=(acc++[(zy2 o').foldl (fun s q=>s ||| 2^q ||| acc.getD q 0) 0]).length+k:=by rw[hl];omega
     rw[e]at hm;exact zf5 os _ k o h (fun q hq=>by have:=Ai q hq;omega) m hm
section
variable {P:Program} {N:Nam} {I:Inv} {ns:Nat} {ops:Array Oper} {l:List ROp} {ro:Option Nat}
theorem zhV {o:Oper} {a:Act} {w:World} {K:Act->World->Prop} (h:o.wpIn (FW none) 0 P a w K (fun _ _ _=>False)): ∃a' w',K a' w':=by
 replace h:=h.2
 generalize(o.semAt (FW none).round a.eval).run P w=r at h
 unfold Oper.uponIn at h;split at h
 ·exact⟨_,_,h⟩
 ·exact⟨_,_,h⟩
 ·exact⟨_,_,h⟩
 ·obtain⟨e,w',fr,h1,_⟩:=h.2.2 [] zfm
  cases e with
  | returned v=>exact⟨_,_,h1⟩
  | panicked ch=>exact h1.elim
  | outgrown=>obtain⟨_,_,h1⟩:=h1;exact h1.elim
 ·obtain⟨v,w',h1,_⟩:=h.2 default [] zfm;exact⟨_,_,h1⟩
 ·obtain⟨e,w',h1,_⟩:=h.2.2 default [] zfm
  cases e with
  | returned v=>exact⟨_,_,h1⟩
  | panicked ch=>exact h1.elim
  | outgrown=>obtain⟨_,_,h1⟩:=h1;exact h1.elim
 ·exact h.elim
 ·exact h.elim
theorem Rz.step (hI:I.Ok N) {s s1:St} {p:Nat} {r:ROp} {o:Oper} {d:Bool} (hz:Rz N ns s) (AB:StepG P N d p r s s1) (hr:OpRel P I ns ops o r) (hk:s.heap (s.bas+p)=none) (hn:s.bas+p<s.nxt):Rz N ns s1:=by
 obtain⟨c,A,μ,lam,a,w,R⟩:=hz;have h:=zdV (ro:=none) hI AB hr R hk hn (fun _ _ _=>False);split at h
 ·obtain⟨a',w',A',μ',lam',R'⟩:=zhV h;exact⟨c,A',μ',lam',a',w',R'⟩
 ·obtain⟨A',μ',lam',R'⟩:=h;exact⟨c,A',μ',lam',_,w,R'⟩
theorem zmz (hI:I.Ok N) {T:Nat->ROp->St->Prop} (hT: ∀(i:Nat) (r:ROp) (s u:St),(∀y∈r.op.opds,evl N.G s y=evl N.G u y)->T i r s->T i r u) (hl:ops.toList.length=l.length/\ ∀(i:Nat) (r:ROp),l[i]? =some r-> ∃o,ops.toList[i]? =some o/\OpRel P I ns ops o r) {i:Nat} {l2:List Nat} {s':St}:
 ∀(l1:List Nat) (s:St),Rz N ns s->(l1++i::l2).Nodup->(∀q∈l1++i::l2,s.heap (s.bas+q)=none/\s.bas+q<s.nxt)->
  (∀j∈l1,∀x y,l[j]? =some x->l[i]? =some y->Indep x y\/IndepR x y\/IndepX x y\/(IndepD x y/\ ∀s,T j x s->T i y s->sep N.G s x y=true)\/IndepR y x)->
  RunT P N l T (l1++i::l2) s s'->RunT P N l T (i::(l1++l2)) s s':=by
 intro l1
 induction l1 with
 | nil=>intro s _ _ _ _ h;exact h
 | cons j l1 ih=>
   intro s hz Cs AE GV h
   cases h with
   | cons hr h1 NF h2=>
     rename_i s1 rj;obtain⟨oj,NM,JP⟩:=hl.2 j rj hr;have Et:=List.nodup_cons.1 (by simpa using Cs:(j::(l1++i::l2)).Nodup);obtain⟨fj1,fj2⟩:=AE j (by simp);obtain⟨fi1,fi2⟩:=AE i (by simp);have GC:Rz N ns s1:=hz.step hI h1 JP fj1 fj2;obtain⟨g1,g2,g3⟩:=h1.free
     have MT: ∀q∈l1++i::l2,s1.heap (s1.bas+q)=none/\s1.bas+q<s1.nxt:=by
      intro q hq;obtain⟨e1,e2⟩:=AE q (by simp at hq⊢;exact .inr hq);rw[g1];refine⟨g3 _ e2 (fun e=>Et.1 ?_) e1,by omega⟩;have:q=j:=by omega
      exact this▸hq
     have h3:=ih s1 GC Et.2 MT (fun q hq x y hx hy=>GV q (List.mem_cons_of_mem _ hq) x y hx hy) h2
     cases h3 with
     | cons Dw h4 O6 h5=>
       rename_i t1 ri;have At:=GV j List.mem_cons_self rj ri hr Dw;have A8:j≠i:=by rintro rfl;exact Et.1 (by simp)
       have hd:(∀t∈ri.reads,rj.dst≠some t)/\ ∀t∈rj.reads,ri.dst≠some t:=by
        rcases At with At | At | At | At | At
        ·exact⟨At.d1,At.d2⟩
        ·exact⟨At.d1,At.d2⟩
        ·exact⟨At.d1,At.d2⟩
        ·exact⟨At.1.d1,At.1.d2⟩
        ·exact⟨At.d2,At.d1⟩
       have ER:T i ri s:=hT i ri _ _ (fun y hy=>(h1.evl hd.1 y hy).symm) O6;have F6: ∀{t:St},StepG P N true i ri s t->T j rj t:=fun AB=>hT j rj _ _ (AB.evl hd.2) NF
       rcases At with At | At | At | ⟨At,Mp⟩ | At
       ·obtain⟨ej,H7,CL,rfl⟩:=h1.toD At.r1;obtain⟨ei,G5,BJ,rfl⟩:=h4.toD At.r2;obtain⟨k1,k2,k3,k4,k5⟩:=swap hz At A8 fj1 fi1 H7 CL G5 BJ;refine .cons Dw (k1.toG k2) ER (.cons hr (k3.toG k4) (F6 (k1.toG k2)) ?_);rw[<- k5];exact h5
       ·obtain⟨t,k1,k3⟩:=zrG hz At h1 h4;exact .cons Dw k1 ER (.cons hr k3 (F6 k1) h5)
       ·obtain⟨ej,H7,CL,rfl⟩:=h1.toD (zCS At.ap).2.2;obtain⟨ei,G5,BJ,rfl⟩:=h4.toD (zyH At.lk).2.2.1;obtain⟨k1,k2,k3,k4,k5⟩:=zrF hz At A8 fj1 fi1 H7 CL G5 BJ;refine .cons Dw (k1.toG k2) ER (.cons hr (k3.toG k4) (F6 (k1.toG k2)) ?_);rw[<- k5];exact h5
       ·have r1:rj.op.isRaw=false:=by
         rcases At.lw with⟨h,_⟩ | ⟨h,_⟩
         ·exact(zyH h).2.2.1
         ·exact(zyu h).2.2.1
        have r2:ri.op.isRaw=false:=by
         rcases At.lw with⟨_,h⟩ | ⟨_,h⟩
         ·exact(zyu h).2.2.1
         ·exact(zyH h).2.2.1
        obtain⟨ej,H7,CL,rfl⟩:=h1.toD r1;obtain⟨ei,G5,BJ,rfl⟩:=h4.toD r2;obtain⟨k1,k2,k3,k4,k5⟩:=zrH hz At (Mp s NF ER) A8 fj1 fi1 H7 CL G5 BJ;refine .cons Dw (k1.toG k2) ER (.cons hr (k3.toG k4) (F6 (k1.toG k2)) ?_);rw[<- k5];exact h5
       ·obtain⟨t,k1,k3⟩:=zpe hz At h1 h4;exact .cons Dw k1 ER (.cons hr k3 (F6 k1) h5)
def left (n:Nat) (listed:Array Bool):List Nat:=(List.range n).filter fun i=> !listed.getD i true
def ready (ops:Array Oper) (listed:Array Bool):List Nat:=
 (List.range ops.size).filter fun i=> !listed.getD i true&&((ops[i]?).map (·.after.all fun e=> !Region.binds .any e||listed.getD e.on false)).getD false
def fut (ops:Array Oper):Nat->Nat->Array Bool->List Nat
 | 0,_,_=>[]
 | fuel+1,t,listed=>match(ready ops listed)[t % (ready ops listed).length]? with
   | some i=>i::fut ops fuel (t/ (ready ops listed).length) (listed.setIfInBounds i true)
   | none=>[]
theorem znO (ops:Array Oper): ∀(fuel t:Nat) (listed:Array Bool) (acc:List Nat),Region.linearise.go .any ops fuel t listed acc=acc.reverse++fut ops fuel t listed
 | 0,t,listed,acc=>by simp[Region.linearise.go,fut]
 | fuel+1,t,listed,acc=>by
   simp only[Region.linearise.go,fut]
   show(match(ready ops listed)[t % (ready ops listed).length]? with
    | some i=>Region.linearise.go .any ops fuel (t/ (ready ops listed).length) (listed.setIfInBounds i true) (i::acc)
    | none=>acc.reverse)=_
   split
   ·rename_i i hi;rw[znO ops fuel];simp
   ·simp
theorem zgs (listed:Array Bool) (i q:Nat) (d:Bool) (hi:i<listed.size):(listed.setIfInBounds i true).getD q d=if q=i then true else listed.getD q d:=by
 by_cases h:q=i
 ·subst h;simp[hi]
 ·simp[h,Array.getD_eq_getD_getElem?,Ne.symm h]
theorem zlt (hI:I.Ok N) {T:Nat->ROp->St->Prop} (hT: ∀(i:Nat) (r:ROp) (s u:St),(∀y∈r.op.opds,evl N.G s y=evl N.G u y)->T i r s->T i r u)
 {ck:List (Nat×Nat)} (Fm: ∀j i,(j,i)∈ck-> ∀x y,l[j]? =some x->l[i]? =some y-> ∀s,T j x s->T i y s->sep N.G s x y=true) {c:Ctx} (hl:ops.toList.length=l.length/\ ∀(i:Nat) (r:ROp),l[i]? =some r-> ∃o,ops.toList[i]? =some o/\OpRel P I ns ops o r) (Gj:zdt ck ops l=true) (Q:Exit->Act->World->Prop) {s':St}
 (hQ: ∀a' w' A' μ' lam',Rel N c ns A' μ' lam' s' a' w'->Q .normal a' w'):
 ∀(fuel t:Nat) (listed:Array Bool) (s:St) (A:Nat->Prop) (μ lam:Nat->Nat) (a:Act) (w:World),listed.size=ops.size->(left ops.size listed).length<=fuel->
  (∀(i:Nat) (o:Oper),ops[i]? =some o->listed.getD i true=true-> ∀q∈zy2 o,listed.getD q false=true)->
  RunT P N l T (left ops.size listed) s s'->(∀q∈left ops.size listed,s.heap (s.bas+q)=none/\s.bas+q<s.nxt)->Rel N c ns A μ lam s a w->wpOpsIn (FW ro) 0 P ops Q (fut ops fuel t listed) a w:=by
 have hn:ops.size=l.length:=by simpa using hl.1
 simp only[zdt,zN,List.mem_range,zF,Bool.or_eq_true]at Gj
 have A5: ∀(i:Nat) (o:Oper),ops[i]? =some o-> ∀q∈zy2 o,q<i:=by
  intro i o ho q hq;have hi:i<ops.size:=(Array.getElem?_eq_some_iff.1 ho).1;have:=(Gj i (by omega)).1;rw[ho]at this;simp only[Option.elim,zN,decide_eq_true_eq]at this;exact this q hq
 intro fuel
 induction fuel with
 | zero=>
   intro t listed s A μ lam a w _ Ac _ Af _ R;have:left ops.size listed=[]:=List.length_eq_zero_iff.1 (by omega);rw[this]at Af;cases Af
   exact hQ a w A μ lam R
 | succ fuel ih=>
   intro t listed s A μ lam a w AM Ac Cp Af AE R
   have CB: ∀q,q∈left ops.size listed<->q<ops.size/\listed.getD q true=false:=by
    intro q;simp[left,List.mem_filter]
   cases hL:left ops.size listed with
   | nil=>
     have DD:ready ops listed=[]:=by
      refine List.filter_eq_nil_iff.2 fun i hi=> ?_
      have:i∉ left ops.size listed:=by rw[hL];simp
      rw[CB]at this;simp only[List.mem_range]at hi;simp[hi]at this;simp[this]
     rw[hL]at Af;cases Af;simp only[fut,DD];simp only[List.getElem?_nil]
     exact hQ a w A μ lam R
   | cons h0 L0=>
     have MO:h0∈left ops.size listed:=by rw[hL];simp
     have Cd:(left ops.size listed).Pairwise (· < ·):=List.Pairwise.filter _ List.pairwise_lt_range
     have FI: ∀(i:Nat) (o:Oper),ops[i]? =some o->(∀q∈zy2 o,listed.getD q false=true)->(o.after.all fun e=> !Region.binds .any e||listed.getD e.on false)=true:=by
      intro i o ho hp;rw[Array.all_eq_true'];intro e he
      cases hb:Region.binds .any e with
      | false=>simp
      | true=>
        simp only[Bool.not_true,Bool.false_or];exact hp e.on (by simp only[zy2,List.mem_filterMap];exact⟨e,by simpa using he,by simp[hb]⟩)
     have GL:h0∈ready ops listed:=by
      obtain⟨Ai,Ip⟩:=(CB h0).1 MO;refine List.mem_filter.2 ⟨List.mem_range.2 Ai,?_⟩;rw[Ip,Array.getElem?_eq_getElem Ai];simp only[Bool.not_false,Bool.true_and,Option.map_some,Option.getD_some];refine FI h0 _ (Array.getElem?_eq_getElem Ai) (fun q hq=> ?_);have OE:=A5 h0 _ (Array.getElem?_eq_getElem Ai) q hq
      have FQ:q∉ left ops.size listed:=by
       intro Ar;rw[hL]at Ar Cd;rcases List.mem_cons.1 Ar with rfl | Ar
       ·omega
       ·have:=(List.pairwise_cons.1 Cd).1 q Ar;omega
      rw[CB]at FQ;have Jn:q<listed.size:=by omega
      have:listed.getD q true=true:=by
       cases hb:listed.getD q true with
       | true=>rfl
       | false=>exact absurd ⟨by omega,hb⟩ FQ
      rw[Array.getD_eq_getD_getElem?,Array.getElem?_eq_getElem Jn]at this⊢;exact this
     have Cx:0<(ready ops listed).length:=List.length_pos_of_mem GL;have Ai:t % (ready ops listed).length<(ready ops listed).length:=Nat.mod_lt _ Cx;simp only[fut,zI Ai]
     generalize K8:(ready ops listed)[t % (ready ops listed).length]=i
     have Hz:i∈ready ops listed:=by rw[<- K8];exact List.getElem_mem Ai
     obtain⟨Cg,C0⟩:=List.mem_filter.1 Hz;have Cb:i<ops.size:=List.mem_range.1 Cg;simp only[zF,Bool.not_eq_true']at C0;obtain⟨D1,Lx⟩:=C0;have ID:ops[i]? =some ops[i]:=Array.getElem?_eq_getElem Cb;rw[ID]at Lx;simp only[Option.map_some,Option.getD_some]at Lx
     have H1: ∀q∈zy2 ops[i],listed.getD q false=true:=by
      intro q hq;simp only[zy2,List.mem_filterMap]at hq;obtain⟨e,he,hq⟩:=hq;split at hq
      ·rename_i hb;simp only[zA]at hq;subst hq;rw[Array.all_eq_true']at Lx;have:=Lx e (by simpa using he);simpa[hb]using this
      ·simp at hq
     have Ar:i∈left ops.size listed:=(CB i).2 ⟨Cb,D1⟩
     -- what is before it Da been executed
     have Nk: ∀(k:Nat),k<ops.size->(∀(o:Oper),ops[k]? =some o-> ∀q∈zy2 o,listed.getD q false=true)-> ∀m,((zDz ops).getD k 0).testBit m=true->listed.getD m false=true:=by
      intro k
      induction k using Nat.strongRecOn with
      | _ k ihk=>
        intro hk hp m hm;have OX:ops.toList[k]? =some ops[k]:=by simp[hk]
        obtain⟨q,hq,M6⟩:=zf5 ops.toList [] k ops[k] OX (fun q hq=>by simpa using A5 k _ (Array.getElem?_eq_getElem hk) q hq) m (by simpa[zDz]using hm);have FD:=hp _ (Array.getElem?_eq_getElem hk) q hq;have Mw:=A5 k _ (Array.getElem?_eq_getElem hk) q hq;rcases M6 with rfl | M6
        ·exact FD
        ·refine ihk q Mw (by omega) (fun o ho r hr=> ?_) m M6;refine Cp q o ho ?_ r hr;have Jn:q<listed.size:=by omega
         rw[Array.getD_eq_getD_getElem?,Array.getElem?_eq_getElem Jn]at FD⊢;exact FD
     obtain⟨l1,l2,Ak⟩:=List.append_of_mem Ar;have Cs:(left ops.size listed).Nodup:=Cd.imp (fun h=>Nat.ne_of_lt h)
     have A9: ∀j∈l1,j<i:=by
      intro j hj;rw[Ak]at Cd;exact(List.pairwise_append.1 Cd).2.2 j hj i (by simp)
     have GV: ∀j∈l1,∀x y,l[j]? =some x->l[i]? =some y->Indep x y\/IndepR x y\/IndepX x y\/(IndepD x y/\ ∀s,T j x s->T i y s->sep N.G s x y=true)\/IndepR y x:=by
      intro j hj x y hx hy;have Fg:=A9 j hj;have h1:=(Gj i (by omega)).2 j Fg;rcases h1 with h1 | h1
      ·have Ff:=Nk i Cb (fun o ho q hq=>by rw[ID]at ho;cases ho;exact H1 q hq) j h1;have K3:j∈left ops.size listed:=by rw[Ak];simp[hj]
       obtain⟨PQ,Hy⟩:=(CB j).1 K3;have NX:j<listed.size:=by omega
       rw[Array.getD_eq_getD_getElem?,Array.getElem?_eq_getElem NX]at Ff Hy;simp only[Option.getD_some]at Ff Hy;rw[Ff]at Hy;simp at Hy
      ·rw[hx,hy]at h1;simp only[Bool.or_eq_true]at h1;rcases h1 with(((h1 | h1) | h1) | h1) | h1
       ·exact .inl (zBQ h1)
       ·exact .inr (.inl (zAe h1))
       ·exact .inr (.inr (.inl (zBp h1)))
       ·simp only[zF,List.contains_eq_mem,decide_eq_true_eq]at h1;exact .inr (.inr (.inr (.inl ⟨zil h1.2,Fm j i h1.1 x y hx hy⟩)))
       ·exact .inr (.inr (.inr (.inr (zAe h1))))
     rw[Ak]at Af AE Cs;have Fx:=zmz hI hT hl l1 s ⟨c,A,μ,lam,a,w,R⟩ Cs AE GV Af
     cases Fx with
     | cons Dw h1 _ h2=>
       rename_i s1 ri _;obtain⟨o,ho,Ib⟩:=hl.2 i ri Dw;obtain⟨f1,f2⟩:=AE i (by simp);have hs:=zdV (ro:=ro) hI h1 Ib R f1 f2 Q;obtain⟨g1,g2,g3⟩:=h1.free
       have FC:left ops.size (listed.setIfInBounds i true)=l1++l2:=by
        have e1:left ops.size (listed.setIfInBounds i true)=(left ops.size listed).filter (fun q=>q != i):=by
         simp only[left,List.filter_filter]
         congr 1
         funext q
         rw[zgs listed i q true (by omega)]
         by_cases h:q=i
         ·subst h;simp
         ·simp[h]
        rw[e1,Ak,List.filter_append,List.filter_cons];simp only[bne_self_eq_false,zG,if_false];have EY:i∉ l1:=fun h=>by have:=A9 i h;omega
        have Ir:i∉ l2:=by
         intro h;have:=(List.nodup_append.1 Cs).2.1;exact(List.nodup_cons.1 this).1 h
        rw[List.filter_eq_self.2 (fun q hq=>by simp;rintro rfl;exact EY hq),List.filter_eq_self.2 (fun q hq=>by simp;rintro rfl;exact Ir hq)]
       have BF:(l1++l2).length<=fuel:=by rw[Ak]at Ac;simp at Ac⊢;omega
       have Nc: ∀(k:Nat) (o:Oper),ops[k]? =some o->(listed.setIfInBounds i true).getD k true=true-> ∀q∈zy2 o,(listed.setIfInBounds i true).getD q false=true:=by
        intro k o' AK hk q hq;rw[zgs listed i k true (by omega)]at hk;rw[zgs listed i q false (by omega)]
        by_cases NV:k=i
        ·subst NV;rw[ID]at AK;cases AK;rw[H1 q hq];simp
        ·rw[if_neg NV]at hk;rw[Cp k o' AK hk q hq];simp
       have Dn: ∀q∈l1++l2,s1.heap (s1.bas+q)=none/\s1.bas+q<s1.nxt:=by
        intro q hq;have DZ:q∈l1++i::l2:=by simp at hq⊢;rcases hq with h | h<;>simp[h]
        obtain⟨e1,e2⟩:=AE q DZ;rw[g1];refine⟨g3 _ e2 (fun e=> ?_) e1,by omega⟩;have OF:q=i:=by omega
        subst OF;have GP:q∉ l1:=fun h=>by have:=A9 q h;omega
        have Ks:q∉ l2:=by
         intro h;have:=(List.nodup_append.1 Cs).2.1;exact(List.nodup_cons.1 this).1 h
        simp[GP,Ks]at hq
       rw[Array.getElem?_toList]at ho;simp only[wpOpsIn,ho]
       have next : ∀a' w' A' μ' lam',Rel N c ns A' μ' lam' s1 a' w'->wpOpsIn (FW ro) 0 P ops Q (fut ops fuel (t/ (ready ops listed).length) (listed.setIfInBounds i true)) a' w':=by
        intro a' w' A' μ' lam' R';refine ih _ _ s1 A' μ' lam' a' w' (by simpa using AM) (by rw[FC];exact BF) Nc (by rw[FC];exact h2) (by rw[FC];exact Dn) R'
       split
       ·rename_i hw;rw[if_pos hw]at hs;refine zgP hs ?_;rintro a' w' ⟨A',μ',lam',R'⟩;exact next a' w' A' μ' lam' R'
       ·rename_i hw;rw[if_neg hw]at hs;obtain⟨A',μ',lam',R'⟩:=hs;exact⟨fun _ _=>trivial,next _ _ A' μ' lam' R'⟩
theorem zf2 {c:Ctx} {A:Nat->Prop} {μ lam:Nat->Nat} {s s':St} {a:Act} {w:World} (hI:I.Ok N) {T:Nat->ROp->St->Prop} (hT: ∀(i:Nat) (r:ROp) (s u:St),(∀y∈r.op.opds,evl N.G s y=evl N.G u y)->T i r s->T i r u)
 {ck:List (Nat×Nat)} (Fm: ∀j i,(j,i)∈ck-> ∀x y,l[j]? =some x->l[i]? =some y-> ∀s,T j x s->T i y s->sep N.G s x y=true) (hl:ops.toList.length=l.length/\ ∀(i:Nat) (r:ROp),l[i]? =some r-> ∃o,ops.toList[i]? =some o/\OpRel P I ns ops o r) (Gj:zdt ck ops l=true) (Q:Exit->Act->World->Prop)
 (Af:RunT P N l T (List.range l.length) s s') (B6: ∀i,i<l.length->s.heap (s.bas+i)=none/\s.bas+i<s.nxt) (R:Rel N c ns A μ lam s a w)
 (hQ: ∀a' w' A' μ' lam',Rel N c ns A' μ' lam' s' a' w'->Q .normal a' w') (t:Nat):wpOpsIn (FW ro) 0 P ops Q (Region.linearise .any ops t) a w:=by
 have hn:ops.size=l.length:=by simpa using hl.1
 have hg: ∀q d,q<ops.size->(Array.replicate ops.size false).getD q d=false:=by
  intro q d hq;rw[Array.getD_eq_getD_getElem?,Array.getElem?_replicate,if_pos hq];rfl
 have FU:left ops.size (Array.replicate ops.size false)=List.range l.length:=by
  simp only[left];rw[<- hn];refine List.filter_eq_self.2 fun q hq=> ?_
  rw[hg q true (List.mem_range.1 hq)];rfl
 simp only[Region.linearise,znO,List.reverse_nil,List.nil_append];refine zlt hI hT Fm hl Gj Q hQ ops.size t _ s A μ lam a w (by simp) (by rw[FU];simp[hn]) ?_ (by rw[FU];exact Af) (by rw[FU];exact fun q hq=>B6 q (List.mem_range.1 hq)) R;intro i o ho hi;have:i<ops.size:=(Array.getElem?_eq_some_iff.1 ho).1;rw[hg i true this]at hi;simp at hi
end
end Rg
end
