/- Part of the proof of the laws of the package relyguardlaw30: an abstract machine for the program's functions, what they compute, and that the machine is the program's. No condition. (RgI RgJ RgK) -/
import Derived.Test.YtcgkpboneipghaaGreatDoorPartAD
section
namespace Rg
open Go
theorem RepV.cell {w:World} {A:Nat->Prop} {nm μ:Nat->Nat} {H:Nat->Option O} {v:Value} {x:V} (h:RepV w A nm μ H v x) (hc:x.isCell=true):RepC w A nm μ H v x:=by
 cases x <;> first | exact h | (simp [V.isCell] at hc)
theorem RepT.nils_inv {w:World} {A:Nat->Prop} {nm:Nat->Nat} {v:Value} (h:RepT w A nm v .nils) : ∃ ad,v = .slice ad 0 0:=by
 cases h; exact ⟨_,rfl⟩
theorem RepT.sl_inv {w:World} {A:Nat->Prop} {nm:Nat->Nat} {v:Value} {es:List (List T)} (h:RepT w A nm v (.sl es)) :
 (es=[] /\ ∃ ad cap,v = .slice ad 0 cap) \/ ∃ (r off cap sz:Nat) (vf:Nat->Nat->Value),v = .slice (some ⟨r,off,none⟩) es.length cap/\0<es.length/\es.length<=cap/\A r /\
   (∀ (i:Nat) (e:List T),es[i]? = some e->e.length=sz) /\
   (∀ (i:Nat) (e:List T) (j:Nat) (x:T),es[i]? = some e->e[j]? = some x->w.cell? ⟨r,off+i*sz+j,none⟩=some (vf i j)) /\
   (∀ (i:Nat) (e:List T) (j:Nat) (x:T),es[i]? = some e->e[j]? = some x->RepT w A nm (vf i j) x):=by
 cases h with
 | sl0 ad cap=>exact .inl ⟨rfl,ad,cap,rfl⟩
 | sl r off cap sz _ vf h0 hc hA hs hv hr=>exact .inr ⟨r,off,cap,sz,vf,rfl,h0,hc,hA,hs,hv,hr⟩
section
variable {P:Program} {N:Nam} {I:Inv} {c:Ctx} {ns p:Nat} {A:Nat->Prop} {μ lam:Nat->Nat} {s:St} {a:Act} {w:World} {e:Eff}
theorem trees_spec : ∀ {cs:List V} {ts:List T},trees cs=some ts->ts.length=cs.length /\ ∀ (j:Nat) (x:T),ts[j]? = some x -> ∃ y,cs[j]? = some (.t y)/\x=y.norm
 | [],ts,h=>by simp [trees] at h; subst h; exact ⟨rfl,fun j x h=>by simp at h⟩
 | .t y::r,ts,h=>by
   simp only [trees,Option.map_eq_some_iff] at h
   obtain ⟨us,hu,rfl⟩:=h
   obtain ⟨h1,h2⟩:=trees_spec hu
   refine ⟨by simp [h1],fun j x hj => ?_⟩
   cases j with
   | zero=>simp at hj; exact ⟨y,rfl,hj.symm⟩
   | succ j=>simp only [List.getElem?_cons_succ] at hj ⊢; exact h2 j x hj
 | .ms _ _ _::_,_,h | .mp _ _ _::_,_,h | .mm _::_,_,h | .fn _ _ _::_,_,h | .agg _::_,_,h | .tup _::_,_,h | .undef::_,_,h | .lb::_,_,h=>by simp [trees] at h
theorem s_mkfn (hI:I.Ok N) (R:Rel N c ns A μ lam s a w) {f k:Nat} {xs ys:Array Operand} {xs' ys' : List Opd} (hf:I.fi f=some k) (hx:opds I xs=some xs') (hy:opds I ys=some ys')
 (he:aeval N.G p s (.mkfn k xs' ys')=some e):Gives N A μ s w ((Instr.makeFunc (.func f) (xs.map a.eval) (ys.map a.eval)).run P w) e:=by
 simp only [aeval,Option.bind_eq_bind,Option.bind_eq_some_iff] at he
 obtain ⟨as,has,bs,hbs,he⟩:=he
 simp only [Option.some.injEq] at he
 obtain ⟨fv,hfv,rfl⟩:=he
 unfold mkfnV at hfv
 split at hfv
 ·rename_i hall
  simp only [Option.some.injEq] at hfv; subst hfv
  obtain ⟨h1,h2⟩:=opds_eval hI R hx has
  obtain ⟨h3,h4⟩:=opds_eval hI R hy hbs
  refine ⟨_,rfl, ?_,rfl,rfl,rfl,rfl⟩
  have:=hI.f f k hf
  subst this
  have hcell : ∀ (l:List V),l.all V.isCell=true -> ∀ (i:Nat) (v:V),l[i]? = some v->v.isCell=true:=by
   intro l hl i v hi
   exact List.all_eq_true.1 hl v (List.mem_of_getElem? hi)
  refine RepC.fn k as bs (xs.map a.eval) (ys.map a.eval) (fun i=>((xs.map a.eval)[i]?).getD undef) (fun i=>((ys.map a.eval)[i]?).getD undef) h1 h3 ?_ ?_ ?_ ?_
  ·intro j x hj; obtain ⟨u,hu,_⟩:=h2 j x hj; rw [hu]; rfl
  ·intro j x hj; obtain ⟨u,hu,hr⟩:=h2 j x hj; rw [hu]; exact hr.cell (hcell _ hall.1 j x hj)
  ·intro j x hj; obtain ⟨u,hu,_⟩:=h4 j x hj; rw [hu]; rfl
  ·intro j x hj; obtain ⟨u,hu,hr⟩:=h4 j x hj; rw [hu]; exact hr.cell (hcell _ hall.2 j x hj)
 ·split at hfv
  ·rename_i cs _
   simp only [Option.map_eq_some_iff] at hfv
   obtain ⟨ts,hts,rfl⟩:=hfv
   obtain ⟨h1,h2⟩:=opds_eval hI R hx has
   obtain ⟨h3,h4⟩:=opds_eval hI R hy hbs
   refine ⟨_,rfl, ?_,rfl,rfl,rfl,rfl⟩
   have:=hI.f f k hf
   subst this
   obtain ⟨v0,hv0,hr0⟩:=h2 0 _ rfl
   obtain ⟨vc,rfl,hlen,hcs⟩:=(hr0:RepV1 w A N.nm μ s.heap v0 (.agg cs))
   have hxs:xs.map a.eval = #[.agg vc]:=by
    apply Array.ext_getElem?
    intro i
    cases i with
    | zero=>rw [hv0]; rfl
    | succ i =>
      have:(xs.map a.eval).size=1:=h1
      rw [Array.getElem?_eq_none (by omega)]; simp
   have hys:ys.map a.eval = #[]:=by
    have:(ys.map a.eval).size=0:=h3
    exact Array.eq_empty_of_size_eq_zero this
   rw [hxs,hys]
   obtain ⟨t1,t2⟩:=trees_spec hts
   have hvs:vc.size=ts.length:=by rw [t1, <- hlen]; simp
   refine (RepC.t ?_).toV
   refine .fa k ts vc (fun j=>(vc[j]?).getD undef) hvs ?_ ?_
   ·intro j x hj
    obtain ⟨y,hy,rfl⟩:=t2 j x hj
    obtain ⟨v,hv,_⟩:=hcs j _ hy
    have:vc[j]? = some v:=by simpa using hv
    rw [this]; rfl
   ·intro j x hj
    obtain ⟨y,hy,rfl⟩:=t2 j x hj
    obtain ⟨v,hv,hr⟩:=hcs j _ hy
    have:vc[j]? = some v:=by simpa using hv
    rw [this]
    cases hr with
    | t h=>exact h.norm
  ·simp at hfv
theorem run_bound {v:Value} {k:IntKind} {m:Int} {y:Nat} {code:BoundsCode} (hv:v = .int k m) (h0:0<=m) (h1:m<=y):(Instr.sliceBound v y code).run P w = .ok m.toNat w:=by
 simp [Instr.sliceBound,hv,asIntOf,h0,h1]
theorem opt_eval (hI:I.Ok N) (R:Rel N c ns A μ lam s a w) {x:Option Operand} {y:Option Opd} {d:Nat} {n:Int} (hx:opdO I x=some y) (hv:evOpt N.G s d y=some n) :
 (x=none/\n=d) \/ ∃ o k,x=some o/\a.eval o = .int k n:=by
 cases x with
 | none =>
   simp only [opdO,Option.some.injEq] at hx; subst hx
   simp only [evOpt,Option.some.injEq] at hv
   exact .inl ⟨rfl,hv.symm⟩
 | some o =>
   simp only [opdO,Option.map_eq_some_iff] at hx
   obtain ⟨z,hz,rfl⟩:=hx
   obtain ⟨k,hk⟩:=int_eval hI R hz hv
   exact .inr ⟨o,k,rfl,hk⟩
theorem run_bounds {lo hi:Option Value} {len cap:Nat} {l h:Int} {b:Bool} (hh:(hi=none/\h=len) \/ ∃ k,hi=some (.int k h))
 (hl:(lo=none/\l=0) \/ ∃ k,lo=some (.int k l)) (h0:0<=l) (h1:l<=h) (h2:h<=cap) :
 (Instr.sliceBounds b len cap lo hi none).run P w = .ok (l.toNat,h.toNat,cap) w:=by
 have e1 : ∀ k code,(Instr.sliceBound (.int k h) cap code).run P w = .ok h.toNat w:=fun k code=>run_bound rfl (by omega) h2
 have e2 : ∀ k code,(Instr.sliceBound (.int k l) h.toNat code).run P w = .ok l.toNat w:=fun k code=>run_bound rfl h0 (by omega)
 rcases hh with ⟨rfl,rfl⟩ | ⟨k,rfl⟩ <;> rcases hl with ⟨rfl,rfl⟩ | ⟨k',rfl⟩
 ·simp [Instr.sliceBounds]
 ·have:=e2 k' .sliceB
  simp only [Int.toNat_natCast] at this
  simp [Instr.sliceBounds,this]
 ·simp [Instr.sliceBounds,e1]
 ·simp [Instr.sliceBounds,e1,e2]
theorem s_slice (hI:I.Ok N) (R:Rel N c ns A μ lam s a w) {x:Operand} {lo hi mx:Option Operand} {x' : Opd} {lo' hi' mx' : Option Opd} {t el:TypeId} {n:Nat} {ag:Bool}
 (hx:opd I x=some x') (hlo:opdO I lo=some lo') (hhi:opdO I hi=some hi') (hmx:opdO I mx=some mx') (ht:P.underlying t=some (.slice el)) (hty:typ P el=some (ag,n))
 (he:aeval N.G p s (.slice n x' lo' hi' mx')=some e):Gives N A μ s w ((Instr.sliceAt t (a.eval x) (lo.map a.eval) (hi.map a.eval) (mx.map a.eval)).run P w) e:=by
 simp only [aeval,Option.bind_eq_bind,Option.bind_eq_some_iff] at he
 obtain ⟨u,hu,len,hlen,h,hh,l,hl,he⟩:=he
 have hrep:=opd_eval hI R hx hu
 obtain ⟨ad,cap,hv⟩:=hrep.len_inv hlen
 obtain ⟨inf,g1,g2,g3,g4⟩:=typ_spec hty
 have hcap:len<=cap:=by
  rw [hv] at hrep
  unfold lenOf at hlen
  split at hlen
  ·simp only [Option.some.injEq] at hlen; omega
  ·simp only [Option.some.injEq] at hlen
   rcases hrep.t_inv.sl_inv with ⟨rfl,_⟩ | ⟨r,off,cap',sz,vf,he,h0,hc,_⟩
   ·simp at hlen; omega
   ·cases he; exact hc
  ·split at hlen <;> simp only [Option.some.injEq,reduceCtorEq] at hlen
   rename_i hk; subst hlen
   cases (hrep:RepC w A N.nm μ s.heap _ _) with
   | ms _ _ _ _ _ _ _ _ _ hi hc=>omega
   | dms _ _ _ hk' => rw [hk] at hk'; cases hk'
  ·simp at hlen
 have hh' : (hi.map a.eval=none/\h=len) \/ ∃ k,hi.map a.eval=some (.int k h):=by
  rcases opt_eval hI R hhi hh with ⟨rfl,h⟩ | ⟨o,k,rfl,h⟩
  ·exact .inl ⟨rfl,h⟩
  ·exact .inr ⟨k,by simp [h]⟩
 have hl' : (lo.map a.eval=none/\l=0) \/ ∃ k,lo.map a.eval=some (.int k l):=by
  rcases opt_eval hI R hlo hl with ⟨rfl,h⟩ | ⟨o,k,rfl,h⟩
  ·exact .inl ⟨rfl,by simpa using h⟩
  ·exact .inr ⟨k,by simp [h]⟩
 cases mx with
 | none =>
   simp only [opdO,Option.some.injEq] at hmx; subst hmx
   simp only at he
   split at he
   ·rename_i hb
    obtain ⟨hb0,hb1,hb2⟩:=hb
    have hrun:(Instr.sliceAt t (a.eval x) (lo.map a.eval) (hi.map a.eval) (Option.map a.eval none)).run P w =
     .ok (.slice (if cap=l.toNat then ad else ad.map (·.add (l.toNat*n))) (h.toNat-l.toNat) (cap-l.toNat)) w:=by
     have:=run_bounds (P:=P) (w:=w) (b:=true) (cap:=cap) hh' hl' hb0 hb1 (by omega)
     simp [Instr.sliceAt,run_und ht,Instr.slice,hv,this,run_size g1,g2]
    refine ⟨_,hrun, ?_⟩
    split at he
    ·simp only [Option.some.injEq] at he; subst he
     simp only [lenOf,Option.some.injEq] at hlen
     subst hlen
     have hl0:l.toNat=0:=by omega
     have hh0:h.toNat=0:=by omega
     rw [hv] at hrep
     have hc0:cap=0:=by obtain ⟨_,he⟩:=hrep.t_inv.nils_inv; cases he; rfl
     subst hc0
     rw [hl0,hh0]
     exact ⟨(RepC.t (.nils _)).toV,rfl,rfl,rfl,rfl⟩
    ·rename_i es
     split at he
     ·rename_i hall
      simp only [Option.some.injEq] at he; subst he
      simp only [lenOf,Option.some.injEq] at hlen
      subst hlen
      refine ⟨?_,rfl,rfl,rfl,rfl⟩
      have hhl:(h-l).toNat=h.toNat-l.toNat:=by omega
      by_cases hemp:h.toNat-l.toNat=0
      ·rw [hhl,hemp,List.take_zero]
       exact (RepC.t (.sl0 _ _)).toV
      ·rw [hv] at hrep
       rcases hrep.t_inv.sl_inv with ⟨rfl,_⟩ | ⟨r,off,cap',sz,vf,heq,h0,hc,hA,hs,hvv,hr⟩
       ·simp at hb2; omega
       ·cases heq
        have hlen' : ((es.drop l.toNat).take (h-l).toNat).length=h.toNat-l.toNat:=by simp; omega
        have hne:cap≠l.toNat:=by omega
        have hsz:sz=n:=by
         have h00:0<es.length:=h0
         have:=hs 0 es[0] (List.getElem?_eq_getElem h00)
         have h2:=List.all_eq_true.1 hall es[0] (List.getElem_mem h00)
         simp only [decide_eq_true_eq] at h2
         omega
        subst hsz
        have key:=RepT.sl (w:=w) (A:=A) (nm:=N.nm) r (off+l.toNat*sz) (cap-l.toNat) sz ((es.drop l.toNat).take (h-l).toNat) (fun i j=>vf (l.toNat+i) j)
         (by rw [hlen']; omega) (by rw [hlen']; omega) hA ?_ ?_ ?_
        ·rw [if_neg hne]
         simp only [Option.map_some,addr_add]
         rw [hlen'] at key
         exact (RepC.t key).toV
        ·intro i e0 hi
         simp only [List.getElem?_take,List.getElem?_drop] at hi
         split at hi
         ·exact hs _ e0 hi
         ·simp at hi
        ·intro i e0 j y hi hj
         simp only [List.getElem?_take,List.getElem?_drop] at hi
         split at hi
         ·have:=hvv _ e0 j y hi hj
          rw [Nat.add_mul] at this
          have e1:off+l.toNat*sz+i*sz+j=off+(l.toNat*sz+i*sz)+j:=by omega
          rw [e1]; exact this
         ·simp at hi
        ·intro i e0 j y hi hj
         simp only [List.getElem?_take,List.getElem?_drop] at hi
         split at hi
         ·exact hr _ e0 j y hi hj
         ·simp at hi
     ·simp at he
    ·rename_i kk i ll
     split at he <;> try (simp at he; done)
     rename_i sz rs frz hk
     split at he <;> simp only [Option.some.injEq,reduceCtorEq] at he
     rename_i hsz; subst hsz; subst he
     simp only [lenOf,hk,Option.some.injEq] at hlen
     subst hlen
     refine ⟨?_,rfl,rfl,rfl,rfl⟩
     rw [hv] at hrep
     cases (hrep:RepC w A N.nm μ s.heap _ _) with
     | ms _ _ _ _ sz' rs' frz' _ hk' hi' hc ha =>
       rw [hk] at hk'; cases hk'
       have hhl:(h-l).toNat=h.toNat-l.toNat:=by omega
       rw [hhl]
       refine (RepC.ms kk (i+l.toNat) (h.toNat-l.toNat) (cap-l.toNat) sz rs frz _ hk (by omega) (by omega) ?_).toV
       by_cases hc0:cap-l.toNat=0
       ·exact .inl hc0
       ·right
        rcases ha with ha | ⟨rfl,e1,n1,hs1,hn1⟩
        ·omega
        ·rw [if_neg (by omega)]
         refine ⟨by simp [addr_add,Nat.add_mul],e1,n1,hs1, ?_⟩
         have:i+l.toNat+(cap-l.toNat)=i+cap:=by omega
         rw [this]; exact hn1
     | dms _ _ _ hk' => rw [hk] at hk'; cases hk'
    ·simp at he
   ·split at he <;> try (simp at he; done)
    rename_i kk i ll
    split at he <;> try (simp at he; done)
    rename_i sz rs frz hk
    split at he <;> simp only [Option.some.injEq,reduceCtorEq] at he
    rename_i hcnd
    obtain ⟨hsz,hb0,hb1,hb2⟩:=hcnd
    subst hsz; subst he
    rw [hv] at hrep
    cases (hrep:RepC w A N.nm μ s.heap _ _) with
    | ms _ _ _ _ sz' rs' frz' _ hk' hi' hc ha =>
      rw [hk] at hk'; cases hk'
      have hrun:(Instr.sliceAt t (a.eval x) (lo.map a.eval) (hi.map a.eval) (Option.map a.eval none)).run P w =
       .ok (.slice (if cap=l.toNat then ad else ad.map (·.add (l.toNat*sz))) (h.toNat-l.toNat) (cap-l.toNat)) w:=by
       have:=run_bounds (P:=P) (w:=w) (b:=true) (cap:=cap) hh' hl' hb0 hb1 (by omega)
       simp [Instr.sliceAt,run_und ht,Instr.slice,hv,this,run_size g1,g2]
      refine ⟨_,hrun, ?_,rfl,rfl,rfl,rfl⟩
      have hhl:(h-l).toNat=h.toNat-l.toNat:=by omega
      rw [hhl]
      refine (RepC.ms kk (i+l.toNat) (h.toNat-l.toNat) (cap-l.toNat) sz rs frz _ hk (by omega) (by omega) ?_).toV
      by_cases hc0:cap-l.toNat=0
      ·exact .inl hc0
      ·right
       rcases ha with ha | ⟨rfl,e1,n1,hs1,hn1⟩
       ·omega
       ·rw [if_neg (by omega)]
        refine ⟨by simp [addr_add,Nat.add_mul],e1,n1,hs1, ?_⟩
        have:i+l.toNat+(cap-l.toNat)=i+cap:=by omega
        rw [this]; exact hn1
    | dms _ _ _ hk' => rw [hk] at hk'; cases hk'
 | some mo =>
   simp only [opdO,Option.map_eq_some_iff] at hmx
   obtain ⟨m',hm',rfl⟩:=hmx
   simp only [Option.bind_eq_some_iff] at he
   obtain ⟨m,hm,he⟩:=he
   obtain ⟨km,hkm⟩:=int_eval hI R hm' hm
   split at he
   ·rename_i hb
    obtain ⟨rfl,rfl,rfl,his⟩:=hb
    have hval:e = { val:=.t .nils }:=by
     split at he <;> simp only [Option.some.injEq,reduceCtorEq] at he <;> exact he.symm
    subst hval
    obtain ⟨kh,hh2⟩ : ∃ k,hi.map a.eval=some (.int k 0):=by
     cases hi with
     | none=>simp only [opdO,Option.some.injEq] at hhi; subst hhi; simp at his
     | some o =>
       rcases hh' with ⟨h,_⟩ | h
       ·simp at h
       ·exact h
    refine ⟨.slice ad 0 0, ?_,(RepC.t (.nils _)).toV,rfl,rfl,rfl,rfl⟩
    have b1 : ∀ (kk:IntKind) (y:Nat) (code:BoundsCode),(Instr.sliceBound (.int kk 0) y code).run P w = .ok 0 w:=fun kk y code=>by
     have:=run_bound (P:=P) (w:=w) (code:=code) (v:=.int kk 0) (y:=y) rfl (Int.le_refl 0) (by omega)
     simpa using this
    rcases hl' with ⟨h1,_⟩ | ⟨kl,h1⟩
    ·simp [Instr.sliceAt,run_und ht,Instr.slice,hv,Instr.sliceBounds,hh2,h1,hkm,b1,run_size g1]
    ·simp [Instr.sliceAt,run_und ht,Instr.slice,hv,Instr.sliceBounds,hh2,h1,hkm,b1,run_size g1]
   ·split at he <;> simp only [Option.some.injEq,reduceCtorEq] at he
    rename_i hcnd
    obtain ⟨c0,c1,c2,c3,his⟩:=hcnd
    subst he
    obtain ⟨kh,hh2⟩ : ∃ k,hi.map a.eval=some (.int k h):=by
     cases hi with
     | none=>simp only [opdO,Option.some.injEq] at hhi; subst hhi; simp at his
     | some o =>
       rcases hh' with ⟨h,_⟩ | h
       ·simp at h
       ·exact h
    have b1 : ∀ code,(Instr.sliceBound (.int km m) cap code).run P w = .ok m.toNat w:=fun code=>run_bound rfl (by omega) (by omega)
    have b2 : ∀ code,(Instr.sliceBound (.int kh h) m.toNat code).run P w = .ok h.toNat w:=fun code=>run_bound rfl (by omega) (by omega)
    have b3 : ∀ kk code,(Instr.sliceBound (.int kk l) h.toNat code).run P w = .ok l.toNat w:=fun kk code=>run_bound rfl (by omega) (by omega)
    rcases hl' with ⟨h1,h2⟩ | ⟨kl,h1⟩
    ·exact ⟨_,by simp [Instr.sliceAt,run_und ht,Instr.slice,hv,Instr.sliceBounds,hh2,h1,hkm,b1,b2,run_size g1]; rfl,trivial,rfl,rfl,rfl,rfl⟩
    ·exact ⟨_,by simp [Instr.sliceAt,run_und ht,Instr.slice,hv,Instr.sliceBounds,hh2,h1,hkm,b1,b2,b3,run_size g1]; rfl,trivial,rfl,rfl,rfl,rfl⟩
theorem s_slstr (hI:I.Ok N) (R:Rel N c ns A μ lam s a w) {x:Operand} {lo hi:Option Operand} {x' : Opd} {lo' hi' : Option Opd} {t:TypeId}
 (hx:opd I x=some x') (hlo:opdO I lo=some lo') (hhi:opdO I hi=some hi') (ht:P.underlying t=some .string)
 (he:aeval N.G p s (.slstr x' lo' hi')=some e):Gives N A μ s w ((Instr.sliceAt t (a.eval x) (lo.map a.eval) (hi.map a.eval) none).run P w) e:=by
 simp only [aeval,Option.bind_eq_bind,Option.bind_eq_some_iff] at he
 obtain ⟨u,hu,he⟩:=he
 split at he
 ·rename_i b
  simp only [Option.bind_eq_some_iff] at he
  obtain ⟨h,hh,l,hl,he⟩:=he
  split at he
  ·rename_i hb
   simp only [Option.some.injEq] at he; subst he
   have hv:=(opd_eval hI R hx hu).str_inv
   have hh' : (hi.map a.eval=none/\h=b.size) \/ ∃ k,hi.map a.eval=some (.int k h):=by
    rcases opt_eval hI R hhi hh with ⟨rfl,h⟩ | ⟨o,k,rfl,h⟩
    ·exact .inl ⟨rfl,h⟩
    ·exact .inr ⟨k,by simp [h]⟩
   have hl' : (lo.map a.eval=none/\l=0) \/ ∃ k,lo.map a.eval=some (.int k l):=by
    rcases opt_eval hI R hlo hl with ⟨rfl,h⟩ | ⟨o,k,rfl,h⟩
    ·exact .inl ⟨rfl,by simpa using h⟩
    ·exact .inr ⟨k,by simp [h]⟩
   have:=run_bounds (P:=P) (w:=w) (b:=false) hh' hl' hb.1 hb.2.1 hb.2.2
   refine ⟨_, ?_,(RepC.t (.str _)).toV,rfl,rfl,rfl,rfl⟩
   simp [Instr.sliceAt,run_und ht,Instr.slice,hv,this]
  ·simp at he
 ·simp at he
end
end Rg
end
section
namespace Rg
open Go
theorem wr_get {α:Type} {cs new r:List α} {off:Nat} (h:wr cs off new=some r) :
 off+new.length<=cs.length/\r.length=cs.length /\ ∀ k,r[k]? = if off<=k/\k<off+new.length then new[k-off]? else cs[k]? := by
 unfold wr at h
 split at h
 ·rename_i hle
  simp only [Option.some.injEq] at h; subst h
  refine ⟨hle,by simp; omega,fun k => ?_⟩
  simp only [List.getElem?_append,List.length_append,List.length_take,List.getElem?_take,List.getElem?_drop]
  have hm:min off cs.length=off:=by omega
  rw [hm]
  by_cases h1:k<off
  ·rw [if_pos (by omega),if_pos h1,if_pos h1,if_neg (by omega)]
  ·by_cases h2:k<off+new.length
   ·rw [if_pos h2,if_neg h1,if_pos (by omega)]
   ·rw [if_neg h2,if_neg (by omega)]
    congr 1; omega
 ·simp at h
theorem fold_set (off:Nat) : ∀ (vs:List Value) (j0:Nat) (cs:Array Value),
 ((vs.zipIdx j0).foldl (fun cs (x:Value×Nat)=>match x with | (c,j)=>cs.setIfInBounds (off+j) c) cs).size=cs.size /\
 ∀ k,((vs.zipIdx j0).foldl (fun cs (x:Value×Nat)=>match x with | (c,j)=>cs.setIfInBounds (off+j) c) cs)[k]? =
  if off+j0<=k/\k<off+j0+vs.length/\k<cs.size then vs[k-(off+j0)]? else cs[k]?
 | [],j0,cs=>by simp; intro k h1 h2; omega
 | v::vs,j0,cs=>by
   obtain ⟨h1,h2⟩:=fold_set off vs (j0+1) (cs.setIfInBounds (off+j0) v)
   simp only [List.zipIdx_cons,List.foldl_cons]
   refine ⟨by rw [h1]; simp,fun k => ?_⟩
   rw [h2 k]
   simp only [Array.size_setIfInBounds,Array.getElem?_setIfInBounds,List.length_cons]
   by_cases e:k=off+j0
   ·subst e
    rw [if_neg (by omega)]
    by_cases hlt:off+j0<cs.size
    ·rw [if_pos rfl,if_pos hlt,if_pos ⟨by omega,by omega,hlt⟩]; simp
    ·rw [if_pos rfl,if_neg hlt,if_neg (by omega)]
     simp [Array.getElem?_eq_none (Nat.le_of_not_lt hlt)]
   ·rw [if_neg (Ne.symm e)]
    by_cases h3:off+(j0+1)<=k/\k<off+(j0+1)+vs.length/\k<cs.size
    ·rw [if_pos h3,if_pos ⟨by omega,by omega,h3.2.2⟩]
     have:k-(off+j0)=(k-(off+(j0+1)))+1:=by omega
     rw [this]; simp
    ·rw [if_neg h3,if_neg (by omega)]
section
variable {w:World} {A:Nat->Prop} {nm μ:Nat->Nat} {H:Nat->Option O}
theorem RepL.splice {vs us:List Value} {cs new r:List V} {off:Nat} (h:RepL w A nm μ H vs cs) (hn:RepL w A nm μ H us new) (hw:wr cs off new=some r) (vs' : List Value) (hl:vs'.length=vs.length)
 (hg : ∀ k,k<vs.length->vs'[k]? = if off<=k/\k<off+us.length then us[k-off]? else vs[k]?):RepL w A nm μ H vs' r:=by
 obtain ⟨h1,h2,h3⟩:=wr_get hw
 refine ⟨by rw [hl,h.1,h2],fun i x hi => ?_⟩
 have hlt:i<vs.length:=by rw [h.1, <- h2]; exact (List.getElem?_eq_some_iff.1 hi).1
 rw [h3 i] at hi
 rw [hg i hlt]
 by_cases hc:off<=i/\i<off+new.length
 ·rw [if_pos hc] at hi
  rw [if_pos (by rw [hn.1]; exact hc)]
  exact hn.2 _ x hi
 ·rw [if_neg hc] at hi
  rw [if_neg (by rw [hn.1]; exact hc)]
  exact h.2 i x hi
end
section
variable {P:Program} {N:Nam} {I:Inv} {c:Ctx} {ns p:Nat} {A:Nat->Prop} {μ lam:Nat->Nat} {s:St} {a:Act} {w:World} {e:Eff}
theorem fill_rep (hI:I.Ok N) (R:Rel N c ns A μ lam s a w) (place:Nat->Option (Nat×Nat)) : ∀ (parts:List (Nat×Operand)) (ps:List (Nat×Nat×Opd)) (cells:Array Value) (cs cs' : List V),
 (parts.length=ps.length /\ ∀ (i:Nat) (q:Nat×Nat×Opd),ps[i]? = some q -> ∃ x,parts[i]? = some x/\place x.1=some (q.1,q.2.1)/\opd I x.2=some q.2.2) ->
 RepL w A N.nm μ s.heap cells.toList cs->fillParts N.G cs s ps=some cs' ->
 ∃ cells',Instr.fill place cells (parts.map fun x=>(x.1,a.eval x.2))=some cells' /\ RepL w A N.nm μ s.heap cells'.toList cs'
 | [],ps,cells,cs,cs',hps,hrep,hf=>by
   obtain ⟨hl,_⟩:=hps
   have:ps=[]:=List.length_eq_zero_iff.1 (by simpa using hl.symm)
   subst this
   simp only [fillParts,Option.some.injEq] at hf; subst hf
   exact ⟨cells,rfl,hrep⟩
 | (i,x)::parts,[],cells,cs,cs',hps,hrep,hf=>by simp at hps
 | (i,x)::parts,(off,n,y)::ps,cells,cs,cs',hps,hrep,hf=>by
   obtain ⟨hl,hq⟩:=hps
   obtain ⟨q0,hq0,hpl,hop⟩:=hq 0 _ rfl
   simp only [List.getElem?_cons_zero,Option.some.injEq] at hq0; subst hq0
   simp only at hpl hop
   simp only [fillParts,Option.bind_eq_bind,Option.bind_eq_some_iff] at hf
   obtain ⟨v,hv,new,hnew,hf⟩:=hf
   split at hf
   ·rename_i hlen
    simp only [Option.bind_eq_some_iff] at hf
    obtain ⟨cs1,hw1,hf⟩:=hf
    have hr:=(opd_eval hI R hop hv).cells hnew
    obtain ⟨g1,g2,g3⟩:=wr_get hw1
    have hsz:(a.eval x).cells.size=n:=by have:=hr.1; simp at this; omega
    obtain ⟨f1,f2⟩:=fold_set off (a.eval x).cells.toList 0 cells
    have hrep1:RepL w A N.nm μ s.heap (((a.eval x).cells.toList.zipIdx 0).foldl (fun cs (x:Value×Nat)=>match x with | (c,j)=>cs.setIfInBounds (off+j) c) cells).toList cs1:=by
     refine hrep.splice hr hw1 _ (by simpa using f1) (fun k hk => ?_)
     simp only [Array.getElem?_toList]
     rw [f2 k]
     simp only [Nat.add_zero,Array.length_toList] at hk ⊢
     by_cases hc:off<=k/\k<off+(a.eval x).cells.size
     ·rw [if_pos ⟨hc.1,hc.2,hk⟩,if_pos hc]; simp
     ·rw [if_neg (by omega),if_neg hc]
    obtain ⟨cells',h1,h2⟩:=fill_rep hI R place parts ps _ cs1 cs' ⟨by simpa using hl,fun i q hi=>by
     obtain ⟨z,hz,hz2⟩:=hq (i+1) q (by simpa using hi)
     exact ⟨z,by simpa using hz,hz2⟩⟩ hrep1 hf
    refine ⟨cells', ?_,h2⟩
    have hcl:cells.size=cs.length:=by have:=hrep.1; simpa using this
    have hnot : ¬ (off+(a.eval x).cells.size>cells.size):=by omega
    simp only [List.map_cons,Instr.fill,hpl,hsz]
    rw [<- h1]
    have:(decide (n≠n)||decide (off+n>cells.size))=false:=by simp; omega
    simp only [this,Bool.false_eq_true,if_false]
    congr 1
    rw [<- Array.foldl_toList]
    simp
   ·simp at hf
theorem run_mapM_places {fields:Array Field} (h:fields.toList.all (fun f=>(typ P f.type).isSome)=true) :
 (fields.mapM (m:=Sem) fun f=>do pure (f.offset, <- Go.sizeOf f.type)).run P w = .ok (fields.map fun f=>(f.offset,(P.info? f.type).elim 0 (·.size))) w:=by
 have key : ∀ (l:List Field),l.all (fun f=>(typ P f.type).isSome)=true ->
  (l.mapM (m:=Sem) fun f=>do pure (f.offset, <- Go.sizeOf f.type)).run P w = .ok (l.map fun f=>(f.offset,(P.info? f.type).elim 0 (·.size))) w:=by
  intro l hl
  induction l with
  | nil=>simp
  | cons f l ih =>
    simp only [List.all_cons,Bool.and_eq_true] at hl
    obtain ⟨⟨ag,n⟩,hty⟩:=Option.isSome_iff_exists.1 hl.1
    obtain ⟨inf,g1,g2,g3,g4⟩:=typ_spec hty
    simp only [List.mapM_cons,Sem.run_bind,run_size g1,Result.andThen_ok,Sem.run_pure,ih hl.2]
    simp [g1]
 rw [Array.mapM_eq_mapM_toList]
 simp only [Sem.run_map,key _ h,Result.andThen_ok]
 congr 1
 apply Array.ext'
 simp
theorem zeroOf_spec {t:TypeId} {z:List V} (h:zeroOf P t=some z) : ∃ i v,P.info? t=some i/\i.zero=some v/\cellsOf v=some z /\ ∀ w,(zeroValue t).run P w = .ok v w:=by
 unfold zeroOf at h
 split at h
 ·rename_i i hi
  split at h
  ·rename_i v hv
   exact ⟨i,v,hi,hv,h,fun w=>by simp [zeroValue,run_info hi,hv]⟩
  ·simp at h
 ·simp at h
theorem s_build (hI:I.Ok N) (R:Rel N c ns A μ lam s a w) {t:TypeId} {z:List V} {parts:Array (Nat×Operand)} {ps:List (Nat×Nat×Opd)} {place:Nat->Option (Nat×Nat)}
 (hz:zeroOf P t=some z)
 (hu:(∃ fields,P.underlying t=some (.struct fields)/\fields.toList.all (fun f=>(typ P f.type).isSome)=true/\place=((fields.map fun f=>(f.offset,(P.info? f.type).elim 0 (·.size)))[·]?)) \/
   (∃ len el ag n,P.underlying t=some (.array len el)/\typ P el=some (ag,n)/\place=fun i=>some (i*n,n)))
 (hps:parts.toList.length=ps.length /\ ∀ (i:Nat) (q:Nat×Nat×Opd),ps[i]? = some q -> ∃ x,parts.toList[i]? = some x/\place x.1=some (q.1,q.2.1)/\opd I x.2=some q.2.2)
 (he:aeval N.G p s (.build z ps)=some e):Gives N A μ s w ((Instr.build t (parts.map fun (i,x)=>(i,a.eval x))).run P w) e:=by
 simp only [aeval,Option.bind_eq_bind,Option.bind_eq_some_iff,Option.some.injEq] at he
 obtain ⟨cs,hcs,rfl⟩:=he
 obtain ⟨i,v,hi,hv,hc,hrun⟩:=zeroOf_spec hz
 obtain ⟨cells',h1,h2⟩:=fill_rep hI R place parts.toList ps v.cells z cs hps (cellsOf_rep hc) hcs
 have hmap:(parts.map fun (i,x)=>(i,a.eval x)).toList=parts.toList.map fun x=>(x.1,a.eval x.2):=by simp
 refine ⟨.agg cells', ?_,⟨cells',rfl,h2⟩,rfl,rfl,rfl,rfl⟩
 rcases hu with ⟨fields,hf,hall,rfl⟩ | ⟨len,el,ag,n,hf,hty,rfl⟩
 ·simp only [Instr.build,Sem.run_bind,hrun w,Result.andThen_ok,run_und hf,run_mapM_places hall,hmap,h1,Sem.run_pure]
 ·obtain ⟨inf,g1,g2,g3,g4⟩:=typ_spec hty
  simp only [Instr.build,Sem.run_bind,hrun w,Result.andThen_ok,run_und hf,run_size g1,g2,hmap,h1,Sem.run_pure]
end
end Rg
end
section
namespace Rg
open Go
def Sound (P:Program) (N:Nam) (c:Ctx) (ns:Nat) (o:Oper) (a:Act) (w:World) (s' : St):Prop :=
 ∃ v w' A' μ' lam',((execOp a.eval o).run P w = .ok (.value v) w' \/ ((execOp a.eval o).run P w = .ok .skip w' /\ v=undef))/\Rel N c ns A' μ' lam' s' (a.put o.dst v) w'
section
variable {P:Program} {N:Nam} {I:Inv} {c:Ctx} {ns p:Nat} {A:Nat->Prop} {μ lam:Nat->Nat} {s:St} {a:Act} {w:World} {e:Eff} {o:Oper}
theorem Gives.sound (R:Rel N c ns A μ lam s a w) {r:Result Value} (h:Gives N A μ s w r e) (hr:(execOp a.eval o).run P w=r.andThen fun v w' => .ok (.value v) w')
 (hd : ∀ x,o.dst=some x->x<ns) (hf:s.free o.dst e):Sound P N c ns o a w (s.apply o.dst e):=by
 obtain ⟨v,rfl,hv,h1,h2,h3,h4⟩:=h
 exact ⟨v,w,A,μ,lam, .inl (by rw [hr]; rfl),R.put o.dst e v hd hf h2 h3 h4 hv (by simp [h1])⟩
theorem evo_alloc (R:Rel N c ns A μ lam s a w) (ob:Go.Obj):Evo w A μ s.heap (w.alloc ob) A μ s.heap:=by
 refine ⟨fun r h => ?_,fun _ h=>h,fun _ o h=>⟨o,h,O.le_refl o,fun _=>rfl⟩,fun r x h=>shape?_push w ob r x h⟩
 have:=R.alt r h
 simp only [World.alloc,Array.getElem?_push]; simp [Nat.ne_of_lt this]
theorem heap_alloc (w:World) (ob:Go.Obj):(w.alloc ob).heap[w.heap.size]? = some ob:=by
 simp only [World.alloc,Array.getElem?_push]; simp
theorem newL (R:Rel N c ns A μ lam s a w) {d:Nat} {cells:Array Value} {cs:List V} {t:TypeId} (hd:d<ns) (hu:s.used d=false) (hrep:RepL w A N.nm μ s.heap cells.toList cs) :
 Rel N c ns A μ (upd lam d w.heap.size) (s.apply (some d) { val:=.lb,loc:=some cs }) (a.put (some d) (.pointer (some ⟨w.heap.size,0,none⟩))) (w.alloc (.cells cells t)) :=
 (R.alloc _).adoptL d hd hu R.orphan_new ⟨cells,t,heap_alloc w _,hrep.evo (evo_alloc R _)⟩
theorem newH (R:Rel N c ns A μ lam s a w) {k sz:Nat} {cells:Array Value} {rs:List (List V)} {t:TypeId} (hk:s.heap k=none) (hn:k<s.nxt)
 (h1:rs.length*sz<=cells.size) (h2 : ∀ (i:Nat) (row:List V),rs[i]? = some row->row.length=sz)
 (h3 : ∀ (i:Nat) (row:List V) (j:Nat) (x:V),rs[i]? = some row->row[j]? = some x -> ∃ v,cells[i*sz+j]? = some v/\RepC w A N.nm μ s.heap v x) :
 Rel N c ns A (upd μ k w.heap.size) lam { s with heap:=upd s.heap k (some (.rows sz rs false)) } a (w.alloc (.cells cells t)) :=
 (R.alloc _).adoptH (o:=.rows sz rs false) hk hn R.orphan_new ⟨cells,t,(0,0),heap_alloc w _,fun _=>rfl,h1,h2,fun i row j x g1 g2=>let ⟨v,hv,hr⟩:=h3 i row j x g1 g2; ⟨v,hv,hr.evo (evo_alloc R _)⟩⟩ (by simp)
theorem one_row {cells:Array Value} {cs:List V} (hrep:RepL w A N.nm μ s.heap cells.toList cs) :
 [cs].length*cs.length<=cells.size/\(∀ (i:Nat) (row:List V),[cs][i]? = some row->row.length=cs.length) /\
 ∀ (i:Nat) (row:List V) (j:Nat) (x:V),[cs][i]? = some row->row[j]? = some x -> ∃ v,cells[i*cs.length+j]? = some v/\RepC w A N.nm μ s.heap v x:=by
 have hl:=hrep.1
 simp only [Array.length_toList] at hl
 refine ⟨by simp [hl],fun i row h => ?_,fun i row j x h1 h2 => ?_⟩
 ·cases i with
  | zero=>simp at h; rw [h]
  | succ i=>simp at h
 ·cases i with
  | zero =>
    simp at h1; subst h1
    obtain ⟨v,hv,hr⟩:=hrep.2 j x h2
    exact ⟨v,by simpa using hv,hr⟩
  | succ i=>simp at h1
theorem s_allocL (R:Rel N c ns A μ lam s a w) {t:TypeId} {z:List V} {d:Nat} (hz:zeroOf P t=some z) (ho:o.op = .alloc t) (hdst:o.dst=some d)
 (hd : ∀ x,o.dst=some x->x<ns) (hf:s.free o.dst e) (he:aeval N.G p s (.allocL z)=some e):Sound P N c ns o a w (s.apply o.dst e):=by
 simp only [aeval,Option.some.injEq] at he; subst he
 obtain ⟨i,v,hi,hv,hc,hrun⟩:=zeroOf_spec hz
 refine ⟨_,_,A,μ,_, .inl ?_,by rw [hdst]; exact newL R (t:=t) (hd d hdst) (hf d hdst).1 (cellsOf_rep hc)⟩
 simp [execOp,ho,Instr.alloc,hrun,newVar,newRow]
theorem s_allocH (R:Rel N c ns A μ lam s a w) {t:TypeId} {z:List V} (hz:zeroOf P t=some z) (ho:o.op = .alloc t)
 (hd : ∀ x,o.dst=some x->x<ns) (hf:s.free o.dst e) (hk:s.heap (s.bas+p)=none) (hn:s.bas+p<s.nxt) (he:aeval N.G p s (.allocH z)=some e):Sound P N c ns o a w (s.apply o.dst e):=by
 simp only [aeval,Option.some.injEq] at he; subst he
 obtain ⟨i,v,hi,hv,hc,hrun⟩:=zeroOf_spec hz
 obtain ⟨h1,h2,h3⟩:=one_row (w:=w) (A:=A) (N:=N) (μ:=μ) (s:=s) (cells:=v.cells) (cellsOf_rep hc)
 have R1:=newH R (t:=t) hk hn h1 h2 h3
 refine ⟨.pointer (some ⟨w.heap.size,0,none⟩),_,A,_,lam, .inl ?_,R1.put o.dst { val:=.mp (s.bas+p) 0 0 } _ hd hf rfl rfl rfl ?_ (by simp)⟩
 ·simp [execOp,ho,Instr.alloc,hrun,newVar,newRow]
 ·have:=RepC.mp (w:=w.alloc (.cells v.cells t)) (A:=A) (nm:=N.nm) (μ:=upd μ (s.bas+p) w.heap.size) (H:=upd s.heap (s.bas+p) (some (.rows z.length [z] false))) (s.bas+p) 0 0 z.length [z] false (by simp) (by simp)
  simpa using this.toV
theorem s_allocB (R:Rel N c ns A μ lam s a w) {t:TypeId} {z:List V} (hz:zeroOf P t=some z) (hb:isBld P t=true) (htB:N.tB=t) (ho:o.op = .alloc t)
 (hd : ∀ x,o.dst=some x->x<ns) (hf:s.free o.dst e) (hk:s.heap (s.bas+p)=none) (hn:s.bas+p<s.nxt) (he:aeval N.G p s .allocB=some e):Sound P N c ns o a w (s.apply o.dst e):=by
 simp only [aeval,Option.some.injEq] at he; subst he
 obtain ⟨i,v,hi,hv,hc,hrun⟩:=zeroOf_spec hz
 have hv' : v.cells = #[.pointer none, .slice none 0 0]:=by
  unfold isBld at hb
  rw [hi] at hb
  simp only [Option.bind_some,hv] at hb
  split at hb
  ·rename_i cs hcs
   cases hcs
   split at hb
   ·rename_i hl
    show cs=_
    apply Array.ext'
    simpa using hl
   ·cases hb
  ·cases hb
 have R1:=(R.alloc (.cells v.cells t)).adoptH (k:=s.bas+p) (o:=.raw (.bld none)) hk hn R.orphan_new ⟨.pointer none,by rw [<- hv',htB]; exact heap_alloc w _, .inl rfl⟩ (by simp)
 refine ⟨.pointer (some ⟨w.heap.size,0,none⟩),_,A,_,lam, .inl ?_,R1.put o.dst { val:=.mp (s.bas+p) 0 0 } _ hd hf rfl rfl rfl ?_ (by simp)⟩
 ·simp [execOp,ho,Instr.alloc,hrun,newVar,newRow]
 ·have:=RepC.mb (w:=w.alloc (.cells v.cells t)) (A:=A) (nm:=N.nm) (μ:=upd μ (s.bas+p) w.heap.size) (H:=upd s.heap (s.bas+p) (some (.raw (.bld none)))) (s.bas+p) (.bld none) (by simp)
  simpa using this.toV
theorem s_boxL (hI:I.Ok N) (R:Rel N c ns A μ lam s a w) {t:TypeId} {x:Operand} {x' : Opd} {n d:Nat} (hx:opd I x=some x') (ho:o.op = .box t x) (hdst:o.dst=some d)
 (hd : ∀ x,o.dst=some x->x<ns) (hf:s.free o.dst e) (he:aeval N.G p s (.boxL n x')=some e):Sound P N c ns o a w (s.apply o.dst e):=by
 simp only [aeval,Option.bind_eq_bind,Option.bind_eq_some_iff] at he
 obtain ⟨u,hu,cs,hcs,he⟩:=he
 split at he
 ·simp only [Option.some.injEq] at he; subst he
  have hr:=(opd_eval hI R hx hu).cells hcs
  refine ⟨_,_,A,μ,_, .inl ?_,by rw [hdst]; exact newL R (t:=t) (hd d hdst) (hf d hdst).1 hr⟩
  simp [execOp,ho,Instr.box,newVar,newRow]
 ·simp at he
theorem s_boxH (hI:I.Ok N) (R:Rel N c ns A μ lam s a w) {t:TypeId} {x:Operand} {x' : Opd} {n:Nat} (hx:opd I x=some x') (ho:o.op = .box t x)
 (hd : ∀ x,o.dst=some x->x<ns) (hf:s.free o.dst e) (hk:s.heap (s.bas+p)=none) (hn:s.bas+p<s.nxt) (he:aeval N.G p s (.boxH n x')=some e):Sound P N c ns o a w (s.apply o.dst e):=by
 simp only [aeval,Option.bind_eq_bind,Option.bind_eq_some_iff] at he
 obtain ⟨u,hu,cs,hcs,he⟩:=he
 split at he
 ·rename_i hlen
  subst hlen
  simp only [Option.some.injEq] at he; subst he
  have hr:=(opd_eval hI R hx hu).cells hcs
  obtain ⟨h1,h2,h3⟩:=one_row (w:=w) (A:=A) (N:=N) (μ:=μ) (s:=s) (cells:=(a.eval x).cells) hr
  have R1:=newH R (t:=t) hk hn h1 h2 h3
  refine ⟨.pointer (some ⟨w.heap.size,0,none⟩),_,A,_,lam, .inl ?_,R1.put o.dst { val:=.mp (s.bas+p) 0 0 } _ hd hf rfl rfl rfl ?_ (by simp)⟩
  ·simp [execOp,ho,Instr.box,newVar,newRow]
  ·have:=RepC.mp (w:=w.alloc (.cells (a.eval x).cells t)) (A:=A) (nm:=N.nm) (μ:=upd μ (s.bas+p) w.heap.size) (H:=upd s.heap (s.bas+p) (some (.rows cs.length [cs] false))) (s.bas+p) 0 0 cs.length [cs] false (by simp) (by simp)
   simpa using this.toV
 ·simp at he
theorem RepL.one {w:World} {A:Nat->Prop} {nm μ:Nat->Nat} {H:Nat->Option O} {vs:List Value} {cs:List V} (h:RepL w A nm μ H vs cs) : ∀ v∈vs,v.oneCell' = true:=by
 intro v hv
 obtain ⟨i,hi,he⟩:=List.getElem_of_mem hv
 have:i<cs.length:=by rw [<- h.1]; exact hi
 obtain ⟨u,hu,hr⟩:=h.2 i cs[i] (List.getElem?_eq_getElem this)
 rw [List.getElem?_eq_getElem hi,he] at hu
 cases hu
 exact hr.one
theorem s_storeL (hI:I.Ok N) (R:Rel N c ns A μ lam s a w) {t:TypeId} {x y:Operand} {x' y' : Opd} {n:Nat} {ag:Bool} (hx:opd I x=some x') (hy:opd I y=some y') (hty:typ P t=some (ag,n)) (ho:o.op = .store t x y)
 (he:aeval N.G p s (.storeL n x' y')=some e) (hnd:o.dst=none):Sound P N c ns o a w (s.apply o.dst e):=by
 simp only [aeval,Option.bind_eq_bind,Option.bind_eq_some_iff,Prod.exists] at he
 obtain ⟨b,off,hr,cs,hb,u,hu,new,hnew,he⟩:=he
 split at he
 ·rename_i hlen
  simp only [Option.bind_eq_some_iff,Option.some.injEq] at he
  obtain ⟨cs',hw,rfl⟩:=he
  obtain ⟨_,cc,e0,hc1,hc2⟩:=R.loc b cs hb
  have hrn:=(opd_eval hI R hy hu).cells hnew
  obtain ⟨inf,g1,g2,g3,g4⟩:=typ_spec hty
  obtain ⟨k1,k2,k3⟩:=wr_get hw
  have hcs:cc.size=cs.length:=by have:=hc2.1; simpa using this
  have hnl:(a.eval y).cells.toList.length=new.length:=hrn.1
  have hfit:off+0+(a.eval y).cells.toList.length<=cc.size:=by omega
  have hst:=run_storeCells_at P (lam b) off e0 (a.eval y).cells.toList 0 cc w hc1 hfit hrn.one
  let arr:Array Value:=(cc.toList.take (off+0)++(a.eval y).cells.toList++cc.toList.drop (off+0+(a.eval y).cells.toList.length)).toArray
  have harr:wr cc.toList off (a.eval y).cells.toList=some arr.toList:=by
   unfold wr
   rw [if_pos (by simpa using hfit)]
   simp [arr]
  obtain ⟨j1,j2,j3⟩:=wr_get harr
  have R1:=R.changeL (cs' := cs') (w' := w.setRow (lam b) arr) hb (by simp) (fun r hr=>setRow_other w _ r _ hr) (shape?_setRow hc1 (by simpa using j2))
   (fun E=>⟨arr,e0,setRow_heap w _ cc arr e0 _ hc1,(hc2.splice hrn hw arr.toList (by simpa using j2) (fun k _=>j3 k)).evo E⟩)
  refine ⟨undef,w.setRow (lam b) arr,A,μ,lam, .inr ⟨?_,rfl⟩, ?_⟩
  ·have hsz:(a.eval y).cells.size=n:=by simp at hnl; omega
   simp only [execOp,ho,Instr.storeAt,Sem.run_bind,ref_eval R hx hr hb,Instr.sureAddr,Sem.run_pure,Result.andThen_ok,storeVar,run_size g1,g2,hsz,ne_eq,not_true_eq_false,if_false]
   rw [hst]; rfl
  ·rw [hnd]; exact R1
 ·simp at he
theorem set_get {α:Type} {l:List α} {i j:Nat} {x y:α} (h:(l.set i x)[j]? = some y):(j=i/\y=x)\/(j≠i/\l[j]? = some y):=by
 rw [List.getElem?_set] at h
 by_cases e:i=j
 ·subst e
  left
  by_cases hlt:i<l.length
  ·simp [hlt] at h; exact ⟨rfl,h.symm⟩
  ·simp [hlt] at h
 ·simp [e] at h
  exact .inr ⟨fun e' => e e'.symm,h⟩
theorem s_store (hI:I.Ok N) (R:Rel N c ns A μ lam s a w) {t:TypeId} {x y:Operand} {x' y' : Opd} {n:Nat} {ag:Bool} (hx:opd I x=some x') (hy:opd I y=some y') (hty:typ P t=some (ag,n)) (ho:o.op = .store t x y)
 (he:aeval N.G p s (.store n x' y')=some e) (hnd:o.dst=none):Sound P N c ns o a w (s.apply o.dst e):=by
 simp only [aeval,Option.bind_eq_bind,Option.bind_eq_some_iff] at he
 obtain ⟨u,hu,he⟩:=he
 have hrep:=opd_eval hI R hx hu
 split at he
 ·rename_i k i off
  split at he
  ·rename_i sz rs hk
   simp only [Option.bind_eq_some_iff] at he
   obtain ⟨row,hrow,v,hv,new,hnew,he⟩:=he
   split at he
   ·rename_i hlen
    simp only [Option.bind_eq_some_iff,Option.some.injEq] at he
    obtain ⟨row',hw,rfl⟩:=he
    obtain ⟨hpv,hi⟩:=hrep.mp_inv hk
    obtain ⟨cc,e0,z,h1,h2,h3,h4,h5⟩:=R.heap k _ hk
    have hz:=h2 rfl
    subst hz
    have hrn:=(opd_eval hI R hy hv).cells hnew
    obtain ⟨inf,g1,g2,g3,g4⟩:=typ_spec hty
    obtain ⟨k1,k2,k3⟩:=wr_get hw
    have hrl:=h4 i row hrow
    have hnl:(a.eval y).cells.toList.length=new.length:=hrn.1
    have hrow_le:i*sz+sz<=cc.size:=by
     have:(i+1)*sz<=rs.length*sz:=Nat.mul_le_mul_right _ hi
     rw [Nat.succ_mul] at this; omega
    have hfit:(i*sz+off)+0+(a.eval y).cells.toList.length<=cc.size:=by omega
    have hst:=run_storeCells_at P (μ k) (i*sz+off) e0 (a.eval y).cells.toList 0 cc w h1 hfit hrn.one
    let arr:Array Value:=(cc.toList.take (i*sz+off+0)++(a.eval y).cells.toList++cc.toList.drop (i*sz+off+0+(a.eval y).cells.toList.length)).toArray
    have harr:wr cc.toList (i*sz+off) (a.eval y).cells.toList=some arr.toList:=by
     unfold wr
     rw [if_pos (by simpa using hfit)]
     simp [arr]
    obtain ⟨j1,j2,j3⟩:=wr_get harr
    have R1:=R.changeH (o' := .rows sz (rs.set i row') false) (w' := w.setRow (μ k) arr) hk ⟨rfl,by simp⟩ rfl (by simp) (by simp) rfl (by simp) (fun r hr=>setRow_other w _ r _ hr)
     (shape?_setRow h1 (by simpa using j2)) (fun E=>by
       refine ⟨arr,e0,(0,0),setRow_heap w _ cc arr e0 _ h1,fun _=>rfl, ?_, ?_, ?_⟩
       ·have:arr.size=cc.size:=by simpa using j2
        simp; omega
       ·intro i' row1 hr1
        rcases set_get hr1 with ⟨rfl,rfl⟩ | ⟨_,hr1⟩
        ·omega
        ·exact h4 i' row1 hr1
       ·intro i' row1 j x hr1 hj
        have hget : ∀ q,arr[q]? = arr.toList[q]? := fun q=>by rw [Array.getElem?_toList]
        rw [hget,j3]
        rcases set_get hr1 with ⟨rfl,rfl⟩ | ⟨hii,hr1⟩
        ·have hjl:j<sz:=by have:=(List.getElem?_eq_some_iff.1 hj).1; omega
         rw [k3 j] at hj
         split at hj
         ·rename_i hin
          rw [if_pos (by omega)]
          obtain ⟨q,hq,hqr⟩:=hrn.2 _ x hj
          refine ⟨q, ?_,hqr.evo E⟩
          have:i' * sz+j-(i' * sz+off)=j-off:=by omega
          rw [this]; exact hq
         ·rename_i hin
          rw [if_neg (by omega)]
          obtain ⟨q,hq,hqr⟩:=h5 i' row j x hrow hj
          exact ⟨q,by simpa using hq,hqr.evo E⟩
        ·have hjl:j<sz:=by have:=(List.getElem?_eq_some_iff.1 hj).1; have:=h4 i' row1 hr1; omega
         have hne : ¬ (i*sz+off<=i' * sz+j/\i' * sz+j<i*sz+off+(a.eval y).cells.toList.length):=by
          intro hh
          rcases Nat.lt_or_gt_of_ne hii with hlt | hlt
          ·have:(i' + 1)*sz<=i*sz:=Nat.mul_le_mul_right _ hlt
           rw [Nat.succ_mul] at this; omega
          ·have:(i+1)*sz<=i' * sz:=Nat.mul_le_mul_right _ hlt
           rw [Nat.succ_mul] at this; omega
         rw [if_neg hne]
         obtain ⟨q,hq,hqr⟩:=h5 i' row1 j x hr1 hj
         exact ⟨q,by simpa using hq,hqr.evo E⟩)
    refine ⟨undef,w.setRow (μ k) arr,A,μ,lam, .inr ⟨?_,rfl⟩, ?_⟩
    ·have hsz:(a.eval y).cells.size=n:=by simp at hnl; omega
     simp only [execOp,ho,Instr.storeAt,Sem.run_bind,hpv,Instr.sureAddr,Sem.run_pure,Result.andThen_ok,storeVar,run_size g1,g2,hsz,ne_eq,not_true_eq_false,if_false]
     rw [hst]; rfl
    ·rw [hnd]; exact R1
   ·simp at he
  ·simp at he
 ·simp at he
end
end Rg
end
