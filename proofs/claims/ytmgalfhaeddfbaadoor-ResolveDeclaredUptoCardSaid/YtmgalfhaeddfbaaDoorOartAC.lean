/- Part of the proof of laws of relyguardlaw04. No condition. -/
import Derived.Test.YtmgalfhaeddfbaaDoorOartAB
import Derived.Laws.IdiomStrings
set_option linter.unusedVariables false
set_option linter.unusedSimpArgs false
section
namespace Rg
open Go
theorem zbl.cell {w:World} {A:Nat->Prop} {nm μ:Nat->Nat} {H:Nat->Option O} {v:Value} {x:V} (h:zbl w A nm μ H v x) (hc:x.isCell=true):RepC w A nm μ H v x:=by
 cases x<;>first | exact h | (simp[V.isCell]at hc)
theorem RepT.nils_inv {w:World} {A:Nat->Prop} {nm:Nat->Nat} {v:Value} (h:RepT w A nm v .nils): ∃ad,v= .slice ad 0 0:=by
 cases h;exact⟨_,rfl⟩
theorem RepT.sl_inv {w:World} {A:Nat->Prop} {nm:Nat->Nat} {v:Value} {es:List (List T)} (h:RepT w A nm v (.sl es)):
 (es=[]/\ ∃ad cap,v= .slice ad 0 cap)\/ ∃(r off cap sz:Nat) (vf:Nat->Nat->Value),v= .slice (some ⟨r,off,none⟩) es.length cap/\0<es.length/\es.length<=cap/\A r/\
   (∀(i:Nat) (e:List T),es[i]? =some e->e.length=sz)/\
   (∀(i:Nat) (e:List T) (j:Nat) (x:T),es[i]? =some e->e[j]? =some x->w.cell? ⟨r,off+i*sz+j,none⟩=some (vf i j))/\
   (∀(i:Nat) (e:List T) (j:Nat) (x:T),es[i]? =some e->e[j]? =some x->RepT w A nm (vf i j) x):=by
 cases h with
 | sl0 ad cap=>exact .inl ⟨rfl,ad,cap,rfl⟩
 | sl r off cap sz _ vf h0 hc hA hs hv hr=>exact .inr ⟨r,off,cap,sz,vf,rfl,h0,hc,hA,hs,hv,hr⟩
section
variable {P:Program} {N:Nam} {I:Inv} {c:Ctx} {ns p:Nat} {A:Nat->Prop} {μ lam:Nat->Nat} {s:St} {a:Act} {w:World} {e:Eff}
theorem zj8: ∀{cs:List V} {ts:List T},trees cs=some ts->ts.length=cs.length/\ ∀(j:Nat) (x:T),ts[j]? =some x-> ∃y,cs[j]? =some (.t y)/\x=y.norm
 | [],ts,h=>by simp[trees]at h;subst h;exact⟨rfl,fun j x h=>by simp at h⟩
 | .t y::r,ts,h=>by
   simp only[trees,zE]at h;obtain⟨us,hu,rfl⟩:=h;obtain⟨h1,h2⟩:=zj8 hu;refine⟨by simp[h1],fun j x hj=> ?_⟩
   cases j with
   | zero=>simp at hj;exact⟨y,rfl,hj.symm⟩
   | succ j=>simp only[List.getElem?_cons_succ]at hj⊢;exact h2 j x hj
 | .ms _ _ _::_,_,h | .mp _ _ _::_,_,h | .mm _::_,_,h | .fn _ _ _::_,_,h | .agg _::_,_,h | .tup _::_,_,h | .undef::_,_,h | .lb::_,_,h=>by simp[trees]at h
theorem zvF (hI:I.Ok N) (R:Rel N c ns A μ lam s a w) {f k:Nat} {xs ys:Array Operand} {xs' ys':List Opd} (hf:I.fi f=some k) (hx:opds I xs=some xs') (hy:opds I ys=some ys')
 (he:zaj N.G p s (.mkfn k xs' ys')=some e):zdb N A μ s w ((Instr.makeFunc (.func f) (xs.map a.eval) (ys.map a.eval)).run P w) e:=by
 simp only[zaj,zC,zB]at he;obtain⟨as,Dt,bs,Ay,he⟩:=he;simp only[zA]at he;obtain⟨fv,As,rfl⟩:=he;unfold zqq at As;split at As
 ·rename_i Aa;simp only[zA]at As;subst As;obtain⟨h1,h2⟩:=zdz hI R hx Dt;obtain⟨h3,h4⟩:=zdz hI R hy Ay;refine⟨_,rfl,?_,rfl,rfl,rfl,rfl⟩;have:=hI.f f k hf;subst this
  have AW: ∀(l:List V),l.all V.isCell=true-> ∀(i:Nat) (v:V),l[i]? =some v->v.isCell=true:=by
   intro l hl i v hi;exact List.all_eq_true.1 hl v (zL hi)
  refine RepC.fn k as bs (xs.map a.eval) (ys.map a.eval) (fun i=>((xs.map a.eval)[i]?).getD undef) (fun i=>((ys.map a.eval)[i]?).getD undef) h1 h3 ?_ ?_ ?_ ?_
  ·intro j x hj;obtain⟨u,hu,_⟩:=h2 j x hj;rw[hu];rfl
  ·intro j x hj;obtain⟨u,hu,hr⟩:=h2 j x hj;rw[hu];exact hr.cell (AW _ Aa.1 j x hj)
  ·intro j x hj;obtain⟨u,hu,_⟩:=h4 j x hj;rw[hu];rfl
  ·intro j x hj;obtain⟨u,hu,hr⟩:=h4 j x hj;rw[hu];exact hr.cell (AW _ Aa.2 j x hj)
 ·split at As
  ·rename_i cs _;simp only[zE]at As;obtain⟨ts,FR,rfl⟩:=As;obtain⟨h1,h2⟩:=zdz hI R hx Dt;obtain⟨h3,h4⟩:=zdz hI R hy Ay;refine⟨_,rfl,?_,rfl,rfl,rfl,rfl⟩;have:=hI.f f k hf;subst this;obtain⟨v0,Fz,Ec⟩:=h2 0 _ rfl;obtain⟨vc,rfl,Ac,AL⟩:=(Ec:zcl w A N.nm μ s.heap v0 (.agg cs))
   have Ka:xs.map a.eval= #[.agg vc]:=by
    apply Array.ext_getElem?;intro i
    cases i with
    | zero=>rw[Fz];rfl
    | succ i=>
      have:(xs.map a.eval).size=1:=h1;rw[Array.getElem?_eq_none (by omega)];simp
   have FN:ys.map a.eval= #[]:=by
    have:(ys.map a.eval).size=0:=h3;exact Array.eq_empty_of_size_eq_zero this
   rw[Ka,FN];obtain⟨t1,t2⟩:=zj8 FR;have Au:vc.size=ts.length:=by rw[t1,<- Ac];simp
   refine(RepC.t ?_).toV;refine .fa k ts vc (fun j=>(vc[j]?).getD undef) Au ?_ ?_
   ·intro j x hj;obtain⟨y,hy,rfl⟩:=t2 j x hj;obtain⟨v,hv,_⟩:=AL j _ hy;have:vc[j]? =some v:=by simpa using hv
    rw[this];rfl
   ·intro j x hj;obtain⟨y,hy,rfl⟩:=t2 j x hj;obtain⟨v,hv,hr⟩:=AL j _ hy;have:vc[j]? =some v:=by simpa using hv
    rw[this]
    cases hr with
    | t h=>exact h.norm
  ·simp at As
theorem zeI {v:Value} {k:IntKind} {m:Int} {y:Nat} {code:BoundsCode} (hv:v= .int k m) (h0:0<=m) (h1:m<=y):(Instr.sliceBound v y code).run P w= .ok m.toNat w:=by
 simp[Instr.sliceBound,hv,asIntOf,h0,h1]
theorem zit (hI:I.Ok N) (R:Rel N c ns A μ lam s a w) {x:Option Operand} {y:Option Opd} {d:Nat} {n:Int} (hx:znu I x=some y) (hv:zew N.G s d y=some n):
 (x=none/\n=d)\/ ∃o k,x=some o/\a.eval o= .int k n:=by
 cases x with
 | none=>
   simp only[znu,zA]at hx;subst hx;simp only[zew,zA]at hv
   exact .inl ⟨rfl,hv.symm⟩
 | some o=>
   simp only[znu,zE]at hx;obtain⟨z,hz,rfl⟩:=hx;obtain⟨k,hk⟩:=zc4 hI R hz hv;exact .inr ⟨o,k,rfl,hk⟩
theorem zhq {lo hi:Option Value} {len cap:Nat} {l h:Int} {b:Bool} (hh:(hi=none/\h=len)\/ ∃k,hi=some (.int k h))
 (hl:(lo=none/\l=0)\/ ∃k,lo=some (.int k l)) (h0:0<=l) (h1:l<=h) (h2:h<=cap):
 (Instr.sliceBounds b len cap lo hi none).run P w= .ok (l.toNat,h.toNat,cap) w:=by
 have e1: ∀k code,(Instr.sliceBound (.int k h) cap code).run P w= .ok h.toNat w:=fun k code=>zeI rfl (by omega) h2
 have e2: ∀k code,(Instr.sliceBound (.int k l) h.toNat code).run P w= .ok l.toNat w:=fun k code=>zeI rfl h0 (by omega)
 rcases hh with⟨rfl,rfl⟩ | ⟨k,rfl⟩<;>rcases hl with⟨rfl,rfl⟩ | ⟨k',rfl⟩
 ·simp[Instr.sliceBounds]
 ·have:=e2 k' .sliceB;simp only[Int.toNat_natCast]at this;simp[Instr.sliceBounds,this]
 ·simp[Instr.sliceBounds,e1]
 ·simp[Instr.sliceBounds,e1,e2]
theorem zwh (hI:I.Ok N) (R:Rel N c ns A μ lam s a w) {x:Operand} {lo hi mx:Option Operand} {x':Opd} {lo' AK mx':Option Opd} {t el:TypeId} {n:Nat} {ag:Bool}
 (hx:opd I x=some x') (Ef:znu I lo=some lo') (JG:znu I hi=some AK) (Km:znu I mx=some mx') (ht:P.underlying t=some (.slice el)) (A4:typ P el=some (ag,n))
 (he:zaj N.G p s (.slice n x' lo' AK mx')=some e):zdb N A μ s w ((Instr.sliceAt t (a.eval x) (lo.map a.eval) (hi.map a.eval) (mx.map a.eval)).run P w) e:=by
 simp only[zaj,zC,zB]at he;obtain⟨u,hu,len,Ac,h,hh,l,hl,he⟩:=he;have Ae:=zat hI R hx hu;obtain⟨ad,cap,hv⟩:=Ae.len_inv Ac;obtain⟨inf,g1,g2,g3,g4⟩:=zbr A4
 have Cw:len<=cap:=by
  rw[hv]at Ae;unfold lenOf at Ac;split at Ac
  ·simp only[zA]at Ac;omega
  ·simp only[zA]at Ac;rcases Ae.t_inv.sl_inv with⟨rfl,_⟩ | ⟨r,off,cap',sz,vf,he,h0,hc,_⟩
   ·simp at Ac;omega
   ·cases he;exact hc
  ·simp only[zA]at Ac;obtain⟨_,h2⟩:=RepT.slc_inv Ae.t_inv;omega
  ·split at Ac<;>simp only[zA,reduceCtorEq]at Ac
   rename_i hk;subst Ac
   cases(Ae:RepC w A N.nm μ s.heap _ _)with
   | ms _ _ _ _ _ _ _ _ _ hi hc=>omega
   | dms _ _ _ Ah=>rw[hk]at Ah;cases Ah
  ·simp at Ac
 have Kt:(hi.map a.eval=none/\h=len)\/ ∃k,hi.map a.eval=some (.int k h):=by
  rcases zit hI R JG hh with⟨rfl,h⟩ | ⟨o,k,rfl,h⟩
  ·exact .inl ⟨rfl,h⟩
  ·exact .inr ⟨k,by simp[h]⟩
 have CE:(lo.map a.eval=none/\l=0)\/ ∃k,lo.map a.eval=some (.int k l):=by
  rcases zit hI R Ef hl with⟨rfl,h⟩ | ⟨o,k,rfl,h⟩
  ·exact .inl ⟨rfl,by simpa using h⟩
  ·exact .inr ⟨k,by simp[h]⟩
 cases mx with
 | none=>
   simp only[znu,zA]at Km;subst Km;simp only at he;split at he
   ·rename_i hb;obtain⟨Co,Cx,BM⟩:=hb
    have A3:(Instr.sliceAt t (a.eval x) (lo.map a.eval) (hi.map a.eval) (Option.map a.eval none)).run P w=
     .ok (.slice (if cap=l.toNat then ad else ad.map (·.add (l.toNat*n))) (h.toNat-l.toNat) (cap-l.toNat)) w:=by
     have:=zhq (P:=P) (w:=w) (b:=true) (cap:=cap) Kt CE Co Cx (by omega);simp[Instr.sliceAt,zau ht,Instr.slice,hv,this,zaO g1,g2]
    refine⟨_,A3,?_⟩;split at he
    ·simp only[zA]at he;subst he;simp only[lenOf,zA]at Ac;subst Ac;have SK:l.toNat=0:=by omega
     have NR:h.toNat=0:=by omega
     rw[hv]at Ae;have CM:cap=0:=by obtain⟨_,he⟩:=Ae.t_inv.nils_inv;cases he;rfl
     subst CM;rw[SK,NR];exact⟨(RepC.t (.nils _)).toV,rfl,rfl,rfl,rfl⟩
    ·rename_i es;split at he
     ·rename_i Aa;simp only[zA]at he;subst he;simp only[lenOf,zA]at Ac;subst Ac;refine⟨?_,rfl,rfl,rfl,rfl⟩;have L6:(h-l).toNat=h.toNat-l.toNat:=by omega
      by_cases GV:h.toNat-l.toNat=0
      ·rw[L6,GV,List.take_zero];exact(RepC.t (.sl0 _ _)).toV
      ·rw[hv]at Ae;rcases Ae.t_inv.sl_inv with⟨rfl,_⟩ | ⟨r,off,cap',sz,vf,Fq,h0,hc,hA,hs,Bs,hr⟩
       ·simp at BM;omega
       ·cases Fq;have BS:((es.drop l.toNat).take (h-l).toNat).length=h.toNat-l.toNat:=by simp;omega
        have Az:cap≠l.toNat:=by omega
        have AS:sz=n:=by
         have Mi:0<es.length:=h0;have:=hs 0 es[0] (zI Mi);have h2:=List.all_eq_true.1 Aa es[0] (List.getElem_mem Mi);simp only[decide_eq_true_eq]at h2;omega
        subst AS
        have key:=RepT.sl (w:=w) (A:=A) (nm:=N.nm) r (off+l.toNat*sz) (cap-l.toNat) sz ((es.drop l.toNat).take (h-l).toNat) (fun i j=>vf (l.toNat+i) j)
         (by rw[BS];omega) (by rw[BS];omega) hA ?_ ?_ ?_
        ·rw[if_neg Az];simp only[Option.map_some,zcL];rw[BS]at key;exact(RepC.t key).toV
        ·intro i e0 hi;simp only[zO,List.getElem?_drop]at hi;split at hi
         ·exact hs _ e0 hi
         ·simp at hi
        ·intro i e0 j y hi hj;simp only[zO,List.getElem?_drop]at hi;split at hi
         ·have:=Bs _ e0 j y hi hj;rw[Nat.add_mul]at this;have e1:off+l.toNat*sz+i*sz+j=off+(l.toNat*sz+i*sz)+j:=by omega
          rw[e1];exact this
         ·simp at hi
        ·intro i e0 j y hi hj;simp only[zO,List.getElem?_drop]at hi;split at hi
         ·exact hr _ e0 j y hi hj
         ·simp at hi
     ·simp at he
    ·rename_i kk i ll;split at he<;>try(simp at he;done)
     rename_i sz rs frz hk;split at he<;>simp only[zA,reduceCtorEq]at he
     rename_i AS;subst AS;subst he;simp only[lenOf,hk,zA]at Ac;subst Ac;refine⟨?_,rfl,rfl,rfl,rfl⟩;rw[hv]at Ae
     cases(Ae:RepC w A N.nm μ s.heap _ _)with
     | ms _ _ _ _ sz' rs' frz' _ Ah AK hc ha=>
       rw[hk]at Ah;cases Ah;have L6:(h-l).toNat=h.toNat-l.toNat:=by omega
       rw[L6];refine(RepC.ms kk (i+l.toNat) (h.toNat-l.toNat) (cap-l.toNat) sz rs frz _ hk (by omega) (by omega) ?_).toV
       by_cases CM:cap-l.toNat=0
       ·exact .inl CM
       ·right;rcases ha with ha | ⟨rfl,e1,n1,Gv,Fj⟩
        ·omega
        ·rw[if_neg (by omega)];refine⟨by simp[zcL,Nat.add_mul],e1,n1,Gv,?_⟩;have:i+l.toNat+(cap-l.toNat)=i+cap:=by omega
         rw[this];exact Fj
     | dms _ _ _ Ah=>rw[hk]at Ah;cases Ah
    ·simp at he
   ·split at he<;>try(simp at he;done)
    rename_i kk i ll;split at he<;>try(simp at he;done)
    rename_i sz rs frz hk;split at he<;>simp only[zA,reduceCtorEq]at he
    rename_i JV;obtain⟨AS,Co,Cx,BM⟩:=JV;subst AS;subst he;rw[hv]at Ae
    cases(Ae:RepC w A N.nm μ s.heap _ _)with
    | ms _ _ _ _ sz' rs' frz' _ Ah AK hc ha=>
      rw[hk]at Ah;cases Ah
      have A3:(Instr.sliceAt t (a.eval x) (lo.map a.eval) (hi.map a.eval) (Option.map a.eval none)).run P w=
       .ok (.slice (if cap=l.toNat then ad else ad.map (·.add (l.toNat*sz))) (h.toNat-l.toNat) (cap-l.toNat)) w:=by
       have:=zhq (P:=P) (w:=w) (b:=true) (cap:=cap) Kt CE Co Cx (by omega);simp[Instr.sliceAt,zau ht,Instr.slice,hv,this,zaO g1,g2]
      refine⟨_,A3,?_,rfl,rfl,rfl,rfl⟩;have L6:(h-l).toNat=h.toNat-l.toNat:=by omega
      rw[L6];refine(RepC.ms kk (i+l.toNat) (h.toNat-l.toNat) (cap-l.toNat) sz rs frz _ hk (by omega) (by omega) ?_).toV
      by_cases CM:cap-l.toNat=0
      ·exact .inl CM
      ·right;rcases ha with ha | ⟨rfl,e1,n1,Gv,Fj⟩
       ·omega
       ·rw[if_neg (by omega)];refine⟨by simp[zcL,Nat.add_mul],e1,n1,Gv,?_⟩;have:i+l.toNat+(cap-l.toNat)=i+cap:=by omega
        rw[this];exact Fj
    | dms _ _ _ Ah=>rw[hk]at Ah;cases Ah
 | some mo=>
   simp only[znu,zE]at Km;obtain⟨m',Fm,rfl⟩:=Km;simp only[zB]at he;obtain⟨m,hm,he⟩:=he;obtain⟨km,K0⟩:=zc4 hI R Fm hm;split at he
   ·rename_i hb;obtain⟨rfl,rfl,rfl,My⟩:=hb
    have BP:e= { val:=.t .nils }\/(e= { val:=.t (.slc []) }):=by
     split at he<;>simp only[zA,reduceCtorEq]at he<;>first | exact .inl he.symm | exact .inr he.symm
    obtain⟨kh,Cl⟩: ∃k,hi.map a.eval=some (.int k 0):=by
     cases hi with
     | none=>simp only[znu,zA]at JG;subst JG;simp at My
     | some o=>
       rcases Kt with⟨h,_⟩ | h
       ·simp at h
       ·exact h
    have KJ:zbl w A N.nm μ s.heap (.slice ad 0 0) e.val/\Plain e:=by
     rcases BP with rfl | rfl
     ·exact⟨(RepC.t (.nils _)).toV,rfl,rfl,rfl,rfl⟩
     ·exact⟨(RepC.t (.slc ad [] (.sl0 ad 0))).toV,rfl,rfl,rfl,rfl⟩
    refine⟨.slice ad 0 0,?_,KJ⟩
    have b1: ∀(kk:IntKind) (y:Nat) (code:BoundsCode),(Instr.sliceBound (.int kk 0) y code).run P w= .ok 0 w:=fun kk y code=>by
     have:=zeI (P:=P) (w:=w) (code:=code) (v:=.int kk 0) (y:=y) rfl (Int.le_refl 0) (by omega);simpa using this
    rcases CE with⟨h1,_⟩ | ⟨kl,h1⟩
    ·simp[Instr.sliceAt,zau ht,Instr.slice,hv,Instr.sliceBounds,Cl,h1,K0,b1,zaO g1]
    ·simp[Instr.sliceAt,zau ht,Instr.slice,hv,Instr.sliceBounds,Cl,h1,K0,b1,zaO g1]
   ·rename_i TM;split at he
    case isFalse=>simp at he
    rename_i JV;obtain⟨c0,c1,c2,c3,My⟩:=JV
    obtain⟨kh,Cl⟩: ∃k,hi.map a.eval=some (.int k h):=by
     cases hi with
     | none=>simp only[znu,zA]at JG;subst JG;simp at My
     | some o=>
       rcases Kt with⟨h,_⟩ | h
       ·simp at h
       ·exact h
    have b1: ∀code,(Instr.sliceBound (.int km m) cap code).run P w= .ok m.toNat w:=fun code=>zeI rfl (by omega) (by omega)
    have b2: ∀code,(Instr.sliceBound (.int kh h) m.toNat code).run P w= .ok h.toNat w:=fun code=>zeI rfl (by omega) (by omega)
    have b3: ∀kk code,(Instr.sliceBound (.int kk l) h.toNat code).run P w= .ok l.toNat w:=fun kk code=>zeI rfl (by omega) (by omega)
    have A3:(Instr.sliceAt t (a.eval x) (lo.map a.eval) (hi.map a.eval) (Option.map a.eval (some mo))).run P w= .ok (.slice (if m.toNat=l.toNat then ad else ad.map (·.add (l.toNat*n))) (h.toNat-l.toNat) (m.toNat-l.toNat)) w:=by
     rcases CE with⟨h1,h2⟩ | ⟨kl,h1⟩
     ·subst h2;simp[Instr.sliceAt,zau ht,Instr.slice,hv,Instr.sliceBounds,Cl,h1,K0,b1,b2,zaO g1,g2]
     ·simp[Instr.sliceAt,zau ht,Instr.slice,hv,Instr.sliceBounds,Cl,h1,K0,b1,b2,b3,zaO g1,g2]
    simp only[zA]at he;subst he;refine⟨_,A3,?_,rfl,rfl,rfl,rfl⟩;show zbl _ _ _ _ _ _ (zmn n u l h m len)
    generalize hV:Value.slice (if m.toNat=l.toNat then ad else ad.map (·.add (l.toNat*n))) (h.toNat-l.toNat) (m.toNat-l.toNat)=val
    unfold zmn;split
    ·rename_i es;split
     ·rename_i CG;subst hV;obtain⟨d0,d1,d2,Aa⟩:=CG;simp only[lenOf,zA]at Ac;have k0:l.toNat=0:=by omega
      have k1:h.toNat=es.length:=by omega
      have k2:m.toNat=es.length:=by omega
      have k3: ¬es.length=0:=fun h0=>TM ⟨d0,by omega,by omega,My⟩
      rw[k0,k1,k2,if_neg k3];rw[hv]at Ae;rcases Ae.t_inv.sl_inv with⟨rfl,_⟩ | ⟨r,off,cap',sz,vf,Fq,h0,hc,hA,hs,Bs,hr⟩
      ·simp at k3
      ·cases Fq;have key:=RepT.sl (w:=w) (A:=A) (nm:=N.nm) r off es.length sz es vf h0 (Nat.le_refl _) hA hs Bs hr
       have h1:(Option.map (fun x:Addr=>x.add (0*n)) (some ⟨r,off,none⟩))=some ⟨r,off,none⟩:=by
        simp only[Option.map_some,Nat.zero_mul,zcL,Nat.add_zero]
       rw[h1];exact(RepC.t (RepT.slc _ es key)).toV
     ·split
      ·rename_i CG;subst hV;obtain⟨d0,d1⟩:=CG;simp only[lenOf,zA]at Ac;have k0:l.toNat=0:=by omega
       have k1:m.toNat=h.toNat:=by omega
       have k3: ¬h.toNat=0:=fun h0=>TM ⟨d0,by omega,by omega,My⟩
       rw[k0,k1,if_neg k3];rw[hv]at Ae;rcases Ae.t_inv.sl_inv with⟨rfl,_⟩ | ⟨r,off,cap',sz,vf,Fq,h0,hc,hA,hs,Bs,hr⟩
       ·simp at Ac;omega
       ·cases Fq;have C7:(es.take h.toNat).length=h.toNat:=by rw[List.length_take];omega
        have Dv: ∀(i:Nat) (e:List T),(es.take h.toNat)[i]? =some e->es[i]? =some e:=fun i e hi=>by
         rw[zO]at hi;split at hi
         ·exact hi
         ·cases hi
        have key:=RepT.sl (w:=w) (A:=A) (nm:=N.nm) r off h.toNat sz (es.take h.toNat) vf (by omega) (by omega) hA (fun i e hi=>hs i e (Dv i e hi)) (fun i e j x hi=>Bs i e j x (Dv i e hi)) (fun i e j x hi=>hr i e j x (Dv i e hi));rw[C7]at key
        have h1:(Option.map (fun x:Addr=>x.add (0*n)) (some ⟨r,off,none⟩))=some ⟨r,off,none⟩:=by
         simp only[Option.map_some,Nat.zero_mul,zcL,Nat.add_zero]
        rw[h1];exact(RepC.t key).toV
      ·exact trivial
    ·exact trivial
theorem zwg (hI:I.Ok N) (R:Rel N c ns A μ lam s a w) {x:Operand} {lo hi:Option Operand} {x':Opd} {lo' AK:Option Opd} {t:TypeId}
 (hx:opd I x=some x') (Ef:znu I lo=some lo') (JG:znu I hi=some AK) (ht:P.underlying t=some .string)
 (he:zaj N.G p s (.slstr x' lo' AK)=some e):zdb N A μ s w ((Instr.sliceAt t (a.eval x) (lo.map a.eval) (hi.map a.eval) none).run P w) e:=by
 simp only[zaj,zC,zB]at he;obtain⟨u,hu,he⟩:=he;split at he
 ·rename_i b;simp only[zB]at he;obtain⟨h,hh,l,hl,he⟩:=he;split at he
  ·rename_i hb;simp only[zA]at he;subst he;have hv:=(zat hI R hx hu).str_inv
   have Kt:(hi.map a.eval=none/\h=b.size)\/ ∃k,hi.map a.eval=some (.int k h):=by
    rcases zit hI R JG hh with⟨rfl,h⟩ | ⟨o,k,rfl,h⟩
    ·exact .inl ⟨rfl,h⟩
    ·exact .inr ⟨k,by simp[h]⟩
   have CE:(lo.map a.eval=none/\l=0)\/ ∃k,lo.map a.eval=some (.int k l):=by
    rcases zit hI R Ef hl with⟨rfl,h⟩ | ⟨o,k,rfl,h⟩
    ·exact .inl ⟨rfl,by simpa using h⟩
    ·exact .inr ⟨k,by simp[h]⟩
   have:=zhq (P:=P) (w:=w) (b:=false) Kt CE hb.1 hb.2.1 hb.2.2;refine⟨_,?_,(RepC.t (.str _)).toV,rfl,rfl,rfl,rfl⟩;simp[Instr.sliceAt,zau ht,Instr.slice,hv,this]
  ·simp at he
 ·simp at he
theorem zM2 (hI:I.Ok N) (R:Rel N c ns A μ lam s a w) {x:Operand} {lo hi:Option Operand} {x':Opd} {lo' AK:Option Opd} {t el:TypeId} {n:Nat} {ag:Bool}
 (hx:opd I x=some x') (Ef:znu I lo=some lo') (JG:znu I hi=some AK) (ht:P.underlying t=some (.array n el)) (A4:typ P el=some (ag,1))
 (he:zaj N.G p s (.slicA n x' lo' AK)=some e):zdb N A μ s w ((Instr.sliceAt t (a.eval x) (lo.map a.eval) (hi.map a.eval) none).run P w) e:=by
 simp only[zaj,zC,zB]at he;obtain⟨u,hu,he⟩:=he;split at he
 ·rename_i k;split at he
  ·rename_i rs frz hk;simp only[zB]at he;obtain⟨h,hh,l,hl,he⟩:=he;split at he
   ·rename_i hb;obtain⟨Co,Cx,BM,H9⟩:=hb;simp only[zA]at he;subst he;obtain⟨hv,_⟩:=(zat hI R hx hu).mp_inv hk;obtain⟨inf,g1,g2,g3,g4⟩:=zbr A4
    have Kt:(hi.map a.eval=none/\h=n)\/ ∃k,hi.map a.eval=some (.int k h):=by
     rcases zit hI R JG hh with⟨rfl,h⟩ | ⟨o,k,rfl,h⟩
     ·exact .inl ⟨rfl,h⟩
     ·exact .inr ⟨k,by simp[h]⟩
    have CE:(lo.map a.eval=none/\l=0)\/ ∃k,lo.map a.eval=some (.int k l):=by
     rcases zit hI R Ef hl with⟨rfl,h⟩ | ⟨o,k,rfl,h⟩
     ·exact .inl ⟨rfl,by simpa using h⟩
     ·exact .inr ⟨k,by simp[h]⟩
    have Kz:=zhq (P:=P) (w:=w) (b:=false) (cap:=n) Kt CE Co Cx BM;obtain⟨cc,e0,z,q1,q2,q3,_⟩:=R.heap k _ hk;refine⟨.slice (some (if n=l.toNat then⟨μ k,0,none⟩else(⟨μ k,0,none⟩:Addr).add (l.toNat*1))) (h.toNat-l.toNat) (n-l.toNat),?_,RepC.toV ?_,rfl,rfl,rfl,rfl⟩
    ·simp[Instr.sliceAt,zau ht,hv,Instr.sureAddr,Kz,zaO g1,g2]
    ·have e1:(h-l).toNat=h.toNat-l.toNat:=by omega
     rw[e1];refine .ms k l.toNat (h.toNat-l.toNat) (n-l.toNat) 1 rs frz _ hk (by omega) (by omega) ?_
     by_cases hc:n=l.toNat
     ·exact .inl (by omega)
     ·refine .inr ⟨by rw[if_neg hc];simp[Addr.add];intros;omega,e0,cc.size,by simp[World.shape?,q1],by omega⟩
   ·cases he
  ·cases he
 ·cases he
end
end Rg
end
section
namespace Rg
open Go
theorem zfn {α:Type} {cs new r:List α} {off:Nat} (h:wr cs off new=some r):
 off+new.length<=cs.length/\r.length=cs.length/\ ∀k,r[k]? =if off<=k/\k<off+new.length then new[k-off]? else cs[k]? :=by
 unfold wr at h;split at h
 ·rename_i A5;simp only[zA]at h;subst h;refine⟨A5,by simp;omega,fun k=> ?_⟩;simp only[List.getElem?_append,zM,List.length_take,zO,List.getElem?_drop];have hm:min off cs.length=off:=by omega
  rw[hm]
  by_cases h1:k<off
  ·rw[if_pos (by omega),if_pos h1,if_pos h1,if_neg (by omega)]
  ·by_cases h2:k<off+new.length
   ·rw[if_pos h2,if_neg h1,if_pos (by omega)]
   ·rw[if_neg h2,if_neg (by omega)]
    congr 1;omega
 ·simp at h
theorem zlA (off:Nat): ∀(vs:List Value) (j0:Nat) (cs:Array Value),
 ((vs.zipIdx j0).foldl (fun cs (x:Value×Nat)=>match x with | (c,j)=>cs.setIfInBounds (off+j) c) cs).size=cs.size/\
 ∀k,((vs.zipIdx j0).foldl (fun cs (x:Value×Nat)=>match x with | (c,j)=>cs.setIfInBounds (off+j) c) cs)[k]? =
  if off+j0<=k/\k<off+j0+vs.length/\k<cs.size then vs[k-(off+j0)]? else cs[k]?
 | [],j0,cs=>by simp;intro k h1 h2;omega
 | v::vs,j0,cs=>by
   obtain⟨h1,h2⟩:=zlA off vs (j0+1) (cs.setIfInBounds (off+j0) v);simp only[List.zipIdx_cons,List.foldl_cons];refine⟨by rw[h1];simp,fun k=> ?_⟩;rw[h2 k];simp only[Array.size_setIfInBounds,Array.getElem?_setIfInBounds,List.length_cons]
   by_cases e:k=off+j0
   ·subst e;rw[if_neg (by omega)]
    by_cases Ad:off+j0<cs.size
    ·rw[if_pos rfl,if_pos Ad,if_pos ⟨by omega,by omega,Ad⟩];simp
    ·rw[if_pos rfl,if_neg Ad,if_neg (by omega)];simp[Array.getElem?_eq_none (Nat.le_of_not_lt Ad)]
   ·rw[if_neg (Ne.symm e)]
    by_cases h3:off+(j0+1)<=k/\k<off+(j0+1)+vs.length/\k<cs.size
    ·rw[if_pos h3,if_pos ⟨by omega,by omega,h3.2.2⟩];have:k-(off+j0)=(k-(off+(j0+1)))+1:=by omega
     rw[this];simp
    ·rw[if_neg h3,if_neg (by omega)]
section
variable {w:World} {A:Nat->Prop} {nm μ:Nat->Nat} {H:Nat->Option O}
theorem zfk.splice {vs us:List Value} {cs new r:List V} {off:Nat} (h:zfk w A nm μ H vs cs) (hn:zfk w A nm μ H us new) (hw:wr cs off new=some r) (vs':List Value) (hl:vs'.length=vs.length)
 (hg: ∀k,k<vs.length->vs'[k]? =if off<=k/\k<off+us.length then us[k-off]? else vs[k]?):zfk w A nm μ H vs' r:=by
 obtain⟨h1,h2,h3⟩:=zfn hw;refine⟨by rw[hl,h.1,h2],fun i x hi=> ?_⟩;have Ad:i<vs.length:=by rw[h.1,<- h2];exact(zH.1 hi).1
 rw[h3 i]at hi;rw[hg i Ad]
 by_cases hc:off<=i/\i<off+new.length
 ·rw[if_pos hc]at hi;rw[if_pos (by rw[hn.1];exact hc)];exact hn.2 _ x hi
 ·rw[if_neg hc]at hi;rw[if_neg (by rw[hn.1];exact hc)];exact h.2 i x hi
end
section
variable {P:Program} {N:Nam} {I:Inv} {c:Ctx} {ns p:Nat} {A:Nat->Prop} {μ lam:Nat->Nat} {s:St} {a:Act} {w:World} {e:Eff}
theorem zpC (hI:I.Ok N) (R:Rel N c ns A μ lam s a w) (place:Nat->Option (Nat×Nat)): ∀(parts:List (Nat×Operand)) (ps:List (Nat×Nat×Opd)) (cells:Array Value) (cs cs':List V),
 (parts.length=ps.length/\ ∀(i:Nat) (q:Nat×Nat×Opd),ps[i]? =some q-> ∃x,parts[i]? =some x/\place x.1=some (q.1,q.2.1)/\opd I x.2=some q.2.2)->
 zfk w A N.nm μ s.heap cells.toList cs->zbY N.G cs s ps=some cs'->
 ∃cells',Instr.fill place cells (parts.map fun x=>(x.1,a.eval x.2))=some cells'/\zfk w A N.nm μ s.heap cells'.toList cs'
 | [],ps,cells,cs,cs',Cd,Ae,hf=>by
   obtain⟨hl,_⟩:=Cd;have:ps=[]:=List.length_eq_zero_iff.1 (by simpa using hl.symm);subst this;simp only[zbY,zA]at hf;subst hf
   exact⟨cells,rfl,Ae⟩
 | (i,x)::parts,[],cells,cs,cs',Cd,Ae,hf=>by simp at Cd
 | (i,x)::parts,(off,n,y)::ps,cells,cs,cs',Cd,Ae,hf=>by
   obtain⟨hl,hq⟩:=Cd;obtain⟨q0,KN,BL,Ao⟩:=hq 0 _ rfl;simp only[List.getElem?_cons_zero,zA]at KN;subst KN;simp only at BL Ao;simp only[zbY,zC,zB]at hf;obtain⟨v,hv,new,B2,hf⟩:=hf;split at hf
   ·rename_i Ac;simp only[zB]at hf;obtain⟨cs1,Cj,hf⟩:=hf;have hr:=(zat hI R Ao hv).cells B2;obtain⟨g1,g2,g3⟩:=zfn Cj;have AS:(a.eval x).cells.size=n:=by have:=hr.1;simp at this;omega
    obtain⟨f1,f2⟩:=zlA off (a.eval x).cells.toList 0 cells
    have Gx:zfk w A N.nm μ s.heap (((a.eval x).cells.toList.zipIdx 0).foldl (fun cs (x:Value×Nat)=>match x with | (c,j)=>cs.setIfInBounds (off+j) c) cells).toList cs1:=by
     refine Ae.splice hr Cj _ (by simpa using f1) (fun k hk=> ?_);simp only[Array.getElem?_toList];rw[f2 k];simp only[Nat.add_zero,Array.length_toList]at hk⊢
     by_cases hc:off<=k/\k<off+(a.eval x).cells.size
     ·rw[if_pos ⟨hc.1,hc.2,hk⟩,if_pos hc];simp
     ·rw[if_neg (by omega),if_neg hc]
    obtain⟨cells',h1,h2⟩:=zpC hI R place parts ps _ cs1 cs' ⟨by simpa using hl,fun i q hi=>by
     obtain⟨z,hz,Fb⟩:=hq (i+1) q (by simpa using hi)
     exact⟨z,by simpa using hz,Fb⟩⟩ Gx hf
    refine⟨cells',?_,h2⟩;have By:cells.size=cs.length:=by have:=Ae.1;simpa using this
    have GD: ¬(off+(a.eval x).cells.size>cells.size):=by omega
    simp only[List.map_cons,Instr.fill,BL,AS];rw[<- h1];have:(decide (n≠n)||decide (off+n>cells.size))=false:=by simp;omega
    simp only[this,zG,if_false]
    congr 1
    rw[<- Array.foldl_toList];simp
   ·simp at hf
theorem ziK {fields:Array Field} (h:fields.toList.all (fun f=>(typ P f.type).isSome)=true):
 (fields.mapM (m:=Sem) fun f=>do pure (f.offset,<- Go.sizeOf f.type)).run P w= .ok (fields.map fun f=>(f.offset,(P.info? f.type).elim 0 (·.size))) w:=by
 have key: ∀(l:List Field),l.all (fun f=>(typ P f.type).isSome)=true->
  (l.mapM (m:=Sem) fun f=>do pure (f.offset,<- Go.sizeOf f.type)).run P w= .ok (l.map fun f=>(f.offset,(P.info? f.type).elim 0 (·.size))) w:=by
  intro l hl
  induction l with
  | nil=>simp
  | cons f l ih=>
    simp only[List.all_cons,zF]at hl;obtain⟨⟨ag,n⟩,A4⟩:=Option.isSome_iff_exists.1 hl.1;obtain⟨inf,g1,g2,g3,g4⟩:=zbr A4;simp only[List.mapM_cons,Sem.run_bind,zaO g1,Result.andThen_ok,Sem.run_pure,ih hl.2];simp[g1]
 rw[Array.mapM_eq_mapM_toList];simp only[Sem.run_map,key _ h,Result.andThen_ok]
 congr 1
 apply Array.ext';simp
theorem zb4 {t:TypeId} {z:List V} (h:zdc P t=some z): ∃i v,P.info? t=some i/\i.zero=some v/\cellsOf v=some z/\ ∀w,(zeroValue t).run P w= .ok v w:=by
 unfold zdc at h;split at h
 ·rename_i i hi;split at h
  ·rename_i v hv;exact⟨i,v,hi,hv,h,fun w=>by simp[zeroValue,zgP hi,hv]⟩
  ·simp at h
 ·simp at h
theorem zrF (hI:I.Ok N) (R:Rel N c ns A μ lam s a w) {t:TypeId} {z:List V} {parts:Array (Nat×Operand)} {ps:List (Nat×Nat×Opd)} {place:Nat->Option (Nat×Nat)}
 (hz:zdc P t=some z)
 (hu:(∃fields,P.underlying t=some (.struct fields)/\fields.toList.all (fun f=>(typ P f.type).isSome)=true/\place=((fields.map fun f=>(f.offset,(P.info? f.type).elim 0 (·.size)))[·]?))\/
   (∃len el ag n,P.underlying t=some (.array len el)/\typ P el=some (ag,n)/\place=fun i=>some (i*n,n)))
 (Cd:parts.toList.length=ps.length/\ ∀(i:Nat) (q:Nat×Nat×Opd),ps[i]? =some q-> ∃x,parts.toList[i]? =some x/\place x.1=some (q.1,q.2.1)/\opd I x.2=some q.2.2)
 (he:zaj N.G p s (.build z ps)=some e):zdb N A μ s w ((Instr.build t (parts.map fun(i,x)=>(i,a.eval x))).run P w) e:=by
 simp only[zaj,zC,zB,zA]at he;obtain⟨cs,AL,rfl⟩:=he;obtain⟨i,v,hi,hv,hc,A3⟩:=zb4 hz;obtain⟨cells',h1,h2⟩:=zpC hI R place parts.toList ps v.cells z cs Cd (zbT hc) AL;have Bk:(parts.map fun(i,x)=>(i,a.eval x)).toList=parts.toList.map fun x=>(x.1,a.eval x.2):=by simp
 refine⟨.agg cells',?_,⟨cells',rfl,h2⟩,rfl,rfl,rfl,rfl⟩;rcases hu with⟨fields,hf,Aa,rfl⟩ | ⟨len,el,ag,n,hf,A4,rfl⟩
 ·simp only[Instr.build,Sem.run_bind,A3 w,Result.andThen_ok,zau hf,ziK Aa,Bk,h1,Sem.run_pure]
 ·obtain⟨inf,g1,g2,g3,g4⟩:=zbr A4;simp only[Instr.build,Sem.run_bind,A3 w,Result.andThen_ok,zau hf,zaO g1,g2,Bk,h1,Sem.run_pure]
end
end Rg
end
section
namespace Rg
open Go
def zeB (P:Program) (N:Nam) (c:Ctx) (ns:Nat) (o:Oper) (a:Act) (w:World) (s':St):Prop:=
 ∃v w' A' μ' lam',((execOp a.eval o).run P w= .ok (.value v) w'\/((execOp a.eval o).run P w= .ok .skip w'/\v=undef))/\Rel N c ns A' μ' lam' s' (a.put o.dst v) w'
section
variable {P:Program} {N:Nam} {I:Inv} {c:Ctx} {ns p:Nat} {A:Nat->Prop} {μ lam:Nat->Nat} {s:St} {a:Act} {w:World} {e:Eff} {o:Oper}
theorem zdb.sound (R:Rel N c ns A μ lam s a w) {r:Result Value} (h:zdb N A μ s w r e) (hr:(execOp a.eval o).run P w=r.andThen fun v w'=> .ok (.value v) w')
 (hd: ∀x,o.dst=some x->x<ns) (hf:s.free o.dst e):zeB P N c ns o a w (s.apply o.dst e):=by
 obtain⟨v,rfl,hv,h1,h2,h3,h4⟩:=h;exact⟨v,w,A,μ,lam,.inl (by rw[hr];rfl),R.put o.dst e v hd hf h2 h3 h4 hv (by simp[h1])⟩
theorem zjq (R:Rel N c ns A μ lam s a w) (ob:Go.Obj):Evo w A μ s.heap (w.alloc ob) A μ s.heap:=by
 refine⟨fun r h=> ?_,fun _ h=>h,fun _ o h=>⟨o,h,O.le_refl o,fun _=>rfl⟩,fun r x h=>shape?_push w ob r x h⟩;have:=R.alt r h;simp only[World.alloc,Array.getElem?_push];simp[Nat.ne_of_lt this]
theorem zdT (w:World) (ob:Go.Obj):(w.alloc ob).heap[w.heap.size]? =some ob:=by
 simp only[World.alloc,Array.getElem?_push];simp
theorem zCF (R:Rel N c ns A μ lam s a w) {d:Nat} {cells:Array Value} {cs:List V} {t:TypeId} (hd:d<ns) (hu:s.used d=false) (Ae:zfk w A N.nm μ s.heap cells.toList cs):
 Rel N c ns A μ (upd lam d w.heap.size) (s.apply (some d) { val:=.lb,loc:=some cs }) (a.put (some d) (.pointer (some ⟨w.heap.size,0,none⟩))) (w.alloc (.cells cells t)):=
 (R.alloc _).adoptL d hd hu R.orphan_new ⟨cells,t,zdT w _,Ae.evo (zjq R _)⟩
theorem zBx (R:Rel N c ns A μ lam s a w) {k sz:Nat} {cells:Array Value} {rs:List (List V)} {t:TypeId} (hk:s.heap k=none) (hn:k<s.nxt)
 (h1:rs.length*sz<=cells.size) (h2: ∀(i:Nat) (row:List V),rs[i]? =some row->row.length=sz)
 (h3: ∀(i:Nat) (row:List V) (j:Nat) (x:V),rs[i]? =some row->row[j]? =some x-> ∃v,cells[i*sz+j]? =some v/\RepC w A N.nm μ s.heap v x):
 Rel N c ns A (upd μ k w.heap.size) lam { s with heap:=upd s.heap k (some (.rows sz rs false)) } a (w.alloc (.cells cells t)):=
 (R.alloc _).adoptH (o:=.rows sz rs false) hk hn R.orphan_new ⟨cells,t,(0,0),zdT w _,fun _=>rfl,h1,h2,fun i row j x g1 g2=>let⟨v,hv,hr⟩:=h3 i row j x g1 g2;⟨v,hv,hr.evo (zjq R _)⟩⟩ (by simp)
theorem zr4 {cells:Array Value} {cs:List V} (Ae:zfk w A N.nm μ s.heap cells.toList cs):
 [cs].length*cs.length<=cells.size/\(∀(i:Nat) (row:List V),[cs][i]? =some row->row.length=cs.length)/\
 ∀(i:Nat) (row:List V) (j:Nat) (x:V),[cs][i]? =some row->row[j]? =some x-> ∃v,cells[i*cs.length+j]? =some v/\RepC w A N.nm μ s.heap v x:=by
 have hl:=Ae.1;simp only[Array.length_toList]at hl;refine⟨by simp[hl],fun i row h=> ?_,fun i row j x h1 h2=> ?_⟩
 ·cases i with
  | zero=>simp at h;rw[h]
  | succ i=>simp at h
 ·cases i with
  | zero=>
    simp at h1;subst h1;obtain⟨v,hv,hr⟩:=Ae.2 j x h2
    exact⟨v,by simpa using hv,hr⟩
  | succ i=>simp at h1
theorem zt8 (R:Rel N c ns A μ lam s a w) {t:TypeId} {z:List V} {d:Nat} (hz:zdc P t=some z) (ho:o.op= .alloc t) (AI:o.dst=some d)
 (hd: ∀x,o.dst=some x->x<ns) (hf:s.free o.dst e) (he:zaj N.G p s (.allocL z)=some e):zeB P N c ns o a w (s.apply o.dst e):=by
 simp only[zaj,zA]at he;subst he;obtain⟨i,v,hi,hv,hc,A3⟩:=zb4 hz;refine⟨_,_,A,μ,_,.inl ?_,by rw[AI];exact zCF R (t:=t) (hd d AI) (hf d AI).1 (zbT hc)⟩;simp[execOp,ho,Instr.alloc,A3,newVar,newRow]
theorem zt9 (R:Rel N c ns A μ lam s a w) {t:TypeId} {z:List V} (hz:zdc P t=some z) (ho:o.op= .alloc t)
 (hd: ∀x,o.dst=some x->x<ns) (hf:s.free o.dst e) (hk:s.heap (s.bas+p)=none) (hn:s.bas+p<s.nxt) (he:zaj N.G p s (.allocH z)=some e):zeB P N c ns o a w (s.apply o.dst e):=by
 simp only[zaj,zA]at he;subst he;obtain⟨i,v,hi,hv,hc,A3⟩:=zb4 hz;obtain⟨h1,h2,h3⟩:=zr4 (w:=w) (A:=A) (N:=N) (μ:=μ) (s:=s) (cells:=v.cells) (zbT hc);have R1:=zBx R (t:=t) hk hn h1 h2 h3;refine⟨.pointer (some ⟨w.heap.size,0,none⟩),_,A,_,lam,.inl ?_,R1.put o.dst { val:=.mp (s.bas+p) 0 0 } _ hd hf rfl rfl rfl ?_ (by simp)⟩
 ·simp[execOp,ho,Instr.alloc,A3,newVar,newRow]
 ·have:=RepC.mp (w:=w.alloc (.cells v.cells t)) (A:=A) (nm:=N.nm) (μ:=upd μ (s.bas+p) w.heap.size) (H:=upd s.heap (s.bas+p) (some (.rows z.length [z] false))) (s.bas+p) 0 0 z.length [z] false (by simp) (by simp);simpa using this.toV
theorem zua (R:Rel N c ns A μ lam s a w) {t:TypeId} {z:List V} (hz:zdc P t=some z) (hb:zwR P t=true) (MZ:N.tB=t) (ho:o.op= .alloc t)
 (hd: ∀x,o.dst=some x->x<ns) (hf:s.free o.dst e) (hk:s.heap (s.bas+p)=none) (hn:s.bas+p<s.nxt) (he:zaj N.G p s .allocB=some e):zeB P N c ns o a w (s.apply o.dst e):=by
 simp only[zaj,zA]at he;subst he;obtain⟨i,v,hi,hv,hc,A3⟩:=zb4 hz
 have BQ:v.cells= #[.pointer none,.slice none 0 0]:=by
  unfold zwR at hb;rw[hi]at hb;simp only[zD,hv]at hb;split at hb
  ·rename_i cs AL;cases AL;split at hb
   ·rename_i hl;show cs=_;apply Array.ext';simpa using hl
   ·cases hb
  ·cases hb
 have R1:=(R.alloc (.cells v.cells t)).adoptH (k:=s.bas+p) (o:=.raw (.bld none)) hk hn R.orphan_new ⟨.pointer none,by rw[<- BQ,MZ];exact zdT w _,.inl rfl⟩ (by simp);refine⟨.pointer (some ⟨w.heap.size,0,none⟩),_,A,_,lam,.inl ?_,R1.put o.dst { val:=.mp (s.bas+p) 0 0 } _ hd hf rfl rfl rfl ?_ (by simp)⟩
 ·simp[execOp,ho,Instr.alloc,A3,newVar,newRow]
 ·have:=RepC.mb (w:=w.alloc (.cells v.cells t)) (A:=A) (nm:=N.nm) (μ:=upd μ (s.bas+p) w.heap.size) (H:=upd s.heap (s.bas+p) (some (.raw (.bld none)))) (s.bas+p) (.bld none) (by simp);simpa using this.toV
theorem zx7 (hI:I.Ok N) (R:Rel N c ns A μ lam s a w) {t:TypeId} {x:Operand} {x':Opd} {n d:Nat} (hx:opd I x=some x') (ho:o.op= .box t x) (AI:o.dst=some d)
 (hd: ∀x,o.dst=some x->x<ns) (hf:s.free o.dst e) (he:zaj N.G p s (.boxL n x')=some e):zeB P N c ns o a w (s.apply o.dst e):=by
 simp only[zaj,zC,zB]at he;obtain⟨u,hu,cs,AL,he⟩:=he;split at he
 ·simp only[zA]at he;subst he;have hr:=(zat hI R hx hu).cells AL;refine⟨_,_,A,μ,_,.inl ?_,by rw[AI];exact zCF R (t:=t) (hd d AI) (hf d AI).1 hr⟩;simp[execOp,ho,Instr.box,newVar,newRow]
 ·simp at he
theorem zx8 (hI:I.Ok N) (R:Rel N c ns A μ lam s a w) {t:TypeId} {x:Operand} {x':Opd} {n:Nat} (hx:opd I x=some x') (ho:o.op= .box t x)
 (hd: ∀x,o.dst=some x->x<ns) (hf:s.free o.dst e) (hk:s.heap (s.bas+p)=none) (hn:s.bas+p<s.nxt) (he:zaj N.G p s (.boxH n x')=some e):zeB P N c ns o a w (s.apply o.dst e):=by
 simp only[zaj,zC,zB]at he;obtain⟨u,hu,cs,AL,he⟩:=he;split at he
 ·rename_i Ac;subst Ac;simp only[zA]at he;subst he;have hr:=(zat hI R hx hu).cells AL;obtain⟨h1,h2,h3⟩:=zr4 (w:=w) (A:=A) (N:=N) (μ:=μ) (s:=s) (cells:=(a.eval x).cells) hr;have R1:=zBx R (t:=t) hk hn h1 h2 h3;refine⟨.pointer (some ⟨w.heap.size,0,none⟩),_,A,_,lam,.inl ?_,R1.put o.dst { val:=.mp (s.bas+p) 0 0 } _ hd hf rfl rfl rfl ?_ (by simp)⟩
  ·simp[execOp,ho,Instr.box,newVar,newRow]
  ·have:=RepC.mp (w:=w.alloc (.cells (a.eval x).cells t)) (A:=A) (nm:=N.nm) (μ:=upd μ (s.bas+p) w.heap.size) (H:=upd s.heap (s.bas+p) (some (.rows cs.length [cs] false))) (s.bas+p) 0 0 cs.length [cs] false (by simp) (by simp);simpa using this.toV
 ·simp at he
theorem zJW {cells:Array Value} {cs:List V} (Ae:zfk w A N.nm μ s.heap cells.toList cs):
 (cs.map fun c=>[c]).length*1<=cells.size/\(∀(i:Nat) (row:List V),(cs.map fun c=>[c])[i]? =some row->row.length=1)/\
 ∀(i:Nat) (row:List V) (j:Nat) (x:V),(cs.map fun c=>[c])[i]? =some row->row[j]? =some x-> ∃v,cells[i*1+j]? =some v/\RepC w A N.nm μ s.heap v x:=by
 have hl:=Ae.1;simp only[Array.length_toList]at hl;refine⟨by simp[hl],fun i row h=> ?_,fun i row j y h1 h2=> ?_⟩
 ·simp only[zJ,zE]at h;obtain⟨c,_,rfl⟩:=h;rfl
 ·simp only[zJ,zE]at h1;obtain⟨q,hq,rfl⟩:=h1
  cases j with
  | succ j=>simp at h2
  | zero=>
    simp only[List.getElem?_cons_zero,zA]at h2;subst h2;obtain⟨v,hv,DY⟩:=Ae.2 i q hq;exact⟨v,by simpa using hv,DY⟩
theorem zMt (R:Rel N c ns A μ lam s a w) {t:TypeId} {z:List V} (hz:zdc P t=some z) (ho:o.op= .alloc t)
 (hd: ∀x,o.dst=some x->x<ns) (hf:s.free o.dst e) (hk:s.heap (s.bas+p)=none) (hn:s.bas+p<s.nxt) (he:zaj N.G p s (.allocA z)=some e):zeB P N c ns o a w (s.apply o.dst e):=by
 simp only[zaj]at he;split at he
 ·rename_i h0;simp only[zA]at he;subst he;obtain⟨i,v,hi,hv,hc,A3⟩:=zb4 hz;obtain⟨h1,h2,h3⟩:=zJW (w:=w) (A:=A) (N:=N) (μ:=μ) (s:=s) (cells:=v.cells) (zbT hc);have R1:=zBx R (t:=t) hk hn h1 h2 h3;refine⟨.pointer (some ⟨w.heap.size,0,none⟩),_,A,_,lam,.inl ?_,R1.put o.dst { val:=.mp (s.bas+p) 0 0 } _ hd hf rfl rfl rfl ?_ (by simp)⟩
  ·simp[execOp,ho,Instr.alloc,A3,newVar,newRow]
  ·have:=RepC.mp (w:=w.alloc (.cells v.cells t)) (A:=A) (nm:=N.nm) (μ:=upd μ (s.bas+p) w.heap.size) (H:=upd s.heap (s.bas+p) (some (.rows 1 (z.map fun c=>[c]) false))) (s.bas+p) 0 0 1 (z.map fun c=>[c]) false (by simp) (by simpa using h0);simpa using this.toV
 ·cases he
theorem zND (hI:I.Ok N) (R:Rel N c ns A μ lam s a w) {t:TypeId} {x:Operand} {x':Opd} {n:Nat} (hx:opd I x=some x') (ho:o.op= .box t x)
 (hd: ∀x,o.dst=some x->x<ns) (hf:s.free o.dst e) (hk:s.heap (s.bas+p)=none) (hn:s.bas+p<s.nxt) (he:zaj N.G p s (.boxA n x')=some e):zeB P N c ns o a w (s.apply o.dst e):=by
 simp only[zaj,zC,zB]at he;obtain⟨u,hu,cs,AL,he⟩:=he;split at he
 ·rename_i h0;simp only[zA]at he;subst he;have hr:=(zat hI R hx hu).cells AL;obtain⟨h1,h2,h3⟩:=zJW (w:=w) (A:=A) (N:=N) (μ:=μ) (s:=s) (cells:=(a.eval x).cells) hr;have R1:=zBx R (t:=t) hk hn h1 h2 h3;refine⟨.pointer (some ⟨w.heap.size,0,none⟩),_,A,_,lam,.inl ?_,R1.put o.dst { val:=.mp (s.bas+p) 0 0 } _ hd hf rfl rfl rfl ?_ (by simp)⟩
  ·simp[execOp,ho,Instr.box,newVar,newRow]
  ·have:=RepC.mp (w:=w.alloc (.cells (a.eval x).cells t)) (A:=A) (nm:=N.nm) (μ:=upd μ (s.bas+p) w.heap.size) (H:=upd s.heap (s.bas+p) (some (.rows 1 (cs.map fun c=>[c]) false))) (s.bas+p) 0 0 1 (cs.map fun c=>[c]) false (by simp) (by simpa using(by omega:0<cs.length));simpa using this.toV
 ·simp at he
theorem zfk.one {w:World} {A:Nat->Prop} {nm μ:Nat->Nat} {H:Nat->Option O} {vs:List Value} {cs:List V} (h:zfk w A nm μ H vs cs): ∀v∈vs,v.oneCell'=true:=by
 intro v hv;obtain⟨i,hi,he⟩:=List.getElem_of_mem hv;have:i<cs.length:=by rw[<- h.1];exact hi
 obtain⟨u,hu,hr⟩:=h.2 i cs[i] (zI this);rw[zI hi,he]at hu;cases hu;exact hr.one
theorem zt0 (hI:I.Ok N) (R:Rel N c ns A μ lam s a w) {t:TypeId} {x y:Operand} {x' y':Opd} {n:Nat} {ag:Bool} (hx:opd I x=some x') (hy:opd I y=some y') (A4:typ P t=some (ag,n)) (ho:o.op= .store t x y)
 (he:zaj N.G p s (.storeL n x' y')=some e) (Bt:o.dst=none):zeB P N c ns o a w (s.apply o.dst e):=by
 simp only[zaj,zC,zB,Prod.exists]at he;obtain⟨b,off,hr,cs,hb,u,hu,new,B2,he⟩:=he;split at he
 ·rename_i Ac;simp only[zB,zA]at he;obtain⟨cs',hw,rfl⟩:=he;obtain⟨_,cc,e0,Dr,CG⟩:=R.loc b cs hb;have EA:=(zat hI R hy hu).cells B2;obtain⟨inf,g1,g2,g3,g4⟩:=zbr A4;obtain⟨k1,k2,k3⟩:=zfn hw;have AL:cc.size=cs.length:=by have:=CG.1;simpa using this
  have Hx:(a.eval y).cells.toList.length=new.length:=EA.1;have AJ:off+0+(a.eval y).cells.toList.length<=cc.size:=by omega
  have AE:=run_storeCells_at P (lam b) off e0 (a.eval y).cells.toList 0 cc w Dr AJ EA.one
  let arr:Array Value:=(cc.toList.take (off+0)++(a.eval y).cells.toList++cc.toList.drop (off+0+(a.eval y).cells.toList.length)).toArray
  have Br:wr cc.toList off (a.eval y).cells.toList=some arr.toList:=by
   unfold wr;rw[if_pos (by simpa using AJ)];simp[arr]
  obtain⟨j1,j2,j3⟩:=zfn Br
  have R1:=R.changeL (cs':=cs') (w':=w.setRow (lam b) arr) hb (by simp) (fun r hr=>setRow_other w _ r _ hr) (shape?_setRow Dr (by simpa using j2))
   (fun E=>⟨arr,e0,setRow_heap w _ cc arr e0 _ Dr,(CG.splice EA hw arr.toList (by simpa using j2) (fun k _=>j3 k)).evo E⟩)
  refine⟨undef,w.setRow (lam b) arr,A,μ,lam,.inr ⟨?_,rfl⟩,?_⟩
  ·have AS:(a.eval y).cells.size=n:=by simp at Hx;omega
   simp only[execOp,ho,Instr.storeAt,Sem.run_bind,zio R hx hr hb,Instr.sureAddr,Sem.run_pure,Result.andThen_ok,storeVar,zaO g1,g2,AS,ne_eq,not_true_eq_false,if_false];rw[AE];rfl
  ·rw[Bt];exact R1
 ·simp at he
theorem ziJ {α:Type} {l:List α} {i j:Nat} {x y:α} (h:(l.set i x)[j]? =some y):(j=i/\y=x)\/(j≠i/\l[j]? =some y):=by
 rw[List.getElem?_set]at h
 by_cases e:i=j
 ·subst e;left
  by_cases Ad:i<l.length
  ·simp[Ad]at h;exact⟨rfl,h.symm⟩
  ·simp[Ad]at h
 ·simp[e]at h;exact .inr ⟨fun e'=>e e'.symm,h⟩
theorem zwf (hI:I.Ok N) (R:Rel N c ns A μ lam s a w) {t:TypeId} {x y:Operand} {x' y':Opd} {n:Nat} {ag:Bool} (hx:opd I x=some x') (hy:opd I y=some y') (A4:typ P t=some (ag,n)) (ho:o.op= .store t x y)
 (he:zaj N.G p s (.store n x' y')=some e) (Bt:o.dst=none):zeB P N c ns o a w (s.apply o.dst e):=by
 simp only[zaj,zC,zB]at he;obtain⟨u,hu,he⟩:=he;have Ae:=zat hI R hx hu;split at he
 ·rename_i k i off;split at he
  ·rename_i sz rs hk;simp only[zB]at he;obtain⟨row,Ap,v,hv,new,B2,he⟩:=he;split at he
   ·rename_i Ac;simp only[zB,zA]at he;obtain⟨row',hw,rfl⟩:=he;obtain⟨Ji,hi⟩:=Ae.mp_inv hk;obtain⟨cc,e0,z,h1,h2,h3,h4,h5⟩:=R.heap k _ hk;have hz:=h2 rfl;subst hz;have EA:=(zat hI R hy hv).cells B2;obtain⟨inf,g1,g2,g3,g4⟩:=zbr A4;obtain⟨k1,k2,k3⟩:=zfn hw;have Bb:=h4 i row Ap;have Hx:(a.eval y).cells.toList.length=new.length:=EA.1
    have hrow_le:i*sz+sz<=cc.size:=by
     have:(i+1)*sz<=rs.length*sz:=Nat.mul_le_mul_right _ hi;rw[Nat.succ_mul]at this;omega
    have AJ:(i*sz+off)+0+(a.eval y).cells.toList.length<=cc.size:=by omega
    have AE:=run_storeCells_at P (μ k) (i*sz+off) e0 (a.eval y).cells.toList 0 cc w h1 AJ EA.one
    let arr:Array Value:=(cc.toList.take (i*sz+off+0)++(a.eval y).cells.toList++cc.toList.drop (i*sz+off+0+(a.eval y).cells.toList.length)).toArray
    have Br:wr cc.toList (i*sz+off) (a.eval y).cells.toList=some arr.toList:=by
     unfold wr;rw[if_pos (by simpa using AJ)];simp[arr]
    obtain⟨j1,j2,j3⟩:=zfn Br
    have R1:=R.changeH (o':= .rows sz (rs.set i row') false) (w':=w.setRow (μ k) arr) hk ⟨rfl,by simp⟩ rfl (by simp) (by simp) rfl (by simp) (fun r hr=>setRow_other w _ r _ hr)
     (shape?_setRow h1 (by simpa using j2)) (fun E=>by
       refine⟨arr,e0,(0,0),setRow_heap w _ cc arr e0 _ h1,fun _=>rfl,?_,?_,?_⟩
       ·have:arr.size=cc.size:=by simpa using j2
        simp;omega
       ·intro i' row1 B3;rcases ziJ B3 with⟨rfl,rfl⟩ | ⟨_,B3⟩
        ·omega
        ·exact h4 i' row1 B3
       ·intro i' row1 j x B3 hj;have Ag: ∀q,arr[q]? =arr.toList[q]? :=fun q=>by rw[Array.getElem?_toList]
        rw[Ag,j3];rcases ziJ B3 with⟨rfl,rfl⟩ | ⟨Kr,B3⟩
        ·have AN:j<sz:=by have:=(zH.1 hj).1;omega
         rw[k3 j]at hj;split at hj
         ·rename_i Aj;rw[if_pos (by omega)];obtain⟨q,hq,Jg⟩:=EA.2 _ x hj;refine⟨q,?_,Jg.evo E⟩;have:i'*sz+j-(i'*sz+off)=j-off:=by omega
          rw[this];exact hq
         ·rename_i Aj;rw[if_neg (by omega)];obtain⟨q,hq,Jg⟩:=h5 i' row j x Ap hj;exact⟨q,by simpa using hq,Jg.evo E⟩
        ·have AN:j<sz:=by have:=(zH.1 hj).1;have:=h4 i' row1 B3;omega
         have Az: ¬(i*sz+off<=i'*sz+j/\i'*sz+j<i*sz+off+(a.eval y).cells.toList.length):=by
          intro hh;rcases Nat.lt_or_gt_of_ne Kr with Ad | Ad
          ·have:(i'+1)*sz<=i*sz:=Nat.mul_le_mul_right _ Ad;rw[Nat.succ_mul]at this;omega
          ·have:(i+1)*sz<=i'*sz:=Nat.mul_le_mul_right _ Ad;rw[Nat.succ_mul]at this;omega
         rw[if_neg Az];obtain⟨q,hq,Jg⟩:=h5 i' row1 j x B3 hj
         exact⟨q,by simpa using hq,Jg.evo E⟩)
    refine⟨undef,w.setRow (μ k) arr,A,μ,lam,.inr ⟨?_,rfl⟩,?_⟩
    ·have AS:(a.eval y).cells.size=n:=by simp at Hx;omega
     simp only[execOp,ho,Instr.storeAt,Sem.run_bind,Ji,Instr.sureAddr,Sem.run_pure,Result.andThen_ok,storeVar,zaO g1,g2,AS,ne_eq,not_true_eq_false,if_false];rw[AE];rfl
    ·rw[Bt];exact R1
   ·simp at he
  ·simp at he
 ·simp at he
theorem zMs (hI:I.Ok N) (R:Rel N c ns A μ lam s a w) {t:TypeId} {x y:Operand} {x' y':Opd} {n:Nat} {ag:Bool} (hx:opd I x=some x') (hy:opd I y=some y') (A4:typ P t=some (ag,n)) (ho:o.op= .store t x y)
 (he:zaj N.G p s (.storeA n x' y')=some e) (Bt:o.dst=none):zeB P N c ns o a w (s.apply o.dst e):=by
 simp only[zaj,zC,zB]at he;obtain⟨u,hu,he⟩:=he;have Ae:=zat hI R hx hu;split at he
 ·rename_i k;split at he
  ·rename_i rs hk;simp only[zB]at he;obtain⟨v,hv,new,B2,he⟩:=he;split at he
   ·rename_i Ac;obtain⟨Ac,US⟩:=Ac;simp only[zA]at he;subst he;obtain⟨Ji,hi⟩:=Ae.mp_inv hk;obtain⟨cc,e0,z,h1,h2,h3,h4,h5⟩:=R.heap k _ hk;have hz:=h2 rfl;subst hz;have EA:=(zat hI R hy hv).cells B2;obtain⟨inf,g1,g2,g3,g4⟩:=zbr A4;have Hx:(a.eval y).cells.toList.length=new.length:=EA.1;have AJ:0+0+(a.eval y).cells.toList.length<=cc.size:=by omega
    have AE:=run_storeCells_at P (μ k) 0 e0 (a.eval y).cells.toList 0 cc w h1 AJ EA.one
    let arr:Array Value:=(cc.toList.take (0+0)++(a.eval y).cells.toList++cc.toList.drop (0+0+(a.eval y).cells.toList.length)).toArray
    have Br:wr cc.toList 0 (a.eval y).cells.toList=some arr.toList:=by
     unfold wr;rw[if_pos (by simpa using AJ)]
    obtain⟨j1,j2,j3⟩:=zfn Br
    have R1:=R.changeH (o':= .rows 1 (new.map fun c=>[c]) false) (w':=w.setRow (μ k) arr) hk ⟨rfl,by simp;omega⟩ rfl (by simp) (by simp) rfl (by simp) (fun r hr=>setRow_other w _ r _ hr)
     (shape?_setRow h1 (by simpa using j2)) (fun E=>by
       refine⟨arr,e0,(0,0),setRow_heap w _ cc arr e0 _ h1,fun _=>rfl,?_,?_,?_⟩
       ·have:arr.size=cc.size:=by simpa using j2
        simp;omega
       ·intro i' row1 B3;simp only[zJ,zE]at B3;obtain⟨q,_,rfl⟩:=B3;rfl
       ·intro i' row1 j x B3 hj;simp only[zJ,zE]at B3;obtain⟨q,hq,rfl⟩:=B3
        cases j with
        | succ j=>simp at hj
        | zero=>
          simp only[List.getElem?_cons_zero,zA]at hj;subst hj;have AV:i'<new.length:=(zH.1 hq).1;have Ag: ∀q,arr[q]? =arr.toList[q]? :=fun q=>by rw[Array.getElem?_toList]
          rw[Ag,j3,if_pos (by omega)];obtain⟨y,hy,P4⟩:=EA.2 _ q hq
          exact⟨y,by simpa using hy,P4.evo E⟩)
    refine⟨undef,w.setRow (μ k) arr,A,μ,lam,.inr ⟨?_,rfl⟩,?_⟩
    ·have AS:(a.eval y).cells.size=n:=by simp at Hx;omega
     simp only[execOp,ho,Instr.storeAt,Sem.run_bind,Ji,Instr.sureAddr,Sem.run_pure,Result.andThen_ok,storeVar,zaO g1,g2,AS,ne_eq,not_true_eq_false,if_false];rw[AE];rfl
    ·rw[Bt];exact R1
   ·simp at he
  ·simp at he
 ·simp at he
end
section
variable {N:Nam} {c:Ctx} {ns:Nat} {A:Nat->Prop} {μ lam:Nat->Nat} {s:St} {a:Act} {w:World}
theorem Rel.growA (R:Rel N c ns A μ lam s a w) (B:Nat->Prop) (hl: ∀r,B r-> ∀t,(s.loc t).isSome=true->lam t≠r) (hh: ∀r,B r-> ∀k o,s.heap k=some o->o.live=true->μ k≠r)
 (hx: ∀r,B r->c.X r\/c.w0.heap.size<=r) (Ad: ∀r,B r->r<w.heap.size) (Jv:zdG c (fun r=>A r\/B r) w a.defers):Rel N c ns (fun r=>A r\/B r) μ lam s a w:=by
 have E:Evo w A μ s.heap w (fun r=>A r\/B r) μ s.heap:=⟨fun _ _=>rfl,fun _ h=> .inl h,fun _ o h=>⟨o,h,O.le_refl o,fun _=>rfl⟩,fun _ _ h=>h⟩
 refine{ R with defers:=Jv,env:=fun t=>(R.env t).evo E,loc:= ?_,heap:= ?_,aH:= ?_,aL:= ?_,alt:= ?_,afz:=fun k sz rs h=> .inl (R.afz k sz rs h),glob:= ?_,csub:= ?_,canew:= ?_ }
 ·intro t cs h;obtain⟨h1,h2⟩:=R.loc t cs h;exact⟨h1,h2.evo E rfl⟩
 ·intro k o h;exact(R.heap k o h).evo E rfl
 ·rintro r (h | h) hm
  ·exact R.aH r h hm
  ·obtain⟨k,o,h1,h2,h3,h4⟩:=hm;exact hh r h k o h1 h3 h4
 ·rintro r (h | h) hm
  ·exact R.aL r h hm
  ·obtain⟨t,h1,h2⟩:=hm;exact hl r h t h1 h2
 ·rintro r (h | h)
  ·exact R.alt r h
  ·exact Ad r h
 ·intro g j x h;obtain⟨h1,F1,v,hv,hr⟩:=R.glob g j x h;exact⟨.inl h1,F1,v,hv,hr.mono E.blk E.sub⟩
 ·intro r h;exact .inl (R.csub r h)
 ·rintro r (h | h)
  ·exact R.canew r h
  ·exact .inr (hx r h)
end
end Rg
end
section
namespace Rg
open Go
def zaJ (w:World) (A:Nat->Prop) (nm μ:Nat->Nat) (H:Nat->Option O) (sz:Nat) (cs:List Value) (rs:List (List V)):Prop:=
 cs.length=rs.length*sz/\(∀(i:Nat) (row:List V),rs[i]? =some row->row.length=sz)/\
  ∀(i:Nat) (row:List V) (j:Nat) (x:V),rs[i]? =some row->row[j]? =some x-> ∃v,cs[i*sz+j]? =some v/\RepC w A nm μ H v x
section
variable {w w' : World} {A A' : Nat->Prop} {nm μ μ' : Nat->Nat} {H H' : Nat->Option O} {sz:Nat}
theorem zaJ.evo {cs:List Value} {rs:List (List V)} (h:zaJ w A nm μ H sz cs rs) (E:Evo w A μ H w' A' μ' H'):zaJ w' A' nm μ' H' sz cs rs:=
 ⟨h.1,h.2.1,fun i row j x h1 h2=>let⟨v,hv,hr⟩:=h.2.2 i row j x h1 h2;⟨v,hv,hr.evo E⟩⟩
theorem zgg {i j n sz:Nat} (hi:i<n) (hj:j<sz):i*sz+j<n*sz:=by
 have:(i+1)*sz<=n*sz:=Nat.mul_le_mul_right _ hi;rw[Nat.succ_mul]at this;omega
theorem zaJ.append {cs ds:List Value} {rs ts:List (List V)} (h:zaJ w A nm μ H sz cs rs) (h':zaJ w A nm μ H sz ds ts):zaJ w A nm μ H sz (cs++ds) (rs++ts):=by
 refine⟨by simp[h.1,h'.1,Nat.add_mul],fun i row hi=> ?_,fun i row j x hi hj=> ?_⟩
 ·rw[List.getElem?_append]at hi;split at hi
  ·exact h.2.1 i row hi
  ·exact h'.2.1 _ row hi
 ·rw[List.getElem?_append]at hi;split at hi
  ·rename_i Ad;obtain⟨v,hv,hr⟩:=h.2.2 i row j x hi hj;refine⟨v,?_,hr⟩;rw[List.getElem?_append_left (zH.1 hv).1];exact hv
  ·rename_i Bv;obtain⟨v,hv,hr⟩:=h'.2.2 _ row j x hi hj;refine⟨v,?_,hr⟩;have e:i*sz=rs.length*sz+(i-rs.length)*sz:=by rw[<- Nat.add_mul];congr 1;omega
   rw[List.getElem?_append_right (by rw[h.1];omega)];have:i*sz+j-cs.length=(i-rs.length)*sz+j:=by rw[h.1];omega
   rw[this];exact hv
theorem zaJ.take {cs:List Value} {rs:List (List V)} (h:zaJ w A nm μ H sz cs rs) (m:Nat) (hm:m<=rs.length):zaJ w A nm μ H sz (cs.take (m*sz)) (rs.take m):=by
 have A5:m*sz<=rs.length*sz:=Nat.mul_le_mul_right _ hm;refine⟨by simp[h.1,Nat.min_eq_left hm,Nat.min_eq_left A5],fun i row hi=> ?_,fun i row j x hi hj=> ?_⟩
 ·rw[zO]at hi;split at hi
  ·exact h.2.1 i row hi
  ·simp at hi
 ·rw[zO]at hi;split at hi
  ·rename_i Ad;obtain⟨v,hv,hr⟩:=h.2.2 i row j x hi hj;have AN:j<sz:=by rw[<- h.2.1 i row hi];exact(zH.1 hj).1
   refine⟨v,?_,hr⟩;rw[zO,if_pos (zgg Ad AN)];exact hv
  ·simp at hi
theorem zaJ.nil:zaJ w A nm μ H sz [] []:=⟨by simp,by simp,by simp⟩
theorem zaJ.one {cs:List Value} {rs:List (List V)} (h:zaJ w A nm μ H sz cs rs) (AS:0<sz): ∀v∈cs,v.oneCell'=true:=by
 intro v hv;obtain⟨q,hq,he⟩:=List.getElem_of_mem hv;have Ad:q<rs.length*sz:=by rw[<- h.1];exact hq
 have hi:q/ sz<rs.length:=Nat.div_lt_of_lt_mul (by rw[Nat.mul_comm];exact Ad);have Ap:=h.2.1 (q/ sz) _ (zI hi);have hj:q % sz<(rs[q/ sz]).length:=by rw[Ap];exact Nat.mod_lt _ AS
 obtain⟨u,hu,hr⟩:=h.2.2 (q/ sz) _ (q % sz) _ (zI hi) (zI hj);have e:q/ sz*sz+q % sz=q:=by rw[Nat.mul_comm];exact Nat.div_add_mod q sz
 rw[e,zI hq,he]at hu;cases hu;exact hr.one
end
section
variable {P:Program} {N:Nam} {I:Inv} {c:Ctx} {ns p:Nat} {A:Nat->Prop} {μ lam:Nat->Nat} {s:St} {a:Act} {w:World} {e:Eff} {o:Oper}
theorem zhY (R:Rel N c ns A μ lam s a w) {v:Value} {x:V} {rs:List (List V)} {sz:Nat} (Lb: ∀es,x≠ .t (.slc es)) (Ae:zbl w A N.nm μ s.heap v x) (AH:zdw s x=some rs) (Aa:rs.all (·.length=sz)=true):
 ∃ad cap cs,v= .slice ad rs.length cap/\rs.length<=cap/\zaJ w A N.nm μ s.heap sz cs rs/\
  (∀w':World,(∀ad,w'.cell? ad=w.cell? ad)-> ∀m,m<=rs.length->(Builtin.firstCells sz m v).run P w'= .ok (cs.take (m*sz)).toArray w'):=by
 have Ac: ∀(i:Nat) (row:List V),rs[i]? =some row->row.length=sz:=by
  intro i row hi;have:=List.all_eq_true.1 Aa row (zL hi);simpa using this
 have ES: ∀ad cap,rs=[]->v= .slice ad 0 cap-> ∃ad cap cs,v= .slice ad rs.length cap/\rs.length<=cap/\zaJ w A N.nm μ s.heap sz cs rs/\
  (∀w':World,(∀ad,w'.cell? ad=w.cell? ad)-> ∀m,m<=rs.length->(Builtin.firstCells sz m v).run P w'= .ok (cs.take (m*sz)).toArray w'):=by
  rintro ad cap rfl rfl;refine⟨ad,cap,[],rfl,by simp,zaJ.nil,fun w' _ m hm=> ?_⟩;have:m=0:=by simpa using hm
  subst this
  cases ad with
  | none=>simp[Builtin.firstCells]
  | some ad=>simp[Builtin.firstCells,loadCells,loadCellsFrom]
 unfold zdw at AH;split at AH
 ·simp only[zA]at AH;subst AH;obtain⟨ad,rfl⟩:=Ae.t_inv.nils_inv;exact ES ad 0 rfl rfl
 ·rename_i es;simp only[zA]at AH;subst AH;rcases Ae.t_inv.sl_inv with⟨rfl,ad,cap,rfl⟩ | ⟨r,off,cap,sz',vf,rfl,h0,hc,hA,hs,Bs,hr⟩
  ·exact ES ad cap rfl rfl
  ·have AS:sz'=sz:=by
    have h1:=hs 0 es[0] (zI h0);have h2:=Ac 0 (es[0].map V.t) (by simp[zJ,zI h0]);simp at h2;omega
   subst AS;refine⟨some ⟨r,off,none⟩,cap,(List.range (es.length*sz')).map (fun q=>vf (q/ sz') (q % sz')),by simp,by simpa using hc,⟨by simp,Ac,?_⟩,?_⟩
   ·intro i row j x hi hj;simp only[zJ,zE]at hi;obtain⟨e0,CY,rfl⟩:=hi;simp only[zJ,zE]at hj;obtain⟨y,hy,rfl⟩:=hj;have AV:i<es.length:=(zH.1 CY).1;have AN:j<sz':=by rw[<- hs i e0 CY];exact(zH.1 hy).1
    have hq:=zgg AV AN;refine⟨vf i j,?_,.t (hr i e0 j y CY hy)⟩;rw[zJ,List.getElem?_range hq];have h1:(i*sz'+j)/ sz'=i:=by rw[Nat.mul_comm,Nat.mul_add_div (by omega)];simp[Nat.div_eq_of_lt AN]
    have h2:(i*sz'+j) % sz'=j:=by rw[Nat.mul_comm,Nat.mul_add_mod];exact Nat.mod_eq_of_lt AN
    simp[h1,h2]
   ·intro w' Aw m hm;simp only[List.length_map]at hm;have A5:m*sz'<=es.length*sz':=Nat.mul_le_mul_right _ hm;have hl:(((List.range (es.length*sz')).map (fun q=>vf (q/ sz') (q % sz'))).take (m*sz')).length=m*sz':=by rw[List.length_take,List.length_map,List.length_range];omega
    have:=run_loadCells_list (P:=P) (w:=w') ⟨r,off,none⟩ (((List.range (es.length*sz')).map (fun q=>vf (q/ sz') (q % sz'))).take (m*sz')) (fun q v hq=>by
     rw[zO]at hq;split at hq
     ·rename_i Ed;have HL:q<es.length*sz':=by omega
      rw[zJ,List.getElem?_range HL]at hq;simp only[Option.map_some,zA]at hq;subst hq
      have Na:0<sz':=by
       rcases Nat.eq_zero_or_pos sz' with h | h
       ·rw[h]at HL;simp at HL
       ·exact h
      have hi:q/ sz'<es.length:=Nat.div_lt_of_lt_mul (by rw[Nat.mul_comm];exact HL);have Ap:=hs (q/ sz') _ (zI hi);have hj:q % sz'<(es[q/ sz']).length:=by rw[Ap];exact Nat.mod_lt _ Na
      have:=Bs (q/ sz') _ (q % sz') _ (zI hi) (zI hj);rw[zcL,Aw];have e:off+q/ sz'*sz'+q % sz'=off+q:=by rw[Nat.add_assoc,Nat.mul_comm,Nat.div_add_mod]
      rw[e]at this;exact this
     ·simp at hq)
    rw[hl]at this;simp[Builtin.firstCells,this]
 ·rename_i es;exact absurd rfl (Lb es)
 ·rename_i k i len;split at AH
  ·rename_i sz' rs0 frz hk;unfold rd at AH;split at AH
   ·rename_i A5;simp only[zA]at AH;subst AH;have BS:((rs0.drop i).take len).length=len:=by simp;omega
    cases(Ae:RepC w A N.nm μ s.heap v _)with
    | ms _ _ _ cap sz2 rs2 frz2 ad Ah AK hc ha=>
      rw[hk]at Ah;cases Ah;rcases Nat.eq_zero_or_pos len with SK | SK
      ·subst SK;exact ES ad cap (by simp) rfl
      ·obtain⟨rfl,_⟩:=ha.resolve_left (by omega);obtain⟨cc,e0,z,h1,h2,h3,h4,h5⟩:=R.heap k _ hk
       have AS:sz'=sz:=by
        have AV:i<rs0.length:=by omega
        have h6:=h4 i _ (zI AV);have h7:=Ac 0 rs0[i] (by rw[zO,if_pos SK,List.getElem?_drop];simp[zI AV]);omega
       subst AS;have JW:(i+len)*sz'<=cc.size:=Nat.le_trans (Nat.mul_le_mul_right _ A5) h3
       have LJ:((cc.toList.drop (i*sz')).take (len*sz')).length=len*sz':=by
        rw[Nat.add_mul]at JW;simp;omega
       refine⟨_,cap,(cc.toList.drop (i*sz')).take (len*sz'),by rw[BS],by rw[BS];omega,⟨by rw[LJ,BS],Ac,?_⟩,?_⟩
       ·intro i1 row j x B8 hj;rw[zO]at B8;split at B8
        ·rename_i Ad;rw[List.getElem?_drop]at B8;have AN:j<sz':=by rw[<- h4 _ row B8];exact(zH.1 hj).1
         obtain⟨v,hv,hr⟩:=h5 _ row j x B8 hj;refine⟨v,?_,hr⟩;rw[zO,if_pos (zgg Ad AN),List.getElem?_drop,Array.getElem?_toList];rw[Nat.add_mul]at hv;rw[<- Nat.add_assoc];exact hv
        ·simp at B8
       ·intro w' Aw m hm;rw[BS]at hm;have HV:m*sz'<=len*sz':=Nat.mul_le_mul_right _ hm;have hl:(((cc.toList.drop (i*sz')).take (len*sz')).take (m*sz')).length=m*sz':=by rw[List.length_take,LJ];omega
        have:=run_loadCells_list (P:=P) (w:=w') ⟨μ k,i*sz',none⟩ (((cc.toList.drop (i*sz')).take (len*sz')).take (m*sz')) (fun q v hq=>by
         rw[zO]at hq;split at hq
         ·rw[zO]at hq;split at hq
          ·rw[List.getElem?_drop,Array.getElem?_toList]at hq;rw[zcL,Aw];simp[World.cell?,h1,hq]
          ·simp at hq
         ·simp at hq)
        rw[hl]at this
        simp[Builtin.firstCells,this]
    | dms _ _ _ Ah=>rw[hk]at Ah;cases Ah
   ·simp at AH
  ·simp at AH
 ·simp at AH
theorem ze8 (R:Rel N c ns A μ lam s a w) {v:Value} {x:V} {rs:List (List V)} {sz:Nat} (Ae:zbl w A N.nm μ s.heap v x) (AH:zdw s x=some rs) (Aa:rs.all (·.length=sz)=true):
 ∃ad cap cs,v= .slice ad rs.length cap/\rs.length<=cap/\zaJ w A N.nm μ s.heap sz cs rs/\
  (∀w':World,(∀ad,w'.cell? ad=w.cell? ad)-> ∀m,m<=rs.length->(Builtin.firstCells sz m v).run P w'= .ok (cs.take (m*sz)).toArray w'):=by
 by_cases h: ∃es,x= .t (.slc es)
 ·obtain⟨es,rfl⟩:=h
  have h1:zbl w A N.nm μ s.heap v (.t (.sl es)):=by
   have h2:=Ae.t_inv
   cases h2 with
   | slc a _ h3=>exact(RepC.t h3).toV
  exact zhY R (fun es' he=>by cases he) h1 AH Aa
 ·exact zhY R (fun es he=>h ⟨es,he⟩) Ae AH Aa
theorem zjG: ∀{rs:List (List V)} {l:List UInt8},bytesOf rs=some l->l.length=rs.length/\ ∀(i:Nat) (b:UInt8),l[i]? =some b->rs[i]? =some [.t (.int .u8 b.toNat)]
 | [],l,h=>by simp only[bytesOf,zA]at h;subst h;simp
 | r::rs,l,h=>by
   unfold bytesOf at h;split at h
   ·rename_i h0;cases h0
   ·rename_i z r' h0;cases h0;split at h
    ·rename_i hz;simp only[zE]at h;obtain⟨l',CE,rfl⟩:=h;obtain⟨h1,h2⟩:=zjG CE;refine⟨by simp[h1],fun i b hi=> ?_⟩
     cases i with
     | zero=>
       simp only[List.getElem?_cons_zero,zA]at hi;subst hi
       have:((UInt8.ofNat z.toNat).toNat:Int)=z:=by
        rw[UInt8.toNat_ofNat',Nat.mod_eq_of_lt (by omega)];omega
       rw[this];rfl
     | succ i=>simpa using h2 i b (by simpa using hi)
    ·cases h
   ·cases h
theorem zx6 (hI:I.Ok N) (R:Rel N c ns A μ lam s a w) {src dst t:TypeId} {x:Operand} {x':Opd} (hx:opd I x=some x') (he:zaj N.G p s (.bstr x')=some e)
 (h1:P.underlying src=some (.slice t)) (h2:P.underlying dst=some .string) (h3:P.underlying t=some (.int .u8)):zdb N A μ s w ((convert src dst (a.eval x)).run P w) e:=by
 simp only[zaj,zC,zB,zA]at he;obtain⟨u,hu,rs,AD,l,hl,rfl⟩:=he;obtain⟨b1,b2⟩:=zjG hl
 have Aa:rs.all (·.length=1)=true:=by
  rw[List.all_eq_true];intro row Ap;obtain⟨i,hi,rfl⟩:=List.getElem_of_mem Ap;have AV:i<l.length:=by omega
  have:=b2 i l[i] (zI AV);rw[zI hi,zA]at this;rw[this];rfl
 obtain⟨ad,cap,cs,hv,Cw,Ae,Ee⟩:=ze8 (P:=P) R (zat hI R hx hu) AD Aa
 have AL:cs=(l.map fun b=>(b.toNat:Int)).map (Value.int .u8):=by
  apply List.ext_getElem?;intro i
  by_cases hi:i<l.length
  ·obtain⟨v,AX,hr⟩:=Ae.2.2 i _ 0 _ (b2 i l[i] (zI hi)) rfl;rw[Nat.mul_one,Nat.add_zero]at AX;cases hr.toV.int_inv;rw[AX];simp[hi]
  ·rw[List.getElem?_eq_none (by have:=Ae.1;omega),List.getElem?_eq_none (by simp;omega)]
 refine⟨.string ⟨l.toArray⟩,?_,(RepC.t (.str _)).toV,rfl,rfl,rfl,rfl⟩;rw[hv]
 cases ad with
 | none=>
   have h0:=Ee w (fun _=>rfl) rs.length (Nat.le_refl _);rw[hv]at h0;simp only[Builtin.firstCells,Sem.run_pure]at h0
   have:l=[]:=by
    have h4:=congrArg (fun r=>match r with | Result.ok (x:Array Value) _=>x.size | _=>0) h0;simp only[Nat.mul_one,List.size_toArray,List.length_take]at h4;have h5:=Ae.1;simp only[Nat.mul_one]at h5;rw[h5,Nat.min_self]at h4;exact List.eq_nil_of_length_eq_zero (by rw[b1];exact h4.symm)
   subst this;rw[run_convert_bytes_string w src dst t none rs.length cap h1 h3 h2];simp only[Conv.bytesToString,Sem.run_pure]
   congr 1
 | some ad=>
   have h0:=Ee w (fun _=>rfl) rs.length (Nat.le_refl _);rw[hv]at h0;simp only[Builtin.firstCells]at h0;rw[run_convert_bytes_string w src dst t (some ad) rs.length cap h1 h3 h2,run_bytesToString w ad rs.length cap (l.map fun b=>(b.toNat:Int)),foldl_push_byteCells]
   ·simp
   ·rw[<- AL];have e:cs.take (rs.length*1)=cs:=by rw[List.take_of_length_le];rw[Ae.1];exact Nat.le_refl _
    rw[e,Nat.mul_one]at h0;exact h0
end
end Rg
end
section
namespace Rg
open Go
section
variable {w:World} {A:Nat->Prop} {nm μ:Nat->Nat} {H:Nat->Option O} {sz:Nat}
theorem zaJ.set {cs us cs':List Value} {rs:List (List V)} {new:List V} {i:Nat} (h:zaJ w A nm μ H sz cs rs) (hn:zfk w A nm μ H us new) (hl:new.length=sz) (hi:i<rs.length)
 (By:cs'.length=cs.length) (hg: ∀k,k<cs.length->cs'[k]? =if i*sz<=k/\k<i*sz+us.length then us[k-i*sz]? else cs[k]?):zaJ w A nm μ H sz cs' (rs.set i new):=by
 refine⟨by simp[By,h.1],fun i' row hr=> ?_,fun i' row j x hr hj=> ?_⟩
 ·rcases ziJ hr with⟨rfl,rfl⟩ | ⟨_,hr⟩
  ·exact hl
  ·exact h.2.1 i' row hr
 ·have Gn:us.length=sz:=by rw[hn.1,hl]
  rcases ziJ hr with⟨rfl,rfl⟩ | ⟨Az,hr⟩
  ·have AN:j<sz:=by rw[<- hl];exact(zH.1 hj).1
   obtain⟨v,hv,Ae⟩:=hn.2 j x hj;refine⟨v,?_,Ae⟩;rw[hg _ (by rw[h.1];exact zgg hi AN),if_pos (by omega)];have:i'*sz+j-i'*sz=j:=by omega
   rw[this];exact hv
  ·have AN:j<sz:=by rw[<- h.2.1 i' row hr];exact(zH.1 hj).1
   have AV:i'<rs.length:=(zH.1 hr).1;obtain⟨v,hv,Ae⟩:=h.2.2 i' row j x hr hj;refine⟨v,?_,Ae⟩;rw[hg _ (by rw[h.1];exact zgg AV AN),if_neg]
   ·exact hv
   ·intro hh;rcases Nat.lt_or_gt_of_ne Az with Ad | Ad
    ·have:=Nat.mul_le_mul_right sz (Nat.succ_le_of_lt Ad);rw[Nat.succ_mul]at this;omega
    ·have:=Nat.mul_le_mul_right sz (Nat.succ_le_of_lt Ad);rw[Nat.succ_mul]at this;omega
theorem zaJ.replicate {zv:Array Value} {z:List V} (h:zfk w A nm μ H zv.toList z) (hl:z.length=sz) (len n:Nat) (hn:n=len*sz):
 zaJ w A nm μ H sz ((Array.range n).map (zv[· % zv.size]!)).toList (List.replicate len z):=by
 subst hn;have AS:zv.size=sz:=by have:=h.1;simp at this;omega
 refine⟨by simp,fun i row hr=> ?_,fun i row j x hr hj=> ?_⟩
 ·rw[List.getElem?_replicate]at hr;split at hr
  ·simp at hr;rw[<- hr,hl]
  ·simp at hr
 ·rw[List.getElem?_replicate]at hr;split at hr
  ·rename_i Ad;simp only[zA]at hr;subst hr;have AN:j<sz:=by rw[<- hl];exact(zH.1 hj).1
   obtain⟨v,hv,Ae⟩:=h.2 j x hj;refine⟨v,?_,Ae⟩;have hq:=zgg Ad AN;have hm:(i*sz+j) % sz=j:=by rw[Nat.mul_comm,Nat.mul_add_mod];exact Nat.mod_eq_of_lt AN
   simp only[Array.getElem?_toList]at hv;have Ph:j<zv.size:=by omega
   simp only[Array.toList_map,Array.toList_range,zJ,List.getElem?_range hq,Option.map_some,AS,hm];rw[Array.getElem?_eq_getElem Ph]at hv;simp only[zA]at hv;simp[Ph,hv]
  ·simp at hr
end
section
variable {P:Program} {N:Nam} {I:Inv} {c:Ctx} {ns p:Nat} {A:Nat->Prop} {μ lam:Nat->Nat} {s:St} {a:Act} {w:World} {e:Eff} {o:Oper}
theorem zhZ (hI:I.Ok N) (R:Rel N c ns A μ lam s a w) (sz:Nat): ∀(parts:List (Nat×Operand)) (ps:List (Nat×Opd)) (cells:Array Value) (rs rs':List (List V)),
 (parts.length=ps.length/\ ∀(i:Nat) (q:Nat×Opd),ps[i]? =some q-> ∃x,parts[i]? =some x/\x.1=q.1/\opd I x.2=some q.2)->
 zaJ w A N.nm μ s.heap sz cells.toList rs->zcH N.G rs sz s ps=some rs'->
 ∃cells',Instr.fill (fun i=>some (i*sz,sz)) cells (parts.map fun x=>(x.1,a.eval x.2))=some cells'/\zaJ w A N.nm μ s.heap sz cells'.toList rs'/\rs'.length=rs.length
 | [],ps,cells,rs,rs',Cd,Ae,hf=>by
   obtain⟨hl,_⟩:=Cd;have:ps=[]:=List.length_eq_zero_iff.1 (by simpa using hl.symm);subst this;simp only[zcH,zA]at hf;subst hf
   exact⟨cells,rfl,Ae,rfl⟩
 | (i,x)::parts,[],cells,rs,rs',Cd,Ae,hf=>by simp at Cd
 | (i,x)::parts,(i',y)::ps,cells,rs,rs',Cd,Ae,hf=>by
   obtain⟨hl,hq⟩:=Cd;obtain⟨q0,KN,BL,Ao⟩:=hq 0 _ rfl;simp only[List.getElem?_cons_zero,zA]at KN;subst KN;simp only at BL Ao;subst BL;simp only[zcH,zC,zB]at hf;obtain⟨v,hv,new,B2,hf⟩:=hf;split at hf
   ·rename_i Ac;obtain⟨Ac,AV⟩:=Ac;have hr:=(zat hI R Ao hv).cells B2;have AS:(a.eval x).cells.size=sz:=by have:=hr.1;simp at this;omega
    have By:cells.size=rs.length*sz:=by have:=Ae.1;simpa using this
    obtain⟨f1,f2⟩:=zlA (i*sz) (a.eval x).cells.toList 0 cells
    have Gx:zaJ w A N.nm μ s.heap sz (((a.eval x).cells.toList.zipIdx 0).foldl (fun cs (x:Value×Nat)=>match x with | (c,j)=>cs.setIfInBounds (i*sz+j) c) cells).toList (rs.set i new):=by
     refine Ae.set hr Ac AV (by simpa using f1) (fun k hk=> ?_);simp only[Array.getElem?_toList];rw[f2 k];simp only[Nat.add_zero,Array.length_toList]at hk⊢
     by_cases hc:i*sz<=k/\k<i*sz+(a.eval x).cells.size
     ·rw[if_pos ⟨hc.1,hc.2,hk⟩,if_pos hc];simp
     ·rw[if_neg (by omega),if_neg hc]
    obtain⟨cells',h1,h2,h3⟩:=zhZ hI R sz parts ps _ (rs.set i new) rs' ⟨by simpa using hl,fun i q hi=>by
     obtain⟨z,hz,Fb⟩:=hq (i+1) q (by simpa using hi)
     exact⟨z,by simpa using hz,Fb⟩⟩ Gx hf
    refine⟨cells',?_,h2,by simpa using h3⟩
    have AJ:i*sz+sz<=cells.size:=by
     rw[By];have:=Nat.mul_le_mul_right sz (Nat.succ_le_of_lt AV);rw[Nat.succ_mul]at this;exact this
    simp only[List.map_cons,Instr.fill,AS];rw[<- h1];have:(decide (sz≠sz)||decide (i*sz+sz>cells.size))=false:=by simp;omega
    simp only[this,zG,if_false]
    congr 1
    rw[<- Array.foldl_toList];simp
   ·simp at hf
theorem zzK (R:Rel N c ns A μ lam s a w) {k sz cap:Nat} {cells:Array Value} {cs:List Value} {rs:List (List V)} {t:TypeId} {d:Option Nat} (hk:s.heap k=none) (hn:k<s.nxt)
 (AD:zaJ w A N.nm μ s.heap sz cs rs) (CA: ∀(q:Nat) (v:Value),cs[q]? =some v->cells[q]? =some v) (Cs:cap*sz<=cells.size) (Cw:rs.length<=cap)
 (hd: ∀x,d=some x->x<ns) (hf:s.free d {}):
 Rel N c ns A (upd μ k w.heap.size) lam (s.apply d { val:=.ms k 0 rs.length,hp:=[(k,.rows sz rs false)] }) (a.put d (.slice (some ⟨w.heap.size,0,none⟩) rs.length cap)) (w.alloc (.cells cells t)):=by
 have R1:=zBx R (t:=t) (cells:=cells) hk hn (Nat.le_trans (Nat.mul_le_mul_right _ Cw) Cs) AD.2.1 (fun i row j x h1 h2=>by
  obtain⟨v,hv,hr⟩:=AD.2.2 i row j x h1 h2
  exact⟨v,CA _ v hv,hr⟩)
 refine R1.put d { val:=.ms k 0 rs.length } _ hd hf rfl rfl rfl ?_ (by simp)
 have:=RepC.ms (w:=w.alloc (.cells cells t)) (A:=A) (nm:=N.nm) (μ:=upd μ k w.heap.size) (H:=upd s.heap k (some (.rows sz rs false))) k 0 rs.length cap sz rs false (some ⟨w.heap.size,0,none⟩) (by simp) (by simp) (by omega)
  (.inr ⟨by simp,t,cells.size,by rw[zaz];unfold World.shape?;rw[zdT],by simpa using Cs⟩)
 exact this.toV
theorem zPk (R:Rel N c ns A μ lam s a w) {sz cap:Nat} {cells:Array Value} {cs:List Value} {rs:List (List V)} {ts:List (List T)} {t:TypeId} {d:Option Nat}
 (AD:zaJ w A N.nm μ s.heap sz cs rs) (FR:rs.mapM trees=some ts) (CA: ∀(q:Nat) (v:Value),cs[q]? =some v->cells[q]? =some v) (Cw:rs.length<=cap)
 (hd: ∀x,d=some x->x<ns) (hf:s.free d {}):
 Rel N c ns (fun r=>A r\/r=w.heap.size) μ lam (s.apply d { val:=.t (.sl ts) }) (a.put d (.slice (some ⟨w.heap.size,0,none⟩) rs.length cap)) (w.alloc (.cells cells t)):=by
 have hE:=zjq R (.cells cells t);have B2:=zdT w (.cells cells t);have Nb:(w.alloc (.cells cells t)).heap.size=w.heap.size+1:=by simp only[World.alloc,Array.size_push]
 have R1:=R.alloc (.cells cells t)
 have R2:=R1.growA (fun q=>q=w.heap.size) (fun q hq t ht=>by have:=R.lt_loc ht;omega)
  (fun q hq k o hk hl=>by have:=R.lt_live hk hl;omega)
  (fun q hq=> .inr (by have:=R.csize;omega)) (fun q hq=>by omega) (R.defers.join R1.defers (fun q hq=>by omega))
 obtain⟨m1,m2⟩:=zbb FR;refine R2.put d { val:=.t (.sl ts) } _ hd hf rfl rfl rfl ?_ (by simp)
 cases SW:ts with
 | nil=>
   rw[SW]at m1;rw[m1]
   exact(RepC.t (.sl0 _ cap)).toV
 | cons t0 tr0=>
 rw[<- SW];have JY:=hE.blk
 have Ac: ∀(i1:Nat) (tr:List T),ts[i1]? =some tr->tr.length=sz:=fun i1 tr h1=>by
  obtain⟨row,h2,h3⟩:=m2 i1 tr h1;rw[(zj8 h3).1];exact AD.2.1 i1 row h2
 have Ag: ∀(i1:Nat) (tr:List T) (j:Nat) (y:T),ts[i1]? =some tr->tr[j]? =some y-> ∃v,cs[i1*sz+j]? =some v/\RepT w A N.nm v y:=fun i1 tr j y h1 h4=>by
  obtain⟨row,h2,h3⟩:=m2 i1 tr h1;obtain⟨y0,h5,rfl⟩:=(zj8 h3).2 j y h4;obtain⟨v,h6,h7⟩:=AD.2.2 i1 row j _ h2 h5
  cases h7 with
  | t h8=>exact⟨v,h6,h8.norm⟩
 have key:=RepT.sl (w:=w.alloc (.cells cells t)) (A:=fun r=>A r\/r=w.heap.size) (nm:=N.nm) w.heap.size 0 cap sz ts
  (fun i1 j=>(cs[i1*sz+j]?).getD default) (by rw[SW];simp) (by rw[<- m1];exact Cw) (.inr rfl) Ac ?_ ?_
 ·rw[<- m1]at key;exact(RepC.t key).toV
 ·intro i1 tr j y h1 h2;obtain⟨v,h3,_⟩:=Ag i1 tr j y h1 h2;rw[h3];simp only[World.cell?,B2,Nat.zero_add,Option.getD_some];exact CA _ v h3
 ·intro i1 tr j y h1 h2;obtain⟨v,h3,h4⟩:=Ag i1 tr j y h1 h2;rw[h3,Option.getD_some];exact h4.mono JY (fun _ h=> .inl h)
theorem zt6 (hI:I.Ok N) (R:Rel N c ns A μ lam s a w) {t el:TypeId} {n len:Nat} {ag:Bool} {z:List V} {parts:Array (Nat×Operand)} {ps:List (Nat×Opd)}
 (ht:P.underlying t=some (.slice el)) (A4:typ P el=some (ag,n)) (hz:zdc P el=some z) (Hr:z.length=n) (Ac:len*n<=2^24)
 (Cd:parts.toList.length=ps.length/\ ∀(i:Nat) (q:Nat×Opd),ps[i]? =some q-> ∃x,parts.toList[i]? =some x/\x.1=q.1/\opd I x.2=some q.2) (ho:o.op= .buildSlice t len parts)
 (hd: ∀x,o.dst=some x->x<ns) (hf:s.free o.dst e) (hk:s.heap (s.bas+p)=none) (hn:s.bas+p<s.nxt) (he:zaj N.G p s (.bslice n len z ps)=some e):zeB P N c ns o a w (s.apply o.dst e):=by
 simp only[zaj,zC,zB,zA]at he;obtain⟨rs,AD,rfl⟩:=he;obtain⟨i,v,hi,hv,hc,A3⟩:=zb4 hz;obtain⟨inf,g1,g2,g3,g4⟩:=zbr A4;have Bk:(parts.map fun(i,x)=>(i,a.eval x)).toList=parts.toList.map fun x=>(x.1,a.eval x.2):=by simp
 have GD: ¬(len*n>2^24):=by omega
 obtain⟨zero,BN,GP⟩: ∃zero:Array Value,zero=(if len*n=0 then #[]else v.cells)/\
  zaJ w A N.nm μ s.heap n ((Array.range (len*n)).map (zero[· % zero.size]!)).toList (List.replicate len z):=by
  by_cases h0:len*n=0
  ·refine⟨#[],by rw[if_pos h0],?_⟩;rcases Nat.mul_eq_zero.1 h0 with h | h
   ·subst h;simp;exact zaJ.nil
   ·subst h;refine⟨by simp,fun i row hr=> ?_,fun i row j x hr hj=> ?_⟩
    ·rw[List.getElem?_replicate]at hr;split at hr
     ·simp at hr;rw[<- hr,Hr]
     ·simp at hr
    ·rw[List.getElem?_replicate]at hr;split at hr
     ·simp at hr;subst hr;have:=List.length_eq_zero_iff.1 Hr;subst this;simp at hj
     ·simp at hr
  ·exact⟨v.cells,by rw[if_neg h0],zaJ.replicate (zbT hc) Hr len _ rfl⟩
 obtain⟨cells',h1,h2,h3⟩:=zhZ hI R n parts.toList ps _ _ rs Cd GP AD;simp only[List.length_replicate]at h3;subst h3;have By:cells'.size=rs.length*n:=by have:=h2.1;simpa using this
 refine⟨_,_,A,_,lam,.inl ?_,zzK R (t:=el) (cap:=rs.length) (d:=o.dst) (cells:=cells') hk hn h2 (by simp) (by rw[By];exact Nat.le_refl _) (Nat.le_refl _) hd hf⟩
 by_cases h0:rs.length*n=0
 ·rw[if_pos h0]at BN;subst BN;simp only[execOp,ho,Instr.buildSlice,Sem.run_bind,zau ht,Result.andThen_ok,zaO g1,g2,GD,if_false,Bk,newRow,Sem.run_pure];rw[if_pos h0];simp only[Sem.run_pure,Result.andThen_ok,h1,Sem.run_bind,run_newObj];rfl
 ·rw[if_neg h0]at BN;subst BN;simp only[execOp,ho,Instr.buildSlice,Sem.run_bind,zau ht,Result.andThen_ok,zaO g1,g2,GD,if_false,h0,A3,Bk,h1,newRow,run_newObj,Sem.run_pure];rfl
theorem zOz (hI:I.Ok N) (R:Rel N c ns A μ lam s a w) {t el:TypeId} {n len:Nat} {ag:Bool} {z:List V} {parts:Array (Nat×Operand)} {ps:List (Nat×Opd)}
 (ht:P.underlying t=some (.slice el)) (A4:typ P el=some (ag,n)) (hz:zdc P el=some z) (Hr:z.length=n) (Ac:len*n<=2^24)
 (Cd:parts.toList.length=ps.length/\ ∀(i:Nat) (q:Nat×Opd),ps[i]? =some q-> ∃x,parts.toList[i]? =some x/\x.1=q.1/\opd I x.2=some q.2) (ho:o.op= .buildSlice t len parts)
 (hd: ∀x,o.dst=some x->x<ns) (hf:s.free o.dst e) (he:zaj N.G p s (.lit n len z ps)=some e):zeB P N c ns o a w (s.apply o.dst e):=by
 simp only[zaj,zC,zB,zA]at he;obtain⟨rs,AD,ts,FR,rfl⟩:=he;obtain⟨i,v,hi,hv,hc,A3⟩:=zb4 hz;obtain⟨inf,g1,g2,g3,g4⟩:=zbr A4;have Bk:(parts.map fun(i,x)=>(i,a.eval x)).toList=parts.toList.map fun x=>(x.1,a.eval x.2):=by simp
 have GD: ¬(len*n>2^24):=by omega
 obtain⟨zero,BN,GP⟩: ∃zero:Array Value,zero=(if len*n=0 then #[]else v.cells)/\
  zaJ w A N.nm μ s.heap n ((Array.range (len*n)).map (zero[· % zero.size]!)).toList (List.replicate len z):=by
  by_cases h0:len*n=0
  ·refine⟨#[],by rw[if_pos h0],?_⟩;rcases Nat.mul_eq_zero.1 h0 with h | h
   ·subst h;simp;exact zaJ.nil
   ·subst h;refine⟨by simp,fun i row hr=> ?_,fun i row j x hr hj=> ?_⟩
    ·rw[List.getElem?_replicate]at hr;split at hr
     ·simp at hr;rw[<- hr,Hr]
     ·simp at hr
    ·rw[List.getElem?_replicate]at hr;split at hr
     ·simp at hr;subst hr;have:=List.length_eq_zero_iff.1 Hr;subst this;simp at hj
     ·simp at hr
  ·exact⟨v.cells,by rw[if_neg h0],zaJ.replicate (zbT hc) Hr len _ rfl⟩
 obtain⟨cells',h1,h2,h3⟩:=zhZ hI R n parts.toList ps _ _ rs Cd GP AD;simp only[List.length_replicate]at h3;subst h3;have By:cells'.size=rs.length*n:=by have:=h2.1;simpa using this
 refine⟨_,_,_,_,lam,.inl ?_,zPk R (t:=el) (cap:=rs.length) (d:=o.dst) (cells:=cells') h2 FR (by simp) (Nat.le_refl _) hd hf⟩
 by_cases h0:rs.length*n=0
 ·rw[if_pos h0]at BN;subst BN;simp only[execOp,ho,Instr.buildSlice,Sem.run_bind,zau ht,Result.andThen_ok,zaO g1,g2,GD,if_false,Bk,newRow,Sem.run_pure];rw[if_pos h0];simp only[Sem.run_pure,Result.andThen_ok,h1,Sem.run_bind,run_newObj];rfl
 ·rw[if_neg h0]at BN;subst BN;simp only[execOp,ho,Instr.buildSlice,Sem.run_bind,zau ht,Result.andThen_ok,zaO g1,g2,GD,if_false,h0,A3,Bk,h1,newRow,run_newObj,Sem.run_pure];rfl
theorem zhj {m:Int} (h0:0<=m) (h1:m<=2^32):IntKind.i64.wrap m=m:=by
 unfold IntKind.wrap;have e:m % (2^IntKind.i64.bits:Int)=m:=Int.emod_eq_of_lt h0 (by simp[IntKind.bits];omega);simp only[e];have : ¬(m>=(2^(IntKind.i64.bits-1):Int)):=by simp[IntKind.bits];omega
 simp[this]
theorem zrC (hI:I.Ok N) (R:Rel N c ns A μ lam s a w) {t el:TypeId} {n:Nat} {ag:Bool} {z:List V} {i:TypeInfo} {x y:Operand} {x' y':Opd}
 (hx:opd I x=some x') (hy:opd I y=some y') (ht:P.underlying t=some (.slice el)) (A4:typ P el=some (ag,n)) (hz:zdc P el=some z) (hi:P.info? el=some i) (ho:o.op= .makeSlice t x y) (Cg:0<n)
 (hd: ∀x,o.dst=some x->x<ns) (hf:s.free o.dst e) (hk:s.heap (s.bas+p)=none) (hn:s.bas+p<s.nxt) (he:zaj N.G p s (.mkslice n i.bytes z x' y')=some e):zeB P N c ns o a w (s.apply o.dst e):=by
 simp only[zaj,zC,zB]at he;obtain⟨l,hl,m,hm,he⟩:=he;split at he
 ·rename_i hb;obtain⟨Co,Cx,BM,H9,Hr⟩:=hb;simp only[zA]at he;subst he;obtain⟨kl,Mw⟩:=zc4 hI R hx hl;obtain⟨km,K0⟩:=zc4 hI R hy hm;obtain⟨i',v,AK,hv,hc,A3⟩:=zb4 hz;obtain⟨inf,g1,g2,g3,g4⟩:=zbr A4;have Er:=zhj Co (by omega:l<=2^32);have FP:=zhj (by omega:(0:Int)<=m) BM
  have CH: ¬((i.bytes:Int)*m>2^48):=by
   have h1:(i.bytes:Int)*m<=2^12*2^32:=Int.mul_le_mul (by omega) BM (by omega) (by omega);omega
  obtain⟨zero,BN,GP⟩: ∃zero:Array Value,zero=(if m.toNat*n=0 then #[]else v.cells)/\
   zaJ w A N.nm μ s.heap n ((Array.range (m.toNat*n)).map (zero[· % zero.size]!)).toList (List.replicate m.toNat z):=by
   by_cases h0:m.toNat*n=0
   ·refine⟨#[],by rw[if_pos h0],?_⟩;rcases Nat.mul_eq_zero.1 h0 with h | h
    ·rw[h];simp;exact zaJ.nil
    ·omega
   ·exact⟨v.cells,by rw[if_neg h0],zaJ.replicate (zbT hc) Hr m.toNat _ rfl⟩
  have CA:=GP.take l.toNat (by simp;omega)
  have Gr:(List.replicate m.toNat z).take l.toNat=List.replicate l.toNat z:=by
   rw[List.take_replicate];congr 1;omega
  rw[Gr]at CA
  have Ea:=zzK R (t:=el) (cap:=m.toNat) (d:=o.dst) (cells:=(Array.range (m.toNat*n)).map (zero[· % zero.size]!)) hk hn CA (fun q v hq=>by
   rw[zO]at hq;split at hq
   ·rw[<- Array.getElem?_toList];exact hq
   ·simp at hq) (by simp) (by simp;omega) hd hf
  simp only[List.length_replicate]at Ea;refine⟨_,_,A,_,lam,.inl ?_,Ea⟩;have Bw:(decide (m<0)||decide ((i.bytes:Int)*m>2^48))=false:=by simp;omega
  have c1:decide (l<0)=false:=by simp;omega
  have c2:decide (l>m)=false:=by simp;omega
  by_cases h0:m.toNat*n=0
  ·rw[if_pos h0]at BN;subst BN;simp only[execOp,ho,Instr.makeSlice,Sem.run_bind,zau ht,Result.andThen_ok,Mw,K0,asInt,asIntOf,Sem.run_pure,zgP hi,Er,FP,Bw,c1,c2,Bool.or_false,zG,if_false,run_askRoom,zaO g1,g2,h0,if_true,newRow,run_newObj];rfl
  ·rw[if_neg h0]at BN;subst BN;simp only[execOp,ho,Instr.makeSlice,Sem.run_bind,zau ht,Result.andThen_ok,Mw,K0,asInt,asIntOf,Sem.run_pure,zgP hi,Er,FP,Bw,c1,c2,Bool.or_false,zG,if_false,run_askRoom,zaO g1,g2,h0,A3,newRow,run_newObj];rfl
 ·simp at he
end
end Rg
end
