/- Part of the proof of the laws of the package relyguardlaw36: an abstract machine for the program's functions, what they compute, and that the machine is the program's. No condition. (RgH RgI) -/
import Derived.Test.YtaiokglcgiemnaaGreatDoorPartAC
section
namespace Rg
open Go
section
variable {P:Program} {N:Nam} {I:Inv} {c:Ctx} {ns p:Nat} {A:Nat->Prop} {μ lam:Nat->Nat} {s:St} {a:Act} {w:World} {e:Eff}
theorem s_un (hI:I.Ok N) (R:Rel N c ns A μ lam s a w) {x:Operand} {x':Opd} {op:UnOp} (hx:opd I x=some x') (he:aeval N.G p s (.un op x')=some e):
 Gives N A μ s w ((Op.unary op (a.eval x)).run P w) e:=by
 simp only[aeval,Option.bind_eq_bind,Option.bind_eq_some_iff]at he
 obtain⟨u,hu,he⟩:=he
 split at he
 ·rename_i b
  simp only[Option.bind_eq_some_iff,Option.some.injEq]at he
  obtain⟨r,hr,rfl⟩:=he
  have hrep:=(opd_eval hI R hx hu).t_inv
  generalize a.eval x=v at hrep
  unfold unT at hr
  split at hr<;>simp only[Option.some.injEq,reduceCtorEq]at hr<;>subst hr<;>cases hrep
  ·exact⟨_,by simp[Op.unary,Op.intArith],(RepC.t (.int _ _)).toV,rfl,rfl,rfl,rfl⟩
  ·refine⟨_,?_,(RepC.t (.int _ _)).toV,rfl,rfl,rfl,rfl⟩
   simp only[Op.unary,Op.intBits]
   simp
  ·exact⟨_,by simp[Op.unary],(RepC.t (.bool _)).toV,rfl,rfl,rfl,rfl⟩
 ·simp at he
theorem s_conv (hI:I.Ok N) (R:Rel N c ns A μ lam s a w) {x:Operand} {x':Opd} {k k0:IntKind} {src dst:TypeId} (hx:opd I x=some x')
 (he:aeval N.G p s (.conv k x')=some e) (h1:P.underlying src=some (.int k0)) (h2:P.underlying dst=some (.int k)):
 Gives N A μ s w ((convert src dst (a.eval x)).run P w) e:=by
 simp only[aeval,Option.bind_eq_bind,Option.bind_eq_some_iff,Option.some.injEq]at he
 obtain⟨n,hn,rfl⟩:=he
 obtain⟨j,hj⟩:=int_eval hI R hx hn
 exact⟨_,by simp[convert,run_und h1,run_und h2,hj,Conv.intToInt],(RepC.t (.int _ _)).toV,rfl,rfl,rfl,rfl⟩
theorem s_nilchk (hI:I.Ok N) (R:Rel N c ns A μ lam s a w) {x:Operand} {x':Opd} (hx:opd I x=some x') (he:aeval N.G p s (.nilchk x')=some e) (o:Oper) (ho:o.op= .nilCheck x):
 ∃v,(execOp a.eval o).run P w= .ok (.value v) w/\RepV w A N.nm μ s.heap v e.val/\Plain e:=by
 simp only[aeval,Option.bind_eq_bind,Option.bind_eq_some_iff]at he
 obtain⟨u,hu,he⟩:=he
 have hrep:=opd_eval hI R hx hu
 have k1: ∀ad,a.eval x= .pointer (some ad)->(execOp a.eval o).run P w= .ok (.value (a.eval x)) w:=by
  intro ad h;simp[execOp,ho,h]
 have k2: ∀f b d,a.eval x= .func (.func f) b d->(execOp a.eval o).run P w= .ok (.value (a.eval x)) w:=by
  intro f b d h;simp[execOp,ho,h]
 split at he
 ·rename_i k i off
  split at he<;>simp only[Option.some.injEq,reduceCtorEq]at he
  rename_i hk
  subst he
  obtain⟨hv,_⟩:=hrep.mp_inv hk
  exact⟨_,k1 _ hv,hrep,rfl,rfl,rfl,rfl⟩
 ·simp only[Option.some.injEq]at he;subst he
  obtain⟨r,off,vf,hv,_⟩:=RepV.ip_inv hrep
  exact⟨_,k1 _ hv,hrep,rfl,rfl,rfl,rfl⟩
 ·simp only[Option.some.injEq]at he;subst he
  refine⟨_,?_,hrep,rfl,rfl,rfl,rfl⟩
  generalize hv:a.eval x=v at hrep
  cases(hrep:RepC w A N.nm μ s.heap v _)with
  | fn f _ _ va vb=>rw[<- hv];exact k2 _ _ _ hv
 ·simp only[Option.some.injEq]at he;subst he
  refine⟨_,?_,hrep,rfl,rfl,rfl,rfl⟩
  generalize hv:a.eval x=v at hrep
  cases hrep.t_inv with
  | fn f _ _ va vb=>rw[<- hv];exact k2 _ _ _ hv
 ·simp only[Option.some.injEq]at he;subst he
  refine⟨_,?_,hrep,rfl,rfl,rfl,rfl⟩
  generalize hv:a.eval x=v at hrep
  cases hrep.t_inv with
  | fa f c vc=>rw[<- hv];exact k2 _ _ _ hv
 ·simp at he
theorem run_fieldAt {t:TypeId} {fields:Array Field} {f:Field} {i n r off:Nat} {ag:Bool} {v:Value}
 (ht:P.underlying t=some (.struct fields)) (hf:fields[i]? =some f) (hty:typ P f.type=some (ag,n)) (hn:0<n) (hv:v= .pointer (some ⟨r,off,none⟩)):
 (Instr.fieldAt t v i).run P w= .ok (.pointer (some ⟨r,off+f.offset,none⟩)) w:=by
 obtain⟨inf,g1,g2,g3,g4⟩:=typ_spec hty
 have:inf.size≠0:=by omega
 simp[Instr.fieldAt,run_und ht,hf,hv,Instr.sureAddr,fieldPlace,run_size g1,this,addr_add]
theorem s_faddrL (R:Rel N c ns A μ lam s a w) {x:Operand} {x':Opd} {t:TypeId} {fields:Array Field} {f:Field} {i n:Nat} {ag:Bool} (hx:opd I x=some x')
 (ht:P.underlying t=some (.struct fields)) (hf:fields[i]? =some f) (hty:typ P f.type=some (ag,n)) (hn:0<n)
 (he:aeval N.G p s (.faddrL f.offset x')=some e):
 ∃v,(Instr.fieldAt t (a.eval x) i).run P w= .ok v w/\RepV w A N.nm μ s.heap v e.val/\e.loc=none/\e.wloc=none/\e.hp=[]/\
  ∀b o,e.adr=some (b,o)->(s.loc b).isSome=true/\v= .pointer (some ⟨lam b,o,none⟩):=by
 simp only[aeval,Option.bind_eq_bind,Option.bind_eq_some_iff,Option.some.injEq,Prod.exists]at he
 obtain⟨b,o,hr,cs,hb,rfl⟩:=he
 have hv:=ref_eval R hx hr hb
 refine⟨_,run_fieldAt ht hf hty hn hv,trivial,rfl,rfl,rfl,?_⟩
 intro b' o' h
 simp only[Option.some.injEq,Prod.mk.injEq]at h
 obtain⟨rfl,rfl⟩:=h
 exact⟨by rw[hb];rfl,rfl⟩
theorem ip_drop {r off:Nat} {cs:List T} {vf:Nat->Value} {nm:Nat->Nat} {H:Nat->Option O} (n:Nat) (hA:A r) (hv: ∀(j:Nat) (x:T),cs[j]? =some x->w.cell? ⟨r,off+j,none⟩=some (vf j))
 (hr: ∀(j:Nat) (x:T),cs[j]? =some x->RepT w A nm (vf j) x):RepV w A nm μ H (.pointer (some ⟨r,off+n,none⟩)) (.t (.ip (cs.drop n))):=
 (RepC.t (.ip r (off+n) (cs.drop n) (fun j=>vf (n+j)) hA (fun j x hj=>by rw[Nat.add_assoc];exact hv _ x (by simpa using hj)) (fun j x hj=>hr _ x (by simpa using hj)))).toV
theorem s_faddr (hI:I.Ok N) (R:Rel N c ns A μ lam s a w) {x:Operand} {x':Opd} {t:TypeId} {fields:Array Field} {f:Field} {i n:Nat} {ag:Bool} (hx:opd I x=some x')
 (ht:P.underlying t=some (.struct fields)) (hf:fields[i]? =some f) (hty:typ P f.type=some (ag,n)) (hn:0<n)
 (he:aeval N.G p s (.faddr f.offset x')=some e):Gives N A μ s w ((Instr.fieldAt t (a.eval x) i).run P w) e:=by
 simp only[aeval,Option.bind_eq_bind,Option.bind_eq_some_iff]at he
 obtain⟨u,hu,he⟩:=he
 have hrep:=opd_eval hI R hx hu
 split at he
 ·rename_i k i' off
  split at he<;>simp only[Option.some.injEq,reduceCtorEq]at he
  rename_i sz rs frz hk
  subst he
  obtain⟨hv,hi⟩:=hrep.mp_inv hk
  refine⟨_,run_fieldAt ht hf hty hn hv,?_,rfl,rfl,rfl,rfl⟩
  rw[Nat.add_assoc]
  exact(RepC.mp k i' _ sz rs frz hk hi).toV
 ·simp only[Option.some.injEq]at he;subst he
  obtain⟨r,off,vf,hv,hA,h1,h2⟩:=RepV.ip_inv hrep
  exact⟨_,run_fieldAt ht hf hty hn hv,ip_drop _ hA h1 h2,rfl,rfl,rfl,rfl⟩
 ·simp at he
theorem run_part {t:TypeId} {ag:Bool} {n off:Nat} {cs:Array Value} (h:typ P t=some (ag,n)) (hle:off+n<=cs.size):
 (part t cs off).run P w= .ok (wrapV ag ((cs.toList.drop off).take n)) w:=by
 obtain⟨inf,g1,g2,g3,g4⟩:=typ_spec h
 cases ag with
 | true=>
   simp only[part,Sem.run_bind,g4 w,Result.andThen_ok,if_true,run_size g1,Sem.run_pure,wrapV,g2]
   congr 2
   apply Array.ext'
   simp[Array.toList_extract,List.extract_eq_take_drop]
 | false=>
   have hn:=g3 rfl
   subst hn
   have hlt:off<cs.size:=by omega
   simp only[part,Sem.run_bind,g4 w,Result.andThen_ok,Bool.false_eq_true,if_false,Array.getElem?_eq_getElem hlt,Sem.run_pure,wrapV]
   congr 1
   rw[List.drop_eq_getElem_cons (by simpa using hlt)]
   simp
theorem s_field (hI:I.Ok N) (R:Rel N c ns A μ lam s a w) {x:Operand} {x':Opd} {t:TypeId} {fields:Array Field} {f:Field} {i n:Nat} {ag:Bool} (hx:opd I x=some x')
 (ht:P.underlying t=some (.struct fields)) (hf:fields[i]? =some f) (hty:typ P f.type=some (ag,n))
 (he:aeval N.G p s (.field ag f.offset n x')=some e):Gives N A μ s w ((Instr.field t (a.eval x) i).run P w) e:=by
 simp only[aeval,Option.bind_eq_bind,Option.bind_eq_some_iff]at he
 obtain⟨u,hu,he⟩:=he
 split at he
 ·rename_i cs
  simp only[Option.bind_eq_some_iff,Option.some.injEq]at he
  obtain⟨r,hr,v,hw,rfl⟩:=he
  obtain⟨vs,hvs,hl⟩:=(opd_eval hI R hx hu).agg_inv
  obtain⟨h1,h2,h3⟩:=hl.rd hr
  refine⟨_,?_,h1.wrap hw,rfl,rfl,rfl,rfl⟩
  simp[Instr.field,run_und ht,hf,hvs,asAgg,run_part (P:=P) (w:=w) hty (by simpa using h2)]
 ·simp at he
theorem s_idxA (hI:I.Ok N) (R:Rel N c ns A μ lam s a w) {x i:Operand} {x' i':Opd} {t el:TypeId} {len n:Nat} {ag:Bool} (hx:opd I x=some x') (hi:opd I i=some i')
 (ht:P.underlying t=some (.array len el)) (hty:typ P el=some (ag,n))
 (he:aeval N.G p s (.idxA ag len n x' i')=some e):Gives N A μ s w ((Instr.index t (a.eval x) (a.eval i)).run P w) e:=by
 simp only[aeval,Option.bind_eq_bind,Option.bind_eq_some_iff]at he
 obtain⟨m,hm,u,hu,he⟩:=he
 obtain⟨k,hk⟩:=int_eval hI R hi hm
 split at he
 ·rename_i cs
  split at he
  ·rename_i hb
   simp only[Option.bind_eq_some_iff,Option.some.injEq]at he
   obtain⟨r,hr,v,hw,rfl⟩:=he
   obtain⟨vs,hvs,hl⟩:=(opd_eval hI R hx hu).agg_inv
   obtain⟨h1,h2,h3⟩:=hl.rd hr
   obtain⟨inf,g1,g2,g3,g4⟩:=typ_spec hty
   refine⟨_,?_,h1.wrap hw,rfl,rfl,rfl,rfl⟩
   simp[Instr.index,hk,asIntOf,run_und ht,hvs,hb,run_size g1,g2,run_part (P:=P) (w:=w) hty (by simpa using h2)]
  ·simp at he
 ·simp at he
theorem s_idxS (hI:I.Ok N) (R:Rel N c ns A μ lam s a w) {x i:Operand} {x' i':Opd} {t:TypeId} (hx:opd I x=some x') (hi:opd I i=some i')
 (ht:P.underlying t=some .string)
 (he:aeval N.G p s (.idxS x' i')=some e):Gives N A μ s w ((Instr.index t (a.eval x) (a.eval i)).run P w) e:=by
 simp only[aeval,Option.bind_eq_bind,Option.bind_eq_some_iff]at he
 obtain⟨m,hm,u,hu,he⟩:=he
 obtain⟨k,hk⟩:=int_eval hI R hi hm
 split at he
 ·rename_i b
  split at he
  ·rename_i hb
   simp only[Option.bind_eq_some_iff,Option.some.injEq]at he
   obtain⟨r,hr,rfl⟩:=he
   have hv:=(opd_eval hI R hx hu).str_inv
   refine⟨_,?_,(RepC.t (.int _ _)).toV,rfl,rfl,rfl,rfl⟩
   simp[Instr.index,hk,asIntOf,run_und ht,hv,hb,hr]
  ·simp at he
 ·simp at he
theorem s_extr (hI:I.Ok N) (R:Rel N c ns A μ lam s a w) {x:Operand} {x':Opd} {i:Nat} (hx:opd I x=some x')
 (he:aeval N.G p s (.extr x' i)=some e):Gives N A μ s w ((Instr.extract (a.eval x) i).run P w) e:=by
 simp only[aeval,Option.bind_eq_bind,Option.bind_eq_some_iff]at he
 obtain⟨u,hu,he⟩:=he
 split at he
 ·rename_i cs
  simp only[Option.bind_eq_some_iff,Option.some.injEq]at he
  obtain⟨v,hv,rfl⟩:=he
  obtain⟨vs,hvs,hl,h1⟩:=opd_eval hI R hx hu
  obtain⟨z,hz,hr⟩:=h1 i v hv
  refine⟨z,?_,hr.toV,rfl,rfl,rfl,rfl⟩
  simp[Instr.extract,hvs,hz]
 ·simp at he
theorem RepV.len_inv {w:World} {A:Nat->Prop} {nm μ:Nat->Nat} {s:St} {v:Value} {x:V} {n:Nat} (h:RepV w A nm μ s.heap v x) (hn:lenOf s x=some n):
 ∃ad cap,v= .slice ad n cap:=by
 unfold lenOf at hn
 split at hn
 ·simp only[Option.some.injEq]at hn;subst hn
  cases h.t_inv;exact⟨_,_,rfl⟩
 ·simp only[Option.some.injEq]at hn;subst hn
  cases h.t_inv<;>exact⟨_,_,rfl⟩
 ·simp only[Option.some.injEq]at hn;subst hn
  cases h.t_inv;exact⟨_,_,rfl⟩
 ·split at hn<;>simp only[Option.some.injEq,reduceCtorEq]at hn
  rename_i hk;subst hn
  cases(h:RepC w A nm μ s.heap v _)with
  | ms=>exact⟨_,_,rfl⟩
  | dms _ _ _ hk'=>rw[hk]at hk';cases hk'
 ·simp at hn
theorem s_len (hI:I.Ok N) (R:Rel N c ns A μ lam s a w) {x:Operand} {x':Opd} {t el ty:TypeId} (hx:opd I x=some x') (ht:P.underlying t=some (.slice el))
 (he:aeval N.G p s (.len x')=some e):Gives N A μ s w ((Builtin.len_ #[t] ty #[a.eval x]).run P w) e:=by
 simp only[aeval,Option.bind_eq_bind,Option.bind_eq_some_iff,Option.some.injEq]at he
 obtain⟨u,hu,n,hn,rfl⟩:=he
 obtain⟨ad,cap,hv⟩:=(opd_eval hI R hx hu).len_inv hn
 refine⟨_,?_,(RepC.t (.int _ _)).toV,rfl,rfl,rfl,rfl⟩
 simp[Builtin.len_,run_und ht,hv,goInt]
theorem s_slen (hI:I.Ok N) (R:Rel N c ns A μ lam s a w) {x:Operand} {x':Opd} {t ty:TypeId} (hx:opd I x=some x') (ht:P.underlying t=some .string)
 (he:aeval N.G p s (.slen x')=some e):Gives N A μ s w ((Builtin.len_ #[t] ty #[a.eval x]).run P w) e:=by
 simp only[aeval,Option.bind_eq_bind,Option.bind_eq_some_iff]at he
 obtain⟨u,hu,he⟩:=he
 split at he
 ·simp only[Option.some.injEq]at he;subst he
  have hv:=(opd_eval hI R hx hu).str_inv
  refine⟨_,?_,(RepC.t (.int _ _)).toV,rfl,rfl,rfl,rfl⟩
  simp[Builtin.len_,run_und ht,hv,goInt]
 ·simp at he
theorem s_capN (hI:I.Ok N) (R:Rel N c ns A μ lam s a w) {x:Operand} {x':Opd} {t el ty:TypeId} (hx:opd I x=some x') (ht:P.underlying t=some (.slice el))
 (he:aeval N.G p s (.capN x')=some e):Gives N A μ s w ((Builtin.cap_ #[t] ty #[a.eval x]).run P w) e:=by
 simp only[aeval,Option.bind_eq_bind,Option.bind_eq_some_iff]at he
 obtain⟨u,hu,he⟩:=he
 split at he
 ·simp only[Option.some.injEq]at he;subst he
  have hv:=(opd_eval hI R hx hu).t_inv
  obtain⟨ad,hv⟩: ∃ad,a.eval x= .slice ad 0 0:=by
   generalize a.eval x=y at hv
   cases hv;exact⟨_,rfl⟩
  refine⟨_,?_,(RepC.t (.int _ _)).toV,rfl,rfl,rfl,rfl⟩
  simp[Builtin.cap_,run_und ht,hv,goInt]
 ·simp at he
theorem s_lenA {x:Value} {n:Nat} {t el ty:TypeId} (ht:P.underlying t=some (.array n el))
 (he:aeval N.G p s (.lenA n)=some e):Gives N A μ s w ((Builtin.len_ #[t] ty #[x]).run P w) e:=by
 simp only[aeval,Option.some.injEq]at he;subst he
 refine⟨_,?_,(RepC.t (.int _ _)).toV,rfl,rfl,rfl,rfl⟩
 simp[Builtin.len_,run_und ht,goInt]
theorem s_iaddrS (hI:I.Ok N) (R:Rel N c ns A μ lam s a w) {x i:Operand} {x' i':Opd} {t el:TypeId} {n:Nat} {ag:Bool} (hx:opd I x=some x') (hi:opd I i=some i')
 (ht:P.underlying t=some (.slice el)) (hty:typ P el=some (ag,n))
 (he:aeval N.G p s (.iaddrS n x' i')=some e):Gives N A μ s w ((Instr.indexAt t (a.eval x) (a.eval i)).run P w) e:=by
 simp only[aeval,Option.bind_eq_bind,Option.bind_eq_some_iff]at he
 obtain⟨m,hm,u,hu,he⟩:=he
 obtain⟨k,hk⟩:=int_eval hI R hi hm
 obtain⟨inf,g1,g2,g3,g4⟩:=typ_spec hty
 have hrep:=opd_eval hI R hx hu
 split at he
 ·rename_i es
  split at he
  ·rename_i hb
   simp only[Option.bind_eq_some_iff]at he
   obtain⟨row,hrow,he⟩:=he
   split at he
   ·rename_i hsz
    simp only[Option.some.injEq]at he;subst he
    have hlt:m.toNat<es.length:=(List.getElem?_eq_some_iff.1 hrow).1
    generalize hv:a.eval x=v at hrep
    cases hrep.t_inv with
    | sl0 ad cap=>simp at hrow
    | sl r off cap sz _ vf h0 hc hA hs hvv hr=>
      have hsz':sz=n:=by rw[<- hs _ row hrow,hsz]
      subst hsz'
      have hlt':m<(es.length:Int):=by omega
      refine⟨.pointer (some ⟨r,off+m.toNat*sz,none⟩),?_,(RepC.t (.ip r (off+m.toNat*sz) row (fun j=>vf m.toNat j) hA (fun j x hj=>hvv _ row j x hrow hj) (fun j x hj=>hr _ row j x hrow hj))).toV,rfl,rfl,rfl,rfl⟩
      simp[Instr.indexAt,hk,asIntOf,run_und ht,hb,hlt',run_size g1,g2,addr_add]
   ·simp at he
  ·simp at he
 ·rename_i kk j len
  split at he<;>try(simp at he;done)
  rename_i sz rs frz hkk
  split at he
  ·rename_i hb
   obtain⟨hb1,hb2,rfl⟩:=hb
   simp only[Option.some.injEq]at he;subst he
   generalize hv:a.eval x=v at hrep
   cases(hrep:RepC w A N.nm μ s.heap v _)with
   | ms _ _ _ cap sz' rs' frz' ad hk' hi' hc ha=>
     rw[hkk]at hk';cases hk'
     have hcap:cap≠0:=by omega
     obtain⟨rfl,_⟩:=ha.resolve_left hcap
     refine⟨.pointer (some ⟨μ kk,(j+m.toNat)*sz,none⟩),?_,?_,rfl,rfl,rfl,rfl⟩
     ·simp[Instr.indexAt,hk,asIntOf,run_und ht,hb1,hb2,run_size g1,g2,addr_add,Nat.add_mul]
     ·have:=RepC.mp (w:=w) (A:=A) (nm:=N.nm) (μ:=μ) (H:=s.heap) kk (j+m.toNat) 0 sz rs frz hkk (by omega)
      simpa using this.toV
   | dms _ _ _ hk'=>rw[hkk]at hk';cases hk'
  ·simp at he
 ·simp at he
theorem run_iaddr {t el:TypeId} {i:Value} {k:IntKind} {m:Int} {len n r off:Nat} {ag:Bool} {v:Value} (ht:P.underlying t=some (.array len el)) (hty:typ P el=some (ag,n))
 (hi:i= .int k m) (hb:0<=m/\m<len) (hv:v= .pointer (some ⟨r,off,none⟩)):(Instr.indexAt t v i).run P w= .ok (.pointer (some ⟨r,off+m.toNat*n,none⟩)) w:=by
 obtain⟨inf,g1,g2,g3,g4⟩:=typ_spec hty
 simp[Instr.indexAt,hi,asIntOf,run_und ht,hb,run_size g1,g2,addr_add,hv,Instr.sureAddr]
theorem s_iaddrAL (hI:I.Ok N) (R:Rel N c ns A μ lam s a w) {x i:Operand} {x' i':Opd} {t el:TypeId} {len n:Nat} {ag:Bool} (hx:opd I x=some x') (hi:opd I i=some i')
 (ht:P.underlying t=some (.array len el)) (hty:typ P el=some (ag,n)) (he:aeval N.G p s (.iaddrAL len n x' i')=some e):
 ∃v,(Instr.indexAt t (a.eval x) (a.eval i)).run P w= .ok v w/\RepV w A N.nm μ s.heap v e.val/\e.loc=none/\e.wloc=none/\e.hp=[]/\
  ∀b o,e.adr=some (b,o)->(s.loc b).isSome=true/\v= .pointer (some ⟨lam b,o,none⟩):=by
 simp only[aeval,Option.bind_eq_bind,Option.bind_eq_some_iff,Prod.exists]at he
 obtain⟨m,hm,b,o,hr,cs,hb,he⟩:=he
 obtain⟨k,hk⟩:=int_eval hI R hi hm
 split at he
 ·rename_i hbd
  simp only[Option.some.injEq]at he;subst he
  refine⟨_,run_iaddr ht hty hk hbd (ref_eval R hx hr hb),trivial,rfl,rfl,rfl,?_⟩
  intro b' o' h
  simp only[Option.some.injEq,Prod.mk.injEq]at h
  obtain⟨rfl,rfl⟩:=h
  exact⟨by rw[hb];rfl,rfl⟩
 ·simp at he
theorem s_iaddrA (hI:I.Ok N) (R:Rel N c ns A μ lam s a w) {x i:Operand} {x' i':Opd} {t el:TypeId} {len n:Nat} {ag:Bool} (hx:opd I x=some x') (hi:opd I i=some i')
 (ht:P.underlying t=some (.array len el)) (hty:typ P el=some (ag,n)) (he:aeval N.G p s (.iaddrA len n x' i')=some e):
 Gives N A μ s w ((Instr.indexAt t (a.eval x) (a.eval i)).run P w) e:=by
 simp only[aeval,Option.bind_eq_bind,Option.bind_eq_some_iff]at he
 obtain⟨m,hm,he⟩:=he
 obtain⟨k,hk⟩:=int_eval hI R hi hm
 split at he
 ·rename_i hbd
  simp only[Option.bind_eq_some_iff]at he
  obtain⟨u,hu,he⟩:=he
  have hrep:=opd_eval hI R hx hu
  split at he
  ·rename_i kk i' off
   split at he<;>simp only[Option.some.injEq,reduceCtorEq]at he
   rename_i sz rs frz hkk
   subst he
   obtain⟨hv,hi⟩:=hrep.mp_inv hkk
   refine⟨_,run_iaddr ht hty hk hbd hv,?_,rfl,rfl,rfl,rfl⟩
   rw[Nat.add_assoc]
   exact(RepC.mp kk i' _ sz rs frz hkk hi).toV
  ·simp only[Option.some.injEq]at he;subst he
   obtain⟨r,off,vf,hv,hA,h1,h2⟩:=RepV.ip_inv hrep
   exact⟨_,run_iaddr ht hty hk hbd hv,ip_drop _ hA h1 h2,rfl,rfl,rfl,rfl⟩
  ·simp at he
 ·simp at he
theorem evls_spec: ∀{l:List Opd} {vs:List V},evls N.G s l=some vs->l.length=vs.length/\ ∀(i:Nat) (v:V),vs[i]? =some v-> ∃x,l[i]? =some x/\evl N.G s x=some v
 | [],vs,h=>by simp[evls]at h;subst h;simp
 | x::l,vs,h=>by
   simp only[evls,Option.bind_eq_bind,Option.bind_eq_some_iff,Option.some.injEq]at h
   obtain⟨v,hv,us,hus,rfl⟩:=h
   obtain⟨h1,h2⟩:=evls_spec hus
   refine⟨by simp[h1],fun i z hz=> ?_⟩
   cases i with
   | zero=>simp at hz;subst hz;exact⟨x,rfl,hv⟩
   | succ i=>simp at hz;simpa using h2 i z hz
theorem opds_eval (hI:I.Ok N) (R:Rel N c ns A μ lam s a w) {xs:Array Operand} {ys:List Opd} {vs:List V} (hx:opds I xs=some ys) (hv:evls N.G s ys=some vs):
 (xs.map a.eval).size=vs.length/\ ∀(i:Nat) (v:V),vs[i]? =some v-> ∃u,(xs.map a.eval)[i]? =some u/\RepV w A N.nm μ s.heap u v:=by
 obtain⟨h1,h2⟩:=mapM_some hx
 obtain⟨h3,h4⟩:=evls_spec hv
 refine⟨by simp at h1⊢;omega,fun i v hi=> ?_⟩
 obtain⟨y,hy,hev⟩:=h4 i v hi
 obtain⟨x,hx',ho⟩:=h2 i y hy
 refine⟨a.eval x,?_,opd_eval hI R ho hev⟩
 simp only[Array.getElem?_toList]at hx'
 simp[hx']
theorem eqCells_len: ∀{ks:List Nat} {as bs:List V} {r:Bool},eqCells ks as bs=some r->as.length=ks.length/\bs.length=ks.length
 | [],[],[],_,_=>⟨rfl,rfl⟩
 | [],_::_,_,_,h=>by simp[eqCells]at h
 | [],[],_::_,_,h=>by simp[eqCells]at h
 | _::_,[],_,_,h=>by simp[eqCells]at h
 | _::_,_::_,[],_,h=>by simp[eqCells]at h
 | k::ks,a::as,b::bs,r,h=>by
   simp only[eqCells,Option.bind_eq_bind,Option.bind_eq_some_iff,Option.some.injEq]at h
   obtain⟨q,_,q',hq',_⟩:=h
   have:=eqCells_len hq'
   exact⟨by simp[this.1],by simp[this.2]⟩
theorem eqCells_app: ∀{k1 ks:List Nat} {as bs:List V} {r:Bool},eqCells (k1++ks) as bs=some r->
 ∃q q',eqCells k1 (as.take k1.length) (bs.take k1.length)=some q/\eqCells ks (as.drop k1.length) (bs.drop k1.length)=some q'/\r=(q&&q')
 | [],ks,as,bs,r,h=>⟨true,r,rfl,by simpa using h,by simp⟩
 | k::k1,ks,[],bs,r,h=>by simp[eqCells]at h
 | k::k1,ks,a::as,[],r,h=>by simp[eqCells]at h
 | k::k1,ks,a::as,b::bs,r,h=>by
   simp only[List.cons_append,eqCells,Option.bind_eq_bind,Option.bind_eq_some_iff,Option.some.injEq]at h
   obtain⟨x,hx,y,hy,rfl⟩:=h
   obtain⟨q,q',h1,h2,rfl⟩:=eqCells_app hy
   exact⟨x&&q,q',by simp[eqCells,hx,h1],by simpa using h2,by rw[Bool.and_assoc]⟩
theorem run_eqCell {t:TypeId} {k:Nat} {xa ya:V} {v u:Value} {q:Bool} {μ:Nat->Nat} {H:Nat->Option O} {nm:Nat->Nat} (d:Nat)
 (hk:kindOf P t=some k) (hvr:RepV w A nm μ H v xa) (hur:RepV w A nm μ H u ya) (hq:eqCell k xa ya=some q):
 (Op.equalIn (d+1) t v u).run P w= .ok q w:=by
 unfold eqCell at hq
 split at hq
 ·split at hq
  ·rename_i hkk
   obtain⟨rfl,rfl⟩:=hkk
   simp only[Option.some.injEq]at hq;subst hq
   cases hvr.int_inv;cases hur.int_inv
   unfold kindOf at hk
   split at hk<;>simp at hk
   rename_i hty;simp[Op.equalIn,run_und hty]
  ·simp at hq
 ·split at hq
  ·rename_i hkk;subst hkk
   simp only[Option.some.injEq]at hq;subst hq
   cases hvr.bool_inv;cases hur.bool_inv
   unfold kindOf at hk
   split at hk<;>simp at hk
   rename_i hty;simp[Op.equalIn,run_und hty]
  ·simp at hq
 ·split at hq
  ·rename_i hkk;subst hkk
   simp only[Option.some.injEq]at hq;subst hq
   cases hvr.str_inv;cases hur.str_inv
   unfold kindOf at hk
   split at hk<;>simp at hk
   rename_i hty;simp[Op.equalIn,run_und hty,beq_toListBytes]
  ·simp at hq
 ·simp at hq
theorem run_eqFields2 {fs:List Field} {xs ys:Array Value} {as bs:List V} {i:Nat} {ks:List Nat} {r:Bool} {μ:Nat->Nat} {H:Nat->Option O} {nm:Nat->Nat} (d:Nat)
 (hf:plainFields2 P i fs=some ks) (hx:RepL w A nm μ H xs.toList as) (hy:RepL w A nm μ H ys.toList bs)
 (he:eqCells ks (as.drop i) (bs.drop i)=some r):(Op.eqFields (d+2) xs ys fs).run P w= .ok r w:=by
 induction fs generalizing i r ks with
 | nil=>
   simp only[plainFields2,Option.some.injEq]at hf;subst hf
   unfold eqCells at he
   split at he<;>simp_all [Op.eqFields]
 | cons f fs ih=>
   unfold plainFields2 at hf
   split at hf
   ·rename_i k hk
    simp only[Option.bind_eq_bind,Option.bind_eq_some_iff]at hf
    obtain⟨ks',hks,hf⟩:=hf
    split at hf
    ·rename_i hc
     obtain⟨hn,ho,htyp⟩:=hc
     simp only[Option.some.injEq]at hf;subst hf
     unfold eqCells at he
     split at he
     ·simp_all
     ·rename_i n ns xa xs' ya ys' e1 e2 e3
      cases e1
      simp only[Option.bind_eq_bind,Option.bind_eq_some_iff,Option.some.injEq]at he
      obtain⟨q,hq,q',hq',rfl⟩:=he
      have ea:as[i]? =some xa:=by have:=congrArg (·[0]?) e2;simpa using this
      have eb:bs[i]? =some ya:=by have:=congrArg (·[0]?) e3;simpa using this
      have ea':as.drop (i+1)=xs':=by have:=congrArg List.tail e2;simpa using this
      have eb':bs.drop (i+1)=ys':=by have:=congrArg List.tail e3;simpa using this
      obtain⟨v,hv,hvr⟩:=hx.2 i _ ea
      obtain⟨u,hu,hur⟩:=hy.2 i _ eb
      obtain⟨inf,g1,g2,g3,g4⟩:=typ_spec htyp
      have ih':=ih hks (by rw[ea',eb'];exact hq')
      have hpx:(part f.type xs f.offset).run P w= .ok v w:=by
       simp only[Array.getElem?_toList]at hv
       simp[part,g4 w,ho,hv]
      have hpy:(part f.type ys f.offset).run P w= .ok u w:=by
       simp only[Array.getElem?_toList]at hu
       simp[part,g4 w,ho,hu]
      have heq:=run_eqCell (P:=P) (d+1) hk hvr.toV hur.toV hq
      simp only[Op.eqFields,ne_eq,hn,not_false_eq_true,if_true,Sem.run_bind,hpx,hpy,Result.andThen_ok,heq]
      cases q
      ·simp
      ·simpa using ih'
     ·simp at he
    ·simp at hf
   ·rename_i hk
    simp only[Option.bind_eq_bind,Option.bind_eq_some_iff]at hf
    obtain⟨k1,hk1,ks',hks,hf⟩:=hf
    split at hf
    ·rename_i hc
     obtain⟨hn,ho,htyp,hpos⟩:=hc
     simp only[Option.some.injEq]at hf;subst hf
     obtain⟨q,q',hq,hq',rfl⟩:=eqCells_app he
     have hl:=eqCells_len hq
     rw[List.drop_drop,List.drop_drop]at hq'
     have ih':=ih hks hq'
     have hra:rd as i k1.length=some ((as.drop i).take k1.length):=by
      unfold Rg.rd
      rw[if_pos]
      have:=hl.1
      rw[List.length_take,List.length_drop]at this;omega
     have hrb:rd bs i k1.length=some ((bs.drop i).take k1.length):=by
      unfold Rg.rd
      rw[if_pos]
      have:=hl.2
      rw[List.length_take,List.length_drop]at this;omega
     obtain⟨a1,a2,a3⟩:=hx.rd hra
     obtain⟨b1,b2,b3⟩:=hy.rd hrb
     have hpx:(part f.type xs f.offset).run P w= .ok (.agg ((xs.toList.drop i).take k1.length).toArray) w:=by
      rw[ho];exact run_part (P:=P) (w:=w) htyp (by simpa using a2)
     have hpy:(part f.type ys f.offset).run P w= .ok (.agg ((ys.toList.drop i).take k1.length).toArray) w:=by
      rw[ho];exact run_part (P:=P) (w:=w) htyp (by simpa using b2)
     have heq:(Op.equalIn (d+2) f.type (.agg ((xs.toList.drop i).take k1.length).toArray) (.agg ((ys.toList.drop i).take k1.length).toArray)).run P w= .ok q w:=by
      unfold plainEq at hk1
      split at hk1
      ·rename_i fields hfs
       split at hk1
       ·rename_i hc
        have hfo:P.fieldsOf f.type=fields:=by simp[Program.fieldsOf,hfs]
        have h0:=run_eqFields (P:=P) (w:=w) (A:=A) (nm:=nm) (μ:=μ) (H:=H) (i:=0) (xs:=((xs.toList.drop i).take k1.length).toArray) (ys:=((ys.toList.drop i).take k1.length).toArray) d hk1 (by simpa using a1) (by simpa using b1) (by simpa using hq)
        have:=run_equalIn_struct (P:=P) w (d+1) f.type ((xs.toList.drop i).take k1.length).toArray ((ys.toList.drop i).take k1.length).toArray (by rw[hfo];exact hfs) hc.1
        rw[this,hfo];exact h0
       ·cases hk1
      ·cases hk1
     simp only[Op.eqFields,ne_eq,hn,not_false_eq_true,if_true,Sem.run_bind,hpx,hpy,Result.andThen_ok,heq]
     cases q
     ·simp
     ·simpa using ih'
    ·simp at hf
theorem s_eqa2 (hI:I.Ok N) (R:Rel N c ns A μ lam s a w) {x y:Operand} {x' y':Opd} {op:BinOp} {neg:Bool} {ks:List Nat} (hx:opd I x=some x') (hy:opd I y=some y')
 (he:aeval N.G p s (.eqa neg ks x' y')=some e) {t:TypeId} (ht:plainEq2 P t=some ks) (hop:op=if neg then .neq else .eql):
 Gives N A μ s w ((do eqGuard op t x y (a.eval x) (a.eval y);binOp op t (a.eval x) (a.eval y):Sem Value).run P w) e:=by
 simp only[aeval,Option.bind_eq_bind,Option.bind_eq_some_iff]at he
 obtain⟨u,hu,v,hv,he⟩:=he
 split at he
 ·rename_i as bs
  simp only[Option.bind_eq_some_iff,Option.some.injEq]at he
  obtain⟨r,hr,rfl⟩:=he
  obtain⟨xs,hxs,hxr⟩:=(opd_eval hI R hx hu).agg_inv
  obtain⟨ys,hys,hyr⟩:=(opd_eval hI R hy hv).agg_inv
  rw[hxs,hys]
  unfold plainEq2 at ht
  split at ht
  ·rename_i fields hfs
   split at ht
   ·rename_i hc
    have hfo:P.fieldsOf t=fields:=by simp[Program.fieldsOf,hfs]
    have h0:=run_eqFields2 (P:=P) (i:=0) 9997 ht hxr hyr (by simpa using hr)
    have h1:(Op.equalIn 10000 t (.agg xs) (.agg ys)).run P w= .ok r w:=by
     have:=run_equalIn_struct (P:=P) w 9999 t xs ys (by rw[hfo];exact hfs) hc.1
     rw[this,hfo];exact h0
    have h2:=run_eqGuard_agg (P:=P) w op t x y xs ys hc.2
    refine⟨.bool (r != neg),?_,(RepC.t (.bool _)).toV,rfl,rfl,rfl,rfl⟩
    cases neg
    ·simp only[Bool.false_eq_true,if_false]at hop;subst hop
     simp only[Sem.run_bind,h2,Result.andThen_ok]
     simp[run_eql_struct,h1]
    ·simp only[if_true]at hop;subst hop
     simp only[Sem.run_bind,h2,Result.andThen_ok]
     simp[run_neq_struct,h1]
   ·simp at ht
  ·simp at ht
 ·simp at he
end
end Rg
end
section
namespace Rg
open Go
theorem RepV.cell {w:World} {A:Nat->Prop} {nm μ:Nat->Nat} {H:Nat->Option O} {v:Value} {x:V} (h:RepV w A nm μ H v x) (hc:x.isCell=true):RepC w A nm μ H v x:=by
 cases x<;>first | exact h | (simp[V.isCell]at hc)
theorem RepT.nils_inv {w:World} {A:Nat->Prop} {nm:Nat->Nat} {v:Value} (h:RepT w A nm v .nils): ∃ad,v= .slice ad 0 0:=by
 cases h;exact⟨_,rfl⟩
theorem RepT.sl_inv {w:World} {A:Nat->Prop} {nm:Nat->Nat} {v:Value} {es:List (List T)} (h:RepT w A nm v (.sl es)):
 (es=[]/\ ∃ad cap,v= .slice ad 0 cap)\/ ∃(r off cap sz:Nat) (vf:Nat->Nat->Value),v= .slice (some ⟨r,off,none⟩) es.length cap/\0<es.length/\es.length<=cap/\A r/\
   (∀(i:Nat) (e:List T),es[i]? =some e->e.length=sz)/\
   (∀(i:Nat) (e:List T) (j:Nat) (x:T),es[i]? =some e->e[j]? =some x->w.cell? ⟨r,off+i*sz+j,none⟩=some (vf i j))/\
   (∀(i:Nat) (e:List T) (j:Nat) (x:T),es[i]? =some e->e[j]? =some x->RepT w A nm (vf i j) x):=by
 cases h with
 | sl0 ad cap=>exact .inl ⟨rfl,ad,cap,rfl⟩
 | sl r off cap sz _ vf h0 hc hA hs hv hr=>exact .inr ⟨r,off,cap,sz,vf,rfl,h0,hc,hA,hs,hv,hr⟩
section
variable {P:Program} {N:Nam} {I:Inv} {c:Ctx} {ns p:Nat} {A:Nat->Prop} {μ lam:Nat->Nat} {s:St} {a:Act} {w:World} {e:Eff}
theorem trees_spec: ∀{cs:List V} {ts:List T},trees cs=some ts->ts.length=cs.length/\ ∀(j:Nat) (x:T),ts[j]? =some x-> ∃y,cs[j]? =some (.t y)/\x=y.norm
 | [],ts,h=>by simp[trees]at h;subst h;exact⟨rfl,fun j x h=>by simp at h⟩
 | .t y::r,ts,h=>by
   simp only[trees,Option.map_eq_some_iff]at h
   obtain⟨us,hu,rfl⟩:=h
   obtain⟨h1,h2⟩:=trees_spec hu
   refine⟨by simp[h1],fun j x hj=> ?_⟩
   cases j with
   | zero=>simp at hj;exact⟨y,rfl,hj.symm⟩
   | succ j=>simp only[List.getElem?_cons_succ]at hj⊢;exact h2 j x hj
 | .ms _ _ _::_,_,h | .mp _ _ _::_,_,h | .mm _::_,_,h | .fn _ _ _::_,_,h | .agg _::_,_,h | .tup _::_,_,h | .undef::_,_,h | .lb::_,_,h=>by simp[trees]at h
theorem s_mkfn (hI:I.Ok N) (R:Rel N c ns A μ lam s a w) {f k:Nat} {xs ys:Array Operand} {xs' ys':List Opd} (hf:I.fi f=some k) (hx:opds I xs=some xs') (hy:opds I ys=some ys')
 (he:aeval N.G p s (.mkfn k xs' ys')=some e):Gives N A μ s w ((Instr.makeFunc (.func f) (xs.map a.eval) (ys.map a.eval)).run P w) e:=by
 simp only[aeval,Option.bind_eq_bind,Option.bind_eq_some_iff]at he
 obtain⟨as,has,bs,hbs,he⟩:=he
 simp only[Option.some.injEq]at he
 obtain⟨fv,hfv,rfl⟩:=he
 unfold mkfnV at hfv
 split at hfv
 ·rename_i hall
  simp only[Option.some.injEq]at hfv;subst hfv
  obtain⟨h1,h2⟩:=opds_eval hI R hx has
  obtain⟨h3,h4⟩:=opds_eval hI R hy hbs
  refine⟨_,rfl,?_,rfl,rfl,rfl,rfl⟩
  have:=hI.f f k hf
  subst this
  have hcell: ∀(l:List V),l.all V.isCell=true-> ∀(i:Nat) (v:V),l[i]? =some v->v.isCell=true:=by
   intro l hl i v hi
   exact List.all_eq_true.1 hl v (List.mem_of_getElem? hi)
  refine RepC.fn k as bs (xs.map a.eval) (ys.map a.eval) (fun i=>((xs.map a.eval)[i]?).getD undef) (fun i=>((ys.map a.eval)[i]?).getD undef) h1 h3 ?_ ?_ ?_ ?_
  ·intro j x hj;obtain⟨u,hu,_⟩:=h2 j x hj;rw[hu];rfl
  ·intro j x hj;obtain⟨u,hu,hr⟩:=h2 j x hj;rw[hu];exact hr.cell (hcell _ hall.1 j x hj)
  ·intro j x hj;obtain⟨u,hu,_⟩:=h4 j x hj;rw[hu];rfl
  ·intro j x hj;obtain⟨u,hu,hr⟩:=h4 j x hj;rw[hu];exact hr.cell (hcell _ hall.2 j x hj)
 ·split at hfv
  ·rename_i cs _
   simp only[Option.map_eq_some_iff]at hfv
   obtain⟨ts,hts,rfl⟩:=hfv
   obtain⟨h1,h2⟩:=opds_eval hI R hx has
   obtain⟨h3,h4⟩:=opds_eval hI R hy hbs
   refine⟨_,rfl,?_,rfl,rfl,rfl,rfl⟩
   have:=hI.f f k hf
   subst this
   obtain⟨v0,hv0,hr0⟩:=h2 0 _ rfl
   obtain⟨vc,rfl,hlen,hcs⟩:=(hr0:RepV1 w A N.nm μ s.heap v0 (.agg cs))
   have hxs:xs.map a.eval= #[.agg vc]:=by
    apply Array.ext_getElem?
    intro i
    cases i with
    | zero=>rw[hv0];rfl
    | succ i=>
      have:(xs.map a.eval).size=1:=h1
      rw[Array.getElem?_eq_none (by omega)];simp
   have hys:ys.map a.eval= #[]:=by
    have:(ys.map a.eval).size=0:=h3
    exact Array.eq_empty_of_size_eq_zero this
   rw[hxs,hys]
   obtain⟨t1,t2⟩:=trees_spec hts
   have hvs:vc.size=ts.length:=by rw[t1,<- hlen];simp
   refine(RepC.t ?_).toV
   refine .fa k ts vc (fun j=>(vc[j]?).getD undef) hvs ?_ ?_
   ·intro j x hj
    obtain⟨y,hy,rfl⟩:=t2 j x hj
    obtain⟨v,hv,_⟩:=hcs j _ hy
    have:vc[j]? =some v:=by simpa using hv
    rw[this];rfl
   ·intro j x hj
    obtain⟨y,hy,rfl⟩:=t2 j x hj
    obtain⟨v,hv,hr⟩:=hcs j _ hy
    have:vc[j]? =some v:=by simpa using hv
    rw[this]
    cases hr with
    | t h=>exact h.norm
  ·simp at hfv
theorem run_bound {v:Value} {k:IntKind} {m:Int} {y:Nat} {code:BoundsCode} (hv:v= .int k m) (h0:0<=m) (h1:m<=y):(Instr.sliceBound v y code).run P w= .ok m.toNat w:=by
 simp[Instr.sliceBound,hv,asIntOf,h0,h1]
theorem opt_eval (hI:I.Ok N) (R:Rel N c ns A μ lam s a w) {x:Option Operand} {y:Option Opd} {d:Nat} {n:Int} (hx:opdO I x=some y) (hv:evOpt N.G s d y=some n):
 (x=none/\n=d)\/ ∃o k,x=some o/\a.eval o= .int k n:=by
 cases x with
 | none=>
   simp only[opdO,Option.some.injEq]at hx;subst hx
   simp only[evOpt,Option.some.injEq]at hv
   exact .inl ⟨rfl,hv.symm⟩
 | some o=>
   simp only[opdO,Option.map_eq_some_iff]at hx
   obtain⟨z,hz,rfl⟩:=hx
   obtain⟨k,hk⟩:=int_eval hI R hz hv
   exact .inr ⟨o,k,rfl,hk⟩
theorem run_bounds {lo hi:Option Value} {len cap:Nat} {l h:Int} {b:Bool} (hh:(hi=none/\h=len)\/ ∃k,hi=some (.int k h))
 (hl:(lo=none/\l=0)\/ ∃k,lo=some (.int k l)) (h0:0<=l) (h1:l<=h) (h2:h<=cap):
 (Instr.sliceBounds b len cap lo hi none).run P w= .ok (l.toNat,h.toNat,cap) w:=by
 have e1: ∀k code,(Instr.sliceBound (.int k h) cap code).run P w= .ok h.toNat w:=fun k code=>run_bound rfl (by omega) h2
 have e2: ∀k code,(Instr.sliceBound (.int k l) h.toNat code).run P w= .ok l.toNat w:=fun k code=>run_bound rfl h0 (by omega)
 rcases hh with⟨rfl,rfl⟩ | ⟨k,rfl⟩<;>rcases hl with⟨rfl,rfl⟩ | ⟨k',rfl⟩
 ·simp[Instr.sliceBounds]
 ·have:=e2 k' .sliceB
  simp only[Int.toNat_natCast]at this
  simp[Instr.sliceBounds,this]
 ·simp[Instr.sliceBounds,e1]
 ·simp[Instr.sliceBounds,e1,e2]
theorem s_slice (hI:I.Ok N) (R:Rel N c ns A μ lam s a w) {x:Operand} {lo hi mx:Option Operand} {x':Opd} {lo' hi' mx':Option Opd} {t el:TypeId} {n:Nat} {ag:Bool}
 (hx:opd I x=some x') (hlo:opdO I lo=some lo') (hhi:opdO I hi=some hi') (hmx:opdO I mx=some mx') (ht:P.underlying t=some (.slice el)) (hty:typ P el=some (ag,n))
 (he:aeval N.G p s (.slice n x' lo' hi' mx')=some e):Gives N A μ s w ((Instr.sliceAt t (a.eval x) (lo.map a.eval) (hi.map a.eval) (mx.map a.eval)).run P w) e:=by
 simp only[aeval,Option.bind_eq_bind,Option.bind_eq_some_iff]at he
 obtain⟨u,hu,len,hlen,h,hh,l,hl,he⟩:=he
 have hrep:=opd_eval hI R hx hu
 obtain⟨ad,cap,hv⟩:=hrep.len_inv hlen
 obtain⟨inf,g1,g2,g3,g4⟩:=typ_spec hty
 have hcap:len<=cap:=by
  rw[hv]at hrep
  unfold lenOf at hlen
  split at hlen
  ·simp only[Option.some.injEq]at hlen;omega
  ·simp only[Option.some.injEq]at hlen
   rcases hrep.t_inv.sl_inv with⟨rfl,_⟩ | ⟨r,off,cap',sz,vf,he,h0,hc,_⟩
   ·simp at hlen;omega
   ·cases he;exact hc
  ·simp only[Option.some.injEq]at hlen
   obtain⟨_,h2⟩:=RepT.slc_inv hrep.t_inv
   omega
  ·split at hlen<;>simp only[Option.some.injEq,reduceCtorEq]at hlen
   rename_i hk;subst hlen
   cases(hrep:RepC w A N.nm μ s.heap _ _)with
   | ms _ _ _ _ _ _ _ _ _ hi hc=>omega
   | dms _ _ _ hk'=>rw[hk]at hk';cases hk'
  ·simp at hlen
 have hh':(hi.map a.eval=none/\h=len)\/ ∃k,hi.map a.eval=some (.int k h):=by
  rcases opt_eval hI R hhi hh with⟨rfl,h⟩ | ⟨o,k,rfl,h⟩
  ·exact .inl ⟨rfl,h⟩
  ·exact .inr ⟨k,by simp[h]⟩
 have hl':(lo.map a.eval=none/\l=0)\/ ∃k,lo.map a.eval=some (.int k l):=by
  rcases opt_eval hI R hlo hl with⟨rfl,h⟩ | ⟨o,k,rfl,h⟩
  ·exact .inl ⟨rfl,by simpa using h⟩
  ·exact .inr ⟨k,by simp[h]⟩
 cases mx with
 | none=>
   simp only[opdO,Option.some.injEq]at hmx;subst hmx
   simp only at he
   split at he
   ·rename_i hb
    obtain⟨hb0,hb1,hb2⟩:=hb
    have hrun:(Instr.sliceAt t (a.eval x) (lo.map a.eval) (hi.map a.eval) (Option.map a.eval none)).run P w=
     .ok (.slice (if cap=l.toNat then ad else ad.map (·.add (l.toNat*n))) (h.toNat-l.toNat) (cap-l.toNat)) w:=by
     have:=run_bounds (P:=P) (w:=w) (b:=true) (cap:=cap) hh' hl' hb0 hb1 (by omega)
     simp[Instr.sliceAt,run_und ht,Instr.slice,hv,this,run_size g1,g2]
    refine⟨_,hrun,?_⟩
    split at he
    ·simp only[Option.some.injEq]at he;subst he
     simp only[lenOf,Option.some.injEq]at hlen
     subst hlen
     have hl0:l.toNat=0:=by omega
     have hh0:h.toNat=0:=by omega
     rw[hv]at hrep
     have hc0:cap=0:=by obtain⟨_,he⟩:=hrep.t_inv.nils_inv;cases he;rfl
     subst hc0
     rw[hl0,hh0]
     exact⟨(RepC.t (.nils _)).toV,rfl,rfl,rfl,rfl⟩
    ·rename_i es
     split at he
     ·rename_i hall
      simp only[Option.some.injEq]at he;subst he
      simp only[lenOf,Option.some.injEq]at hlen
      subst hlen
      refine⟨?_,rfl,rfl,rfl,rfl⟩
      have hhl:(h-l).toNat=h.toNat-l.toNat:=by omega
      by_cases hemp:h.toNat-l.toNat=0
      ·rw[hhl,hemp,List.take_zero]
       exact(RepC.t (.sl0 _ _)).toV
      ·rw[hv]at hrep
       rcases hrep.t_inv.sl_inv with⟨rfl,_⟩ | ⟨r,off,cap',sz,vf,heq,h0,hc,hA,hs,hvv,hr⟩
       ·simp at hb2;omega
       ·cases heq
        have hlen':((es.drop l.toNat).take (h-l).toNat).length=h.toNat-l.toNat:=by simp;omega
        have hne:cap≠l.toNat:=by omega
        have hsz:sz=n:=by
         have h00:0<es.length:=h0
         have:=hs 0 es[0] (List.getElem?_eq_getElem h00)
         have h2:=List.all_eq_true.1 hall es[0] (List.getElem_mem h00)
         simp only[decide_eq_true_eq]at h2
         omega
        subst hsz
        have key:=RepT.sl (w:=w) (A:=A) (nm:=N.nm) r (off+l.toNat*sz) (cap-l.toNat) sz ((es.drop l.toNat).take (h-l).toNat) (fun i j=>vf (l.toNat+i) j)
         (by rw[hlen'];omega) (by rw[hlen'];omega) hA ?_ ?_ ?_
        ·rw[if_neg hne]
         simp only[Option.map_some,addr_add]
         rw[hlen']at key
         exact(RepC.t key).toV
        ·intro i e0 hi
         simp only[List.getElem?_take,List.getElem?_drop]at hi
         split at hi
         ·exact hs _ e0 hi
         ·simp at hi
        ·intro i e0 j y hi hj
         simp only[List.getElem?_take,List.getElem?_drop]at hi
         split at hi
         ·have:=hvv _ e0 j y hi hj
          rw[Nat.add_mul]at this
          have e1:off+l.toNat*sz+i*sz+j=off+(l.toNat*sz+i*sz)+j:=by omega
          rw[e1];exact this
         ·simp at hi
        ·intro i e0 j y hi hj
         simp only[List.getElem?_take,List.getElem?_drop]at hi
         split at hi
         ·exact hr _ e0 j y hi hj
         ·simp at hi
     ·simp at he
    ·rename_i kk i ll
     split at he<;>try(simp at he;done)
     rename_i sz rs frz hk
     split at he<;>simp only[Option.some.injEq,reduceCtorEq]at he
     rename_i hsz;subst hsz;subst he
     simp only[lenOf,hk,Option.some.injEq]at hlen
     subst hlen
     refine⟨?_,rfl,rfl,rfl,rfl⟩
     rw[hv]at hrep
     cases(hrep:RepC w A N.nm μ s.heap _ _)with
     | ms _ _ _ _ sz' rs' frz' _ hk' hi' hc ha=>
       rw[hk]at hk';cases hk'
       have hhl:(h-l).toNat=h.toNat-l.toNat:=by omega
       rw[hhl]
       refine(RepC.ms kk (i+l.toNat) (h.toNat-l.toNat) (cap-l.toNat) sz rs frz _ hk (by omega) (by omega) ?_).toV
       by_cases hc0:cap-l.toNat=0
       ·exact .inl hc0
       ·right
        rcases ha with ha | ⟨rfl,e1,n1,hs1,hn1⟩
        ·omega
        ·rw[if_neg (by omega)]
         refine⟨by simp[addr_add,Nat.add_mul],e1,n1,hs1,?_⟩
         have:i+l.toNat+(cap-l.toNat)=i+cap:=by omega
         rw[this];exact hn1
     | dms _ _ _ hk'=>rw[hk]at hk';cases hk'
    ·simp at he
   ·split at he<;>try(simp at he;done)
    rename_i kk i ll
    split at he<;>try(simp at he;done)
    rename_i sz rs frz hk
    split at he<;>simp only[Option.some.injEq,reduceCtorEq]at he
    rename_i hcnd
    obtain⟨hsz,hb0,hb1,hb2⟩:=hcnd
    subst hsz;subst he
    rw[hv]at hrep
    cases(hrep:RepC w A N.nm μ s.heap _ _)with
    | ms _ _ _ _ sz' rs' frz' _ hk' hi' hc ha=>
      rw[hk]at hk';cases hk'
      have hrun:(Instr.sliceAt t (a.eval x) (lo.map a.eval) (hi.map a.eval) (Option.map a.eval none)).run P w=
       .ok (.slice (if cap=l.toNat then ad else ad.map (·.add (l.toNat*sz))) (h.toNat-l.toNat) (cap-l.toNat)) w:=by
       have:=run_bounds (P:=P) (w:=w) (b:=true) (cap:=cap) hh' hl' hb0 hb1 (by omega)
       simp[Instr.sliceAt,run_und ht,Instr.slice,hv,this,run_size g1,g2]
      refine⟨_,hrun,?_,rfl,rfl,rfl,rfl⟩
      have hhl:(h-l).toNat=h.toNat-l.toNat:=by omega
      rw[hhl]
      refine(RepC.ms kk (i+l.toNat) (h.toNat-l.toNat) (cap-l.toNat) sz rs frz _ hk (by omega) (by omega) ?_).toV
      by_cases hc0:cap-l.toNat=0
      ·exact .inl hc0
      ·right
       rcases ha with ha | ⟨rfl,e1,n1,hs1,hn1⟩
       ·omega
       ·rw[if_neg (by omega)]
        refine⟨by simp[addr_add,Nat.add_mul],e1,n1,hs1,?_⟩
        have:i+l.toNat+(cap-l.toNat)=i+cap:=by omega
        rw[this];exact hn1
    | dms _ _ _ hk'=>rw[hk]at hk';cases hk'
 | some mo=>
   simp only[opdO,Option.map_eq_some_iff]at hmx
   obtain⟨m',hm',rfl⟩:=hmx
   simp only[Option.bind_eq_some_iff]at he
   obtain⟨m,hm,he⟩:=he
   obtain⟨km,hkm⟩:=int_eval hI R hm' hm
   split at he
   ·rename_i hb
    obtain⟨rfl,rfl,rfl,his⟩:=hb
    have hval:e= { val:=.t .nils }\/(e= { val:=.t (.slc []) }):=by
     split at he<;>simp only[Option.some.injEq,reduceCtorEq]at he<;>first | exact .inl he.symm | exact .inr he.symm
    obtain⟨kh,hh2⟩: ∃k,hi.map a.eval=some (.int k 0):=by
     cases hi with
     | none=>simp only[opdO,Option.some.injEq]at hhi;subst hhi;simp at his
     | some o=>
       rcases hh' with⟨h,_⟩ | h
       ·simp at h
       ·exact h
    have hrep0:RepV w A N.nm μ s.heap (.slice ad 0 0) e.val/\Plain e:=by
     rcases hval with rfl | rfl
     ·exact⟨(RepC.t (.nils _)).toV,rfl,rfl,rfl,rfl⟩
     ·exact⟨(RepC.t (.slc ad [] (.sl0 ad 0))).toV,rfl,rfl,rfl,rfl⟩
    refine⟨.slice ad 0 0,?_,hrep0⟩
    have b1: ∀(kk:IntKind) (y:Nat) (code:BoundsCode),(Instr.sliceBound (.int kk 0) y code).run P w= .ok 0 w:=fun kk y code=>by
     have:=run_bound (P:=P) (w:=w) (code:=code) (v:=.int kk 0) (y:=y) rfl (Int.le_refl 0) (by omega)
     simpa using this
    rcases hl' with⟨h1,_⟩ | ⟨kl,h1⟩
    ·simp[Instr.sliceAt,run_und ht,Instr.slice,hv,Instr.sliceBounds,hh2,h1,hkm,b1,run_size g1]
    ·simp[Instr.sliceAt,run_und ht,Instr.slice,hv,Instr.sliceBounds,hh2,h1,hkm,b1,run_size g1]
   ·rename_i hnz
    split at he
    case isFalse=>simp at he
    rename_i hcnd
    obtain⟨c0,c1,c2,c3,his⟩:=hcnd
    obtain⟨kh,hh2⟩: ∃k,hi.map a.eval=some (.int k h):=by
     cases hi with
     | none=>simp only[opdO,Option.some.injEq]at hhi;subst hhi;simp at his
     | some o=>
       rcases hh' with⟨h,_⟩ | h
       ·simp at h
       ·exact h
    have b1: ∀code,(Instr.sliceBound (.int km m) cap code).run P w= .ok m.toNat w:=fun code=>run_bound rfl (by omega) (by omega)
    have b2: ∀code,(Instr.sliceBound (.int kh h) m.toNat code).run P w= .ok h.toNat w:=fun code=>run_bound rfl (by omega) (by omega)
    have b3: ∀kk code,(Instr.sliceBound (.int kk l) h.toNat code).run P w= .ok l.toNat w:=fun kk code=>run_bound rfl (by omega) (by omega)
    have hrun:(Instr.sliceAt t (a.eval x) (lo.map a.eval) (hi.map a.eval) (Option.map a.eval (some mo))).run P w= .ok (.slice (if m.toNat=l.toNat then ad else ad.map (·.add (l.toNat*n))) (h.toNat-l.toNat) (m.toNat-l.toNat)) w:=by
     rcases hl' with⟨h1,h2⟩ | ⟨kl,h1⟩
     ·subst h2
      simp[Instr.sliceAt,run_und ht,Instr.slice,hv,Instr.sliceBounds,hh2,h1,hkm,b1,b2,run_size g1,g2]
     ·simp[Instr.sliceAt,run_und ht,Instr.slice,hv,Instr.sliceBounds,hh2,h1,hkm,b1,b2,b3,run_size g1,g2]
    simp only[Option.some.injEq]at he;subst he
    refine⟨_,hrun,?_,rfl,rfl,rfl,rfl⟩
    show RepV _ _ _ _ _ _ (slice3 n u l h m len)
    generalize hV:Value.slice (if m.toNat=l.toNat then ad else ad.map (·.add (l.toNat*n))) (h.toNat-l.toNat) (m.toNat-l.toNat)=val
    unfold slice3
    split
    ·rename_i es
     split
     ·rename_i hc2
      subst hV
      obtain⟨d0,d1,d2,hall⟩:=hc2
      simp only[lenOf,Option.some.injEq]at hlen
      have k0:l.toNat=0:=by omega
      have k1:h.toNat=es.length:=by omega
      have k2:m.toNat=es.length:=by omega
      have k3: ¬es.length=0:=fun h0=>hnz ⟨d0,by omega,by omega,his⟩
      rw[k0,k1,k2,if_neg k3]
      rw[hv]at hrep
      rcases hrep.t_inv.sl_inv with⟨rfl,_⟩ | ⟨r,off,cap',sz,vf,heq,h0,hc,hA,hs,hvv,hr⟩
      ·simp at k3
      ·cases heq
       have key:=RepT.sl (w:=w) (A:=A) (nm:=N.nm) r off es.length sz es vf h0 (Nat.le_refl _) hA hs hvv hr
       have h1:(Option.map (fun x:Addr=>x.add (0*n)) (some ⟨r,off,none⟩))=some ⟨r,off,none⟩:=by
        simp only[Option.map_some,Nat.zero_mul,addr_add,Nat.add_zero]
       rw[h1]
       exact(RepC.t (RepT.slc _ es key)).toV
     ·exact trivial
    ·exact trivial
theorem s_slstr (hI:I.Ok N) (R:Rel N c ns A μ lam s a w) {x:Operand} {lo hi:Option Operand} {x':Opd} {lo' hi':Option Opd} {t:TypeId}
 (hx:opd I x=some x') (hlo:opdO I lo=some lo') (hhi:opdO I hi=some hi') (ht:P.underlying t=some .string)
 (he:aeval N.G p s (.slstr x' lo' hi')=some e):Gives N A μ s w ((Instr.sliceAt t (a.eval x) (lo.map a.eval) (hi.map a.eval) none).run P w) e:=by
 simp only[aeval,Option.bind_eq_bind,Option.bind_eq_some_iff]at he
 obtain⟨u,hu,he⟩:=he
 split at he
 ·rename_i b
  simp only[Option.bind_eq_some_iff]at he
  obtain⟨h,hh,l,hl,he⟩:=he
  split at he
  ·rename_i hb
   simp only[Option.some.injEq]at he;subst he
   have hv:=(opd_eval hI R hx hu).str_inv
   have hh':(hi.map a.eval=none/\h=b.size)\/ ∃k,hi.map a.eval=some (.int k h):=by
    rcases opt_eval hI R hhi hh with⟨rfl,h⟩ | ⟨o,k,rfl,h⟩
    ·exact .inl ⟨rfl,h⟩
    ·exact .inr ⟨k,by simp[h]⟩
   have hl':(lo.map a.eval=none/\l=0)\/ ∃k,lo.map a.eval=some (.int k l):=by
    rcases opt_eval hI R hlo hl with⟨rfl,h⟩ | ⟨o,k,rfl,h⟩
    ·exact .inl ⟨rfl,by simpa using h⟩
    ·exact .inr ⟨k,by simp[h]⟩
   have:=run_bounds (P:=P) (w:=w) (b:=false) hh' hl' hb.1 hb.2.1 hb.2.2
   refine⟨_,?_,(RepC.t (.str _)).toV,rfl,rfl,rfl,rfl⟩
   simp[Instr.sliceAt,run_und ht,Instr.slice,hv,this]
  ·simp at he
 ·simp at he
end
end Rg
end
