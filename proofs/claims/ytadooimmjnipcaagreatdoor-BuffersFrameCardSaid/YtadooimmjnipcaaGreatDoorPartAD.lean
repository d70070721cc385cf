/- Part of the proof of the laws of the package relyguardlaw12: an abstract machine for the program's functions, what they compute, and that the machine is the program's. No condition. (RgH RgI RgJ) -/
import Derived.Test.YtadooimmjnipcaaGreatDoorPartAC
section
namespace Rg
open Go
section
variable {P:Program} {N:Nam} {I:Inv} {c:Ctx} {ns p:Nat} {A:Nat->Prop} {μ lam:Nat->Nat} {s:St} {a:Act} {w:World} {e:Eff}
theorem s_un (hI:I.Ok N) (R:Rel N c ns A μ lam s a w) {x:Operand} {x' : Opd} {op:UnOp} (hx:opd I x=some x') (he:aeval N.G p s (.un op x')=some e) :
 Gives N A μ s w ((Op.unary op (a.eval x)).run P w) e:=by
 simp only [aeval,Option.bind_eq_bind,Option.bind_eq_some_iff] at he
 obtain ⟨u,hu,he⟩:=he
 split at he
 ·rename_i b
  simp only [Option.bind_eq_some_iff,Option.some.injEq] at he
  obtain ⟨r,hr,rfl⟩:=he
  have hrep:=(opd_eval hI R hx hu).t_inv
  generalize a.eval x=v at hrep
  unfold unT at hr
  split at hr <;> simp only [Option.some.injEq,reduceCtorEq] at hr <;> subst hr <;> cases hrep
  ·exact ⟨_,by simp [Op.unary,Op.intArith],(RepC.t (.int _ _)).toV,rfl,rfl,rfl,rfl⟩
  ·refine ⟨_, ?_,(RepC.t (.int _ _)).toV,rfl,rfl,rfl,rfl⟩
   simp only [Op.unary,Op.intBits]
   simp
  ·exact ⟨_,by simp [Op.unary],(RepC.t (.bool _)).toV,rfl,rfl,rfl,rfl⟩
 ·simp at he
theorem s_conv (hI:I.Ok N) (R:Rel N c ns A μ lam s a w) {x:Operand} {x' : Opd} {k k0:IntKind} {src dst:TypeId} (hx:opd I x=some x')
 (he:aeval N.G p s (.conv k x')=some e) (h1:P.underlying src=some (.int k0)) (h2:P.underlying dst=some (.int k)) :
 Gives N A μ s w ((convert src dst (a.eval x)).run P w) e:=by
 simp only [aeval,Option.bind_eq_bind,Option.bind_eq_some_iff,Option.some.injEq] at he
 obtain ⟨n,hn,rfl⟩:=he
 obtain ⟨j,hj⟩:=int_eval hI R hx hn
 exact ⟨_,by simp [convert,run_und h1,run_und h2,hj,Conv.intToInt],(RepC.t (.int _ _)).toV,rfl,rfl,rfl,rfl⟩
theorem s_nilchk (hI:I.Ok N) (R:Rel N c ns A μ lam s a w) {x:Operand} {x' : Opd} (hx:opd I x=some x') (he:aeval N.G p s (.nilchk x')=some e) (o:Oper) (ho:o.op = .nilCheck x) :
 ∃ v,(execOp a.eval o).run P w = .ok (.value v) w/\RepV w A N.nm μ s.heap v e.val/\Plain e:=by
 simp only [aeval,Option.bind_eq_bind,Option.bind_eq_some_iff] at he
 obtain ⟨u,hu,he⟩:=he
 have hrep:=opd_eval hI R hx hu
 have k1 : ∀ ad,a.eval x = .pointer (some ad)->(execOp a.eval o).run P w = .ok (.value (a.eval x)) w:=by
  intro ad h; simp [execOp,ho,h]
 have k2 : ∀ f b d,a.eval x = .func (.func f) b d->(execOp a.eval o).run P w = .ok (.value (a.eval x)) w:=by
  intro f b d h; simp [execOp,ho,h]
 split at he
 ·rename_i k i off
  split at he <;> simp only [Option.some.injEq,reduceCtorEq] at he
  rename_i hk
  subst he
  obtain ⟨hv,_⟩:=hrep.mp_inv hk
  exact ⟨_,k1 _ hv,hrep,rfl,rfl,rfl,rfl⟩
 ·simp only [Option.some.injEq] at he; subst he
  obtain ⟨r,off,vf,hv,_⟩:=RepV.ip_inv hrep
  exact ⟨_,k1 _ hv,hrep,rfl,rfl,rfl,rfl⟩
 ·simp only [Option.some.injEq] at he; subst he
  refine ⟨_, ?_,hrep,rfl,rfl,rfl,rfl⟩
  generalize hv:a.eval x=v at hrep
  cases (hrep:RepC w A N.nm μ s.heap v _) with
  | fn f _ _ va vb=>rw [<- hv]; exact k2 _ _ _ hv
 ·simp only [Option.some.injEq] at he; subst he
  refine ⟨_, ?_,hrep,rfl,rfl,rfl,rfl⟩
  generalize hv:a.eval x=v at hrep
  cases hrep.t_inv with
  | fn f _ _ va vb=>rw [<- hv]; exact k2 _ _ _ hv
 ·simp only [Option.some.injEq] at he; subst he
  refine ⟨_, ?_,hrep,rfl,rfl,rfl,rfl⟩
  generalize hv:a.eval x=v at hrep
  cases hrep.t_inv with
  | fa f c vc=>rw [<- hv]; exact k2 _ _ _ hv
 ·simp at he
theorem run_fieldAt {t:TypeId} {fields:Array Field} {f:Field} {i n r off:Nat} {ag:Bool} {v:Value}
 (ht:P.underlying t=some (.struct fields)) (hf:fields[i]? = some f) (hty:typ P f.type=some (ag,n)) (hn:0<n) (hv:v = .pointer (some ⟨r,off,none⟩)) :
 (Instr.fieldAt t v i).run P w = .ok (.pointer (some ⟨r,off+f.offset,none⟩)) w:=by
 obtain ⟨inf,g1,g2,g3,g4⟩:=typ_spec hty
 have:inf.size≠0:=by omega
 simp [Instr.fieldAt,run_und ht,hf,hv,Instr.sureAddr,fieldPlace,run_size g1,this,addr_add]
theorem s_faddrL (R:Rel N c ns A μ lam s a w) {x:Operand} {x' : Opd} {t:TypeId} {fields:Array Field} {f:Field} {i n:Nat} {ag:Bool} (hx:opd I x=some x')
 (ht:P.underlying t=some (.struct fields)) (hf:fields[i]? = some f) (hty:typ P f.type=some (ag,n)) (hn:0<n)
 (he:aeval N.G p s (.faddrL f.offset x')=some e) :
 ∃ v,(Instr.fieldAt t (a.eval x) i).run P w = .ok v w/\RepV w A N.nm μ s.heap v e.val/\e.loc=none/\e.wloc=none/\e.hp=[] /\
  ∀ b o,e.adr=some (b,o)->(s.loc b).isSome=true/\v = .pointer (some ⟨lam b,o,none⟩):=by
 simp only [aeval,Option.bind_eq_bind,Option.bind_eq_some_iff,Option.some.injEq,Prod.exists] at he
 obtain ⟨b,o,hr,cs,hb,rfl⟩:=he
 have hv:=ref_eval R hx hr hb
 refine ⟨_,run_fieldAt ht hf hty hn hv,trivial,rfl,rfl,rfl, ?_⟩
 intro b' o' h
 simp only [Option.some.injEq,Prod.mk.injEq] at h
 obtain ⟨rfl,rfl⟩:=h
 exact ⟨by rw [hb]; rfl,rfl⟩
theorem ip_drop {r off:Nat} {cs:List T} {vf:Nat->Value} {nm:Nat->Nat} {H:Nat->Option O} (n:Nat) (hA:A r) (hv : ∀ (j:Nat) (x:T),cs[j]? = some x->w.cell? ⟨r,off+j,none⟩=some (vf j))
 (hr : ∀ (j:Nat) (x:T),cs[j]? = some x->RepT w A nm (vf j) x):RepV w A nm μ H (.pointer (some ⟨r,off+n,none⟩)) (.t (.ip (cs.drop n))) :=
 (RepC.t (.ip r (off+n) (cs.drop n) (fun j=>vf (n+j)) hA (fun j x hj=>by rw [Nat.add_assoc]; exact hv _ x (by simpa using hj)) (fun j x hj=>hr _ x (by simpa using hj)))).toV
theorem s_faddr (hI:I.Ok N) (R:Rel N c ns A μ lam s a w) {x:Operand} {x' : Opd} {t:TypeId} {fields:Array Field} {f:Field} {i n:Nat} {ag:Bool} (hx:opd I x=some x')
 (ht:P.underlying t=some (.struct fields)) (hf:fields[i]? = some f) (hty:typ P f.type=some (ag,n)) (hn:0<n)
 (he:aeval N.G p s (.faddr f.offset x')=some e):Gives N A μ s w ((Instr.fieldAt t (a.eval x) i).run P w) e:=by
 simp only [aeval,Option.bind_eq_bind,Option.bind_eq_some_iff] at he
 obtain ⟨u,hu,he⟩:=he
 have hrep:=opd_eval hI R hx hu
 split at he
 ·rename_i k i' off
  split at he <;> simp only [Option.some.injEq,reduceCtorEq] at he
  rename_i sz rs frz hk
  subst he
  obtain ⟨hv,hi⟩:=hrep.mp_inv hk
  refine ⟨_,run_fieldAt ht hf hty hn hv, ?_,rfl,rfl,rfl,rfl⟩
  rw [Nat.add_assoc]
  exact (RepC.mp k i' _ sz rs frz hk hi).toV
 ·simp only [Option.some.injEq] at he; subst he
  obtain ⟨r,off,vf,hv,hA,h1,h2⟩:=RepV.ip_inv hrep
  exact ⟨_,run_fieldAt ht hf hty hn hv,ip_drop _ hA h1 h2,rfl,rfl,rfl,rfl⟩
 ·simp at he
theorem run_part {t:TypeId} {ag:Bool} {n off:Nat} {cs:Array Value} (h:typ P t=some (ag,n)) (hle:off+n<=cs.size) :
 (part t cs off).run P w = .ok (wrapV ag ((cs.toList.drop off).take n)) w:=by
 obtain ⟨inf,g1,g2,g3,g4⟩:=typ_spec h
 cases ag with
 | true =>
  simp only [part,Sem.run_bind,g4 w,Result.andThen_ok,if_true,run_size g1,Sem.run_pure,wrapV,g2]
  congr 2
  apply Array.ext'
  simp [Array.toList_extract,List.extract_eq_take_drop]
 | false =>
  have hn:=g3 rfl
  subst hn
  have hlt:off<cs.size:=by omega
  simp only [part,Sem.run_bind,g4 w,Result.andThen_ok,Bool.false_eq_true,if_false,Array.getElem?_eq_getElem hlt,Sem.run_pure,wrapV]
  congr 1
  rw [List.drop_eq_getElem_cons (by simpa using hlt)]
  simp
theorem s_field (hI:I.Ok N) (R:Rel N c ns A μ lam s a w) {x:Operand} {x' : Opd} {t:TypeId} {fields:Array Field} {f:Field} {i n:Nat} {ag:Bool} (hx:opd I x=some x')
 (ht:P.underlying t=some (.struct fields)) (hf:fields[i]? = some f) (hty:typ P f.type=some (ag,n))
 (he:aeval N.G p s (.field ag f.offset n x')=some e):Gives N A μ s w ((Instr.field t (a.eval x) i).run P w) e:=by
 simp only [aeval,Option.bind_eq_bind,Option.bind_eq_some_iff] at he
 obtain ⟨u,hu,he⟩:=he
 split at he
 ·rename_i cs
  simp only [Option.bind_eq_some_iff,Option.some.injEq] at he
  obtain ⟨r,hr,v,hw,rfl⟩:=he
  obtain ⟨vs,hvs,hl⟩:=(opd_eval hI R hx hu).agg_inv
  obtain ⟨h1,h2,h3⟩:=hl.rd hr
  refine ⟨_, ?_,h1.wrap hw,rfl,rfl,rfl,rfl⟩
  simp [Instr.field,run_und ht,hf,hvs,asAgg,run_part (P:=P) (w:=w) hty (by simpa using h2)]
 ·simp at he
theorem s_idxA (hI:I.Ok N) (R:Rel N c ns A μ lam s a w) {x i:Operand} {x' i' : Opd} {t el:TypeId} {len n:Nat} {ag:Bool} (hx:opd I x=some x') (hi:opd I i=some i')
 (ht:P.underlying t=some (.array len el)) (hty:typ P el=some (ag,n))
 (he:aeval N.G p s (.idxA ag len n x' i')=some e):Gives N A μ s w ((Instr.index t (a.eval x) (a.eval i)).run P w) e:=by
 simp only [aeval,Option.bind_eq_bind,Option.bind_eq_some_iff] at he
 obtain ⟨m,hm,u,hu,he⟩:=he
 obtain ⟨k,hk⟩:=int_eval hI R hi hm
 split at he
 ·rename_i cs
  split at he
  ·rename_i hb
   simp only [Option.bind_eq_some_iff,Option.some.injEq] at he
   obtain ⟨r,hr,v,hw,rfl⟩:=he
   obtain ⟨vs,hvs,hl⟩:=(opd_eval hI R hx hu).agg_inv
   obtain ⟨h1,h2,h3⟩:=hl.rd hr
   obtain ⟨inf,g1,g2,g3,g4⟩:=typ_spec hty
   refine ⟨_, ?_,h1.wrap hw,rfl,rfl,rfl,rfl⟩
   simp [Instr.index,hk,asIntOf,run_und ht,hvs,hb,run_size g1,g2,run_part (P:=P) (w:=w) hty (by simpa using h2)]
  ·simp at he
 ·simp at he
theorem s_idxS (hI:I.Ok N) (R:Rel N c ns A μ lam s a w) {x i:Operand} {x' i' : Opd} {t:TypeId} (hx:opd I x=some x') (hi:opd I i=some i')
 (ht:P.underlying t=some .string)
 (he:aeval N.G p s (.idxS x' i')=some e):Gives N A μ s w ((Instr.index t (a.eval x) (a.eval i)).run P w) e:=by
 simp only [aeval,Option.bind_eq_bind,Option.bind_eq_some_iff] at he
 obtain ⟨m,hm,u,hu,he⟩:=he
 obtain ⟨k,hk⟩:=int_eval hI R hi hm
 split at he
 ·rename_i b
  split at he
  ·rename_i hb
   simp only [Option.bind_eq_some_iff,Option.some.injEq] at he
   obtain ⟨r,hr,rfl⟩:=he
   have hv:=(opd_eval hI R hx hu).str_inv
   refine ⟨_, ?_,(RepC.t (.int _ _)).toV,rfl,rfl,rfl,rfl⟩
   simp [Instr.index,hk,asIntOf,run_und ht,hv,hb,hr]
  ·simp at he
 ·simp at he
theorem s_extr (hI:I.Ok N) (R:Rel N c ns A μ lam s a w) {x:Operand} {x' : Opd} {i:Nat} (hx:opd I x=some x')
 (he:aeval N.G p s (.extr x' i)=some e):Gives N A μ s w ((Instr.extract (a.eval x) i).run P w) e:=by
 simp only [aeval,Option.bind_eq_bind,Option.bind_eq_some_iff] at he
 obtain ⟨u,hu,he⟩:=he
 split at he
 ·rename_i cs
  simp only [Option.bind_eq_some_iff,Option.some.injEq] at he
  obtain ⟨v,hv,rfl⟩:=he
  obtain ⟨vs,hvs,hl,h1⟩:=opd_eval hI R hx hu
  obtain ⟨z,hz,hr⟩:=h1 i v hv
  refine ⟨z, ?_,hr.toV,rfl,rfl,rfl,rfl⟩
  simp [Instr.extract,hvs,hz]
 ·simp at he
theorem RepV.len_inv {w:World} {A:Nat->Prop} {nm μ:Nat->Nat} {s:St} {v:Value} {x:V} {n:Nat} (h:RepV w A nm μ s.heap v x) (hn:lenOf s x=some n) :
 ∃ ad cap,v = .slice ad n cap:=by
 unfold lenOf at hn
 split at hn
 ·simp only [Option.some.injEq] at hn; subst hn
  cases h.t_inv; exact ⟨_,_,rfl⟩
 ·simp only [Option.some.injEq] at hn; subst hn
  cases h.t_inv <;> exact ⟨_,_,rfl⟩
 ·split at hn <;> simp only [Option.some.injEq,reduceCtorEq] at hn
  rename_i hk; subst hn
  cases (h:RepC w A nm μ s.heap v _) with
  | ms=>exact ⟨_,_,rfl⟩
  | dms _ _ _ hk' => rw [hk] at hk'; cases hk'
 ·simp at hn
theorem s_len (hI:I.Ok N) (R:Rel N c ns A μ lam s a w) {x:Operand} {x' : Opd} {t el ty:TypeId} (hx:opd I x=some x') (ht:P.underlying t=some (.slice el))
 (he:aeval N.G p s (.len x')=some e):Gives N A μ s w ((Builtin.len_ #[t] ty #[a.eval x]).run P w) e:=by
 simp only [aeval,Option.bind_eq_bind,Option.bind_eq_some_iff,Option.some.injEq] at he
 obtain ⟨u,hu,n,hn,rfl⟩:=he
 obtain ⟨ad,cap,hv⟩:=(opd_eval hI R hx hu).len_inv hn
 refine ⟨_, ?_,(RepC.t (.int _ _)).toV,rfl,rfl,rfl,rfl⟩
 simp [Builtin.len_,run_und ht,hv,goInt]
theorem s_slen (hI:I.Ok N) (R:Rel N c ns A μ lam s a w) {x:Operand} {x' : Opd} {t ty:TypeId} (hx:opd I x=some x') (ht:P.underlying t=some .string)
 (he:aeval N.G p s (.slen x')=some e):Gives N A μ s w ((Builtin.len_ #[t] ty #[a.eval x]).run P w) e:=by
 simp only [aeval,Option.bind_eq_bind,Option.bind_eq_some_iff] at he
 obtain ⟨u,hu,he⟩:=he
 split at he
 ·simp only [Option.some.injEq] at he; subst he
  have hv:=(opd_eval hI R hx hu).str_inv
  refine ⟨_, ?_,(RepC.t (.int _ _)).toV,rfl,rfl,rfl,rfl⟩
  simp [Builtin.len_,run_und ht,hv,goInt]
 ·simp at he
theorem s_lenA {x:Value} {n:Nat} {t el ty:TypeId} (ht:P.underlying t=some (.array n el))
 (he:aeval N.G p s (.lenA n)=some e):Gives N A μ s w ((Builtin.len_ #[t] ty #[x]).run P w) e:=by
 simp only [aeval,Option.some.injEq] at he; subst he
 refine ⟨_, ?_,(RepC.t (.int _ _)).toV,rfl,rfl,rfl,rfl⟩
 simp [Builtin.len_,run_und ht,goInt]
theorem s_iaddrS (hI:I.Ok N) (R:Rel N c ns A μ lam s a w) {x i:Operand} {x' i' : Opd} {t el:TypeId} {n:Nat} {ag:Bool} (hx:opd I x=some x') (hi:opd I i=some i')
 (ht:P.underlying t=some (.slice el)) (hty:typ P el=some (ag,n))
 (he:aeval N.G p s (.iaddrS n x' i')=some e):Gives N A μ s w ((Instr.indexAt t (a.eval x) (a.eval i)).run P w) e:=by
 simp only [aeval,Option.bind_eq_bind,Option.bind_eq_some_iff] at he
 obtain ⟨m,hm,u,hu,he⟩:=he
 obtain ⟨k,hk⟩:=int_eval hI R hi hm
 obtain ⟨inf,g1,g2,g3,g4⟩:=typ_spec hty
 have hrep:=opd_eval hI R hx hu
 split at he
 ·rename_i es
  split at he
  ·rename_i hb
   simp only [Option.bind_eq_some_iff] at he
   obtain ⟨row,hrow,he⟩:=he
   split at he
   ·rename_i hsz
    simp only [Option.some.injEq] at he; subst he
    have hlt:m.toNat<es.length:=(List.getElem?_eq_some_iff.1 hrow).1
    generalize hv:a.eval x=v at hrep
    cases hrep.t_inv with
    | sl0 ad cap=>simp at hrow
    | sl r off cap sz _ vf h0 hc hA hs hvv hr =>
     have hsz' : sz=n:=by rw [<- hs _ row hrow,hsz]
     subst hsz'
     have hlt' : m<(es.length:Int):=by omega
     refine ⟨.pointer (some ⟨r,off+m.toNat*sz,none⟩), ?_,(RepC.t (.ip r (off+m.toNat*sz) row (fun j=>vf m.toNat j) hA (fun j x hj=>hvv _ row j x hrow hj) (fun j x hj=>hr _ row j x hrow hj))).toV,rfl,rfl,rfl,rfl⟩
     simp [Instr.indexAt,hk,asIntOf,run_und ht,hb,hlt',run_size g1,g2,addr_add]
   ·simp at he
  ·simp at he
 ·rename_i kk j len
  split at he <;> try (simp at he; done)
  rename_i sz rs frz hkk
  split at he
  ·rename_i hb
   obtain ⟨hb1,hb2,rfl⟩:=hb
   simp only [Option.some.injEq] at he; subst he
   generalize hv:a.eval x=v at hrep
   cases (hrep:RepC w A N.nm μ s.heap v _) with
   | ms _ _ _ cap sz' rs' frz' ad hk' hi' hc ha =>
    rw [hkk] at hk'; cases hk'
    have hcap:cap≠0:=by omega
    obtain ⟨rfl,_⟩:=ha.resolve_left hcap
    refine ⟨.pointer (some ⟨μ kk,(j+m.toNat)*sz,none⟩), ?_, ?_,rfl,rfl,rfl,rfl⟩
    ·simp [Instr.indexAt,hk,asIntOf,run_und ht,hb1,hb2,run_size g1,g2,addr_add,Nat.add_mul]
    ·have:=RepC.mp (w:=w) (A:=A) (nm:=N.nm) (μ:=μ) (H:=s.heap) kk (j+m.toNat) 0 sz rs frz hkk (by omega)
     simpa using this.toV
   | dms _ _ _ hk' => rw [hkk] at hk'; cases hk'
  ·simp at he
 ·simp at he
theorem run_iaddr {t el:TypeId} {i:Value} {k:IntKind} {m:Int} {len n r off:Nat} {ag:Bool} {v:Value} (ht:P.underlying t=some (.array len el)) (hty:typ P el=some (ag,n))
 (hi:i = .int k m) (hb:0<=m/\m<len) (hv:v = .pointer (some ⟨r,off,none⟩)):(Instr.indexAt t v i).run P w = .ok (.pointer (some ⟨r,off+m.toNat*n,none⟩)) w:=by
 obtain ⟨inf,g1,g2,g3,g4⟩:=typ_spec hty
 simp [Instr.indexAt,hi,asIntOf,run_und ht,hb,run_size g1,g2,addr_add,hv,Instr.sureAddr]
theorem s_iaddrAL (hI:I.Ok N) (R:Rel N c ns A μ lam s a w) {x i:Operand} {x' i' : Opd} {t el:TypeId} {len n:Nat} {ag:Bool} (hx:opd I x=some x') (hi:opd I i=some i')
 (ht:P.underlying t=some (.array len el)) (hty:typ P el=some (ag,n)) (he:aeval N.G p s (.iaddrAL len n x' i')=some e) :
 ∃ v,(Instr.indexAt t (a.eval x) (a.eval i)).run P w = .ok v w/\RepV w A N.nm μ s.heap v e.val/\e.loc=none/\e.wloc=none/\e.hp=[] /\
  ∀ b o,e.adr=some (b,o)->(s.loc b).isSome=true/\v = .pointer (some ⟨lam b,o,none⟩):=by
 simp only [aeval,Option.bind_eq_bind,Option.bind_eq_some_iff,Prod.exists] at he
 obtain ⟨m,hm,b,o,hr,cs,hb,he⟩:=he
 obtain ⟨k,hk⟩:=int_eval hI R hi hm
 split at he
 ·rename_i hbd
  simp only [Option.some.injEq] at he; subst he
  refine ⟨_,run_iaddr ht hty hk hbd (ref_eval R hx hr hb),trivial,rfl,rfl,rfl, ?_⟩
  intro b' o' h
  simp only [Option.some.injEq,Prod.mk.injEq] at h
  obtain ⟨rfl,rfl⟩:=h
  exact ⟨by rw [hb]; rfl,rfl⟩
 ·simp at he
theorem s_iaddrA (hI:I.Ok N) (R:Rel N c ns A μ lam s a w) {x i:Operand} {x' i' : Opd} {t el:TypeId} {len n:Nat} {ag:Bool} (hx:opd I x=some x') (hi:opd I i=some i')
 (ht:P.underlying t=some (.array len el)) (hty:typ P el=some (ag,n)) (he:aeval N.G p s (.iaddrA len n x' i')=some e) :
 Gives N A μ s w ((Instr.indexAt t (a.eval x) (a.eval i)).run P w) e:=by
 simp only [aeval,Option.bind_eq_bind,Option.bind_eq_some_iff] at he
 obtain ⟨m,hm,he⟩:=he
 obtain ⟨k,hk⟩:=int_eval hI R hi hm
 split at he
 ·rename_i hbd
  simp only [Option.bind_eq_some_iff] at he
  obtain ⟨u,hu,he⟩:=he
  have hrep:=opd_eval hI R hx hu
  split at he
  ·rename_i kk i' off
   split at he <;> simp only [Option.some.injEq,reduceCtorEq] at he
   rename_i sz rs frz hkk
   subst he
   obtain ⟨hv,hi⟩:=hrep.mp_inv hkk
   refine ⟨_,run_iaddr ht hty hk hbd hv, ?_,rfl,rfl,rfl,rfl⟩
   rw [Nat.add_assoc]
   exact (RepC.mp kk i' _ sz rs frz hkk hi).toV
  ·simp only [Option.some.injEq] at he; subst he
   obtain ⟨r,off,vf,hv,hA,h1,h2⟩:=RepV.ip_inv hrep
   exact ⟨_,run_iaddr ht hty hk hbd hv,ip_drop _ hA h1 h2,rfl,rfl,rfl,rfl⟩
  ·simp at he
 ·simp at he
theorem evls_spec : ∀ {l:List Opd} {vs:List V},evls N.G s l=some vs->l.length=vs.length /\ ∀ (i:Nat) (v:V),vs[i]? = some v -> ∃ x,l[i]? = some x/\evl N.G s x=some v
 | [],vs,h=>by simp [evls] at h; subst h; simp
 | x::l,vs,h=>by
  simp only [evls,Option.bind_eq_bind,Option.bind_eq_some_iff,Option.some.injEq] at h
  obtain ⟨v,hv,us,hus,rfl⟩:=h
  obtain ⟨h1,h2⟩:=evls_spec hus
  refine ⟨by simp [h1],fun i z hz => ?_⟩
  cases i with
  | zero=>simp at hz; subst hz; exact ⟨x,rfl,hv⟩
  | succ i=>simp at hz; simpa using h2 i z hz
theorem opds_eval (hI:I.Ok N) (R:Rel N c ns A μ lam s a w) {xs:Array Operand} {ys:List Opd} {vs:List V} (hx:opds I xs=some ys) (hv:evls N.G s ys=some vs) :
 (xs.map a.eval).size=vs.length /\ ∀ (i:Nat) (v:V),vs[i]? = some v -> ∃ u,(xs.map a.eval)[i]? = some u/\RepV w A N.nm μ s.heap u v:=by
 obtain ⟨h1,h2⟩:=mapM_some hx
 obtain ⟨h3,h4⟩:=evls_spec hv
 refine ⟨by simp at h1 ⊢; omega,fun i v hi => ?_⟩
 obtain ⟨y,hy,hev⟩:=h4 i v hi
 obtain ⟨x,hx',ho⟩:=h2 i y hy
 refine ⟨a.eval x, ?_,opd_eval hI R ho hev⟩
 simp only [Array.getElem?_toList] at hx'
 simp [hx']
end
end Rg
end
section
namespace Rg
open Go
theorem RepV.cell {w:World} {A:Nat->Prop} {nm μ:Nat->Nat} {H:Nat->Option O} {v:Value} {x:V} (h:RepV w A nm μ H v x) (hc:x.isCell=true):RepC w A nm μ H v x:=by
 cases x <;> first | exact h | (simp [V.isCell] at hc)
theorem RepT.nils_inv {w:World} {A:Nat->Prop} {nm:Nat->Nat} {v:Value} (h:RepT w A nm v .nils) : ∃ ad,v = .slice ad 0 0:=by
 cases h; exact ⟨_,rfl⟩
theorem RepT.sl_inv {w:World} {A:Nat->Prop} {nm:Nat->Nat} {v:Value} {es:List (List T)} (h:RepT w A nm v (.sl es)) :
 (es=[] /\ ∃ ad cap,v = .slice ad 0 cap) \/ ∃ (r off cap sz:Nat) (vf:Nat->Nat->Value),v = .slice (some ⟨r,off,none⟩) es.length cap/\0<es.length/\es.length<=cap/\A r /\
   (∀ (i:Nat) (e:List T),es[i]? = some e->e.length=sz) /\
   (∀ (i:Nat) (e:List T) (j:Nat) (x:T),es[i]? = some e->e[j]? = some x->w.cell? ⟨r,off+i*sz+j,none⟩=some (vf i j)) /\
   (∀ (i:Nat) (e:List T) (j:Nat) (x:T),es[i]? = some e->e[j]? = some x->RepT w A nm (vf i j) x):=by
 cases h with
 | sl0 ad cap=>exact .inl ⟨rfl,ad,cap,rfl⟩
 | sl r off cap sz _ vf h0 hc hA hs hv hr=>exact .inr ⟨r,off,cap,sz,vf,rfl,h0,hc,hA,hs,hv,hr⟩
section
variable {P:Program} {N:Nam} {I:Inv} {c:Ctx} {ns p:Nat} {A:Nat->Prop} {μ lam:Nat->Nat} {s:St} {a:Act} {w:World} {e:Eff}
theorem trees_spec : ∀ {cs:List V} {ts:List T},trees cs=some ts->ts.length=cs.length /\ ∀ (j:Nat) (x:T),ts[j]? = some x -> ∃ y,cs[j]? = some (.t y)/\x=y.norm
 | [],ts,h=>by simp [trees] at h; subst h; exact ⟨rfl,fun j x h=>by simp at h⟩
 | .t y::r,ts,h=>by
  simp only [trees,Option.map_eq_some_iff] at h
  obtain ⟨us,hu,rfl⟩:=h
  obtain ⟨h1,h2⟩:=trees_spec hu
  refine ⟨by simp [h1],fun j x hj => ?_⟩
  cases j with
  | zero=>simp at hj; exact ⟨y,rfl,hj.symm⟩
  | succ j=>simp only [List.getElem?_cons_succ] at hj ⊢; exact h2 j x hj
 | .ms _ _ _::_,_,h | .mp _ _ _::_,_,h | .mm _::_,_,h | .fn _ _ _::_,_,h | .agg _::_,_,h | .tup _::_,_,h | .undef::_,_,h | .lb::_,_,h=>by simp [trees] at h
theorem s_mkfn (hI:I.Ok N) (R:Rel N c ns A μ lam s a w) {f k:Nat} {xs ys:Array Operand} {xs' ys' : List Opd} (hf:I.fi f=some k) (hx:opds I xs=some xs') (hy:opds I ys=some ys')
 (he:aeval N.G p s (.mkfn k xs' ys')=some e):Gives N A μ s w ((Instr.makeFunc (.func f) (xs.map a.eval) (ys.map a.eval)).run P w) e:=by
 simp only [aeval,Option.bind_eq_bind,Option.bind_eq_some_iff] at he
 obtain ⟨as,has,bs,hbs,he⟩:=he
 simp only [Option.some.injEq] at he
 obtain ⟨fv,hfv,rfl⟩:=he
 unfold mkfnV at hfv
 split at hfv
 ·rename_i hall
  simp only [Option.some.injEq] at hfv; subst hfv
  obtain ⟨h1,h2⟩:=opds_eval hI R hx has
  obtain ⟨h3,h4⟩:=opds_eval hI R hy hbs
  refine ⟨_,rfl, ?_,rfl,rfl,rfl,rfl⟩
  have:=hI.f f k hf
  subst this
  have hcell : ∀ (l:List V),l.all V.isCell=true -> ∀ (i:Nat) (v:V),l[i]? = some v->v.isCell=true:=by
   intro l hl i v hi
   exact List.all_eq_true.1 hl v (List.mem_of_getElem? hi)
  refine RepC.fn k as bs (xs.map a.eval) (ys.map a.eval) (fun i=>((xs.map a.eval)[i]?).getD undef) (fun i=>((ys.map a.eval)[i]?).getD undef) h1 h3 ?_ ?_ ?_ ?_
  ·intro j x hj; obtain ⟨u,hu,_⟩:=h2 j x hj; rw [hu]; rfl
  ·intro j x hj; obtain ⟨u,hu,hr⟩:=h2 j x hj; rw [hu]; exact hr.cell (hcell _ hall.1 j x hj)
  ·intro j x hj; obtain ⟨u,hu,_⟩:=h4 j x hj; rw [hu]; rfl
  ·intro j x hj; obtain ⟨u,hu,hr⟩:=h4 j x hj; rw [hu]; exact hr.cell (hcell _ hall.2 j x hj)
 ·split at hfv
  ·rename_i cs _
   simp only [Option.map_eq_some_iff] at hfv
   obtain ⟨ts,hts,rfl⟩:=hfv
   obtain ⟨h1,h2⟩:=opds_eval hI R hx has
   obtain ⟨h3,h4⟩:=opds_eval hI R hy hbs
   refine ⟨_,rfl, ?_,rfl,rfl,rfl,rfl⟩
   have:=hI.f f k hf
   subst this
   obtain ⟨v0,hv0,hr0⟩:=h2 0 _ rfl
   obtain ⟨vc,rfl,hlen,hcs⟩:=(hr0:RepV1 w A N.nm μ s.heap v0 (.agg cs))
   have hxs:xs.map a.eval = #[.agg vc]:=by
    apply Array.ext_getElem?
    intro i
    cases i with
    | zero=>rw [hv0]; rfl
    | succ i =>
     have:(xs.map a.eval).size=1:=h1
     rw [Array.getElem?_eq_none (by omega)]; simp
   have hys:ys.map a.eval = #[]:=by
    have:(ys.map a.eval).size=0:=h3
    exact Array.eq_empty_of_size_eq_zero this
   rw [hxs,hys]
   obtain ⟨t1,t2⟩:=trees_spec hts
   have hvs:vc.size=ts.length:=by rw [t1, <- hlen]; simp
   refine (RepC.t ?_).toV
   refine .fa k ts vc (fun j=>(vc[j]?).getD undef) hvs ?_ ?_
   ·intro j x hj
    obtain ⟨y,hy,rfl⟩:=t2 j x hj
    obtain ⟨v,hv,_⟩:=hcs j _ hy
    have:vc[j]? = some v:=by simpa using hv
    rw [this]; rfl
   ·intro j x hj
    obtain ⟨y,hy,rfl⟩:=t2 j x hj
    obtain ⟨v,hv,hr⟩:=hcs j _ hy
    have:vc[j]? = some v:=by simpa using hv
    rw [this]
    cases hr with
    | t h=>exact h.norm
  ·simp at hfv
theorem run_bound {v:Value} {k:IntKind} {m:Int} {y:Nat} {code:BoundsCode} (hv:v = .int k m) (h0:0<=m) (h1:m<=y):(Instr.sliceBound v y code).run P w = .ok m.toNat w:=by
 simp [Instr.sliceBound,hv,asIntOf,h0,h1]
theorem opt_eval (hI:I.Ok N) (R:Rel N c ns A μ lam s a w) {x:Option Operand} {y:Option Opd} {d:Nat} {n:Int} (hx:opdO I x=some y) (hv:evOpt N.G s d y=some n) :
 (x=none/\n=d) \/ ∃ o k,x=some o/\a.eval o = .int k n:=by
 cases x with
 | none =>
  simp only [opdO,Option.some.injEq] at hx; subst hx
  simp only [evOpt,Option.some.injEq] at hv
  exact .inl ⟨rfl,hv.symm⟩
 | some o =>
  simp only [opdO,Option.map_eq_some_iff] at hx
  obtain ⟨z,hz,rfl⟩:=hx
  obtain ⟨k,hk⟩:=int_eval hI R hz hv
  exact .inr ⟨o,k,rfl,hk⟩
theorem run_bounds {lo hi:Option Value} {len cap:Nat} {l h:Int} {b:Bool} (hh:(hi=none/\h=len) \/ ∃ k,hi=some (.int k h))
 (hl:(lo=none/\l=0) \/ ∃ k,lo=some (.int k l)) (h0:0<=l) (h1:l<=h) (h2:h<=cap) :
 (Instr.sliceBounds b len cap lo hi none).run P w = .ok (l.toNat,h.toNat,cap) w:=by
 have e1 : ∀ k code,(Instr.sliceBound (.int k h) cap code).run P w = .ok h.toNat w:=fun k code=>run_bound rfl (by omega) h2
 have e2 : ∀ k code,(Instr.sliceBound (.int k l) h.toNat code).run P w = .ok l.toNat w:=fun k code=>run_bound rfl h0 (by omega)
 rcases hh with ⟨rfl,rfl⟩ | ⟨k,rfl⟩ <;> rcases hl with ⟨rfl,rfl⟩ | ⟨k',rfl⟩
 ·simp [Instr.sliceBounds]
 ·have:=e2 k' .sliceB
  simp only [Int.toNat_natCast] at this
  simp [Instr.sliceBounds,this]
 ·simp [Instr.sliceBounds,e1]
 ·simp [Instr.sliceBounds,e1,e2]
theorem s_slice (hI:I.Ok N) (R:Rel N c ns A μ lam s a w) {x:Operand} {lo hi mx:Option Operand} {x' : Opd} {lo' hi' mx' : Option Opd} {t el:TypeId} {n:Nat} {ag:Bool}
 (hx:opd I x=some x') (hlo:opdO I lo=some lo') (hhi:opdO I hi=some hi') (hmx:opdO I mx=some mx') (ht:P.underlying t=some (.slice el)) (hty:typ P el=some (ag,n))
 (he:aeval N.G p s (.slice n x' lo' hi' mx')=some e):Gives N A μ s w ((Instr.sliceAt t (a.eval x) (lo.map a.eval) (hi.map a.eval) (mx.map a.eval)).run P w) e:=by
 simp only [aeval,Option.bind_eq_bind,Option.bind_eq_some_iff] at he
 obtain ⟨u,hu,len,hlen,h,hh,l,hl,he⟩:=he
 have hrep:=opd_eval hI R hx hu
 obtain ⟨ad,cap,hv⟩:=hrep.len_inv hlen
 obtain ⟨inf,g1,g2,g3,g4⟩:=typ_spec hty
 have hcap:len<=cap:=by
  rw [hv] at hrep
  unfold lenOf at hlen
  split at hlen
  ·simp only [Option.some.injEq] at hlen; omega
  ·simp only [Option.some.injEq] at hlen
   rcases hrep.t_inv.sl_inv with ⟨rfl,_⟩ | ⟨r,off,cap',sz,vf,he,h0,hc,_⟩
   ·simp at hlen; omega
   ·cases he; exact hc
  ·split at hlen <;> simp only [Option.some.injEq,reduceCtorEq] at hlen
   rename_i hk; subst hlen
   cases (hrep:RepC w A N.nm μ s.heap _ _) with
   | ms _ _ _ _ _ _ _ _ _ hi hc=>omega
   | dms _ _ _ hk' => rw [hk] at hk'; cases hk'
  ·simp at hlen
 have hh' : (hi.map a.eval=none/\h=len) \/ ∃ k,hi.map a.eval=some (.int k h):=by
  rcases opt_eval hI R hhi hh with ⟨rfl,h⟩ | ⟨o,k,rfl,h⟩
  ·exact .inl ⟨rfl,h⟩
  ·exact .inr ⟨k,by simp [h]⟩
 have hl' : (lo.map a.eval=none/\l=0) \/ ∃ k,lo.map a.eval=some (.int k l):=by
  rcases opt_eval hI R hlo hl with ⟨rfl,h⟩ | ⟨o,k,rfl,h⟩
  ·exact .inl ⟨rfl,by simpa using h⟩
  ·exact .inr ⟨k,by simp [h]⟩
 cases mx with
 | none =>
  simp only [opdO,Option.some.injEq] at hmx; subst hmx
  simp only at he
  split at he
  ·rename_i hb
   obtain ⟨hb0,hb1,hb2⟩:=hb
   have hrun:(Instr.sliceAt t (a.eval x) (lo.map a.eval) (hi.map a.eval) (Option.map a.eval none)).run P w =
    .ok (.slice (if cap=l.toNat then ad else ad.map (·.add (l.toNat*n))) (h.toNat-l.toNat) (cap-l.toNat)) w:=by
    have:=run_bounds (P:=P) (w:=w) (b:=true) (cap:=cap) hh' hl' hb0 hb1 (by omega)
    simp [Instr.sliceAt,run_und ht,Instr.slice,hv,this,run_size g1,g2]
   refine ⟨_,hrun, ?_⟩
   split at he
   ·simp only [Option.some.injEq] at he; subst he
    simp only [lenOf,Option.some.injEq] at hlen
    subst hlen
    have hl0:l.toNat=0:=by omega
    have hh0:h.toNat=0:=by omega
    rw [hv] at hrep
    have hc0:cap=0:=by obtain ⟨_,he⟩:=hrep.t_inv.nils_inv; cases he; rfl
    subst hc0
    rw [hl0,hh0]
    exact ⟨(RepC.t (.nils _)).toV,rfl,rfl,rfl,rfl⟩
   ·rename_i es
    split at he
    ·rename_i hall
     simp only [Option.some.injEq] at he; subst he
     simp only [lenOf,Option.some.injEq] at hlen
     subst hlen
     refine ⟨?_,rfl,rfl,rfl,rfl⟩
     have hhl:(h-l).toNat=h.toNat-l.toNat:=by omega
     by_cases hemp:h.toNat-l.toNat=0
     ·rw [hhl,hemp,List.take_zero]
      exact (RepC.t (.sl0 _ _)).toV
     ·rw [hv] at hrep
      rcases hrep.t_inv.sl_inv with ⟨rfl,_⟩ | ⟨r,off,cap',sz,vf,heq,h0,hc,hA,hs,hvv,hr⟩
      ·simp at hb2; omega
      ·cases heq
       have hlen' : ((es.drop l.toNat).take (h-l).toNat).length=h.toNat-l.toNat:=by simp; omega
       have hne:cap≠l.toNat:=by omega
       have hsz:sz=n:=by
        have h00:0<es.length:=h0
        have:=hs 0 es[0] (List.getElem?_eq_getElem h00)
        have h2:=List.all_eq_true.1 hall es[0] (List.getElem_mem h00)
        simp only [decide_eq_true_eq] at h2
        omega
       subst hsz
       have key:=RepT.sl (w:=w) (A:=A) (nm:=N.nm) r (off+l.toNat*sz) (cap-l.toNat) sz ((es.drop l.toNat).take (h-l).toNat) (fun i j=>vf (l.toNat+i) j)
        (by rw [hlen']; omega) (by rw [hlen']; omega) hA ?_ ?_ ?_
       ·rw [if_neg hne]
        simp only [Option.map_some,addr_add]
        rw [hlen'] at key
        exact (RepC.t key).toV
       ·intro i e0 hi
        simp only [List.getElem?_take,List.getElem?_drop] at hi
        split at hi
        ·exact hs _ e0 hi
        ·simp at hi
       ·intro i e0 j y hi hj
        simp only [List.getElem?_take,List.getElem?_drop] at hi
        split at hi
        ·have:=hvv _ e0 j y hi hj
         rw [Nat.add_mul] at this
         have e1:off+l.toNat*sz+i*sz+j=off+(l.toNat*sz+i*sz)+j:=by omega
         rw [e1]; exact this
        ·simp at hi
       ·intro i e0 j y hi hj
        simp only [List.getElem?_take,List.getElem?_drop] at hi
        split at hi
        ·exact hr _ e0 j y hi hj
        ·simp at hi
    ·simp at he
   ·rename_i kk i ll
    split at he <;> try (simp at he; done)
    rename_i sz rs frz hk
    split at he <;> simp only [Option.some.injEq,reduceCtorEq] at he
    rename_i hsz; subst hsz; subst he
    simp only [lenOf,hk,Option.some.injEq] at hlen
    subst hlen
    refine ⟨?_,rfl,rfl,rfl,rfl⟩
    rw [hv] at hrep
    cases (hrep:RepC w A N.nm μ s.heap _ _) with
    | ms _ _ _ _ sz' rs' frz' _ hk' hi' hc ha =>
     rw [hk] at hk'; cases hk'
     have hhl:(h-l).toNat=h.toNat-l.toNat:=by omega
     rw [hhl]
     refine (RepC.ms kk (i+l.toNat) (h.toNat-l.toNat) (cap-l.toNat) sz rs frz _ hk (by omega) (by omega) ?_).toV
     by_cases hc0:cap-l.toNat=0
     ·exact .inl hc0
     ·right
      rcases ha with ha | ⟨rfl,e1,n1,hs1,hn1⟩
      ·omega
      ·rw [if_neg (by omega)]
       refine ⟨by simp [addr_add,Nat.add_mul],e1,n1,hs1, ?_⟩
       have:i+l.toNat+(cap-l.toNat)=i+cap:=by omega
       rw [this]; exact hn1
    | dms _ _ _ hk' => rw [hk] at hk'; cases hk'
   ·simp at he
  ·split at he <;> try (simp at he; done)
   rename_i kk i ll
   split at he <;> try (simp at he; done)
   rename_i sz rs frz hk
   split at he <;> simp only [Option.some.injEq,reduceCtorEq] at he
   rename_i hcnd
   obtain ⟨hsz,hb0,hb1,hb2⟩:=hcnd
   subst hsz; subst he
   rw [hv] at hrep
   cases (hrep:RepC w A N.nm μ s.heap _ _) with
   | ms _ _ _ _ sz' rs' frz' _ hk' hi' hc ha =>
    rw [hk] at hk'; cases hk'
    have hrun:(Instr.sliceAt t (a.eval x) (lo.map a.eval) (hi.map a.eval) (Option.map a.eval none)).run P w =
     .ok (.slice (if cap=l.toNat then ad else ad.map (·.add (l.toNat*sz))) (h.toNat-l.toNat) (cap-l.toNat)) w:=by
     have:=run_bounds (P:=P) (w:=w) (b:=true) (cap:=cap) hh' hl' hb0 hb1 (by omega)
     simp [Instr.sliceAt,run_und ht,Instr.slice,hv,this,run_size g1,g2]
    refine ⟨_,hrun, ?_,rfl,rfl,rfl,rfl⟩
    have hhl:(h-l).toNat=h.toNat-l.toNat:=by omega
    rw [hhl]
    refine (RepC.ms kk (i+l.toNat) (h.toNat-l.toNat) (cap-l.toNat) sz rs frz _ hk (by omega) (by omega) ?_).toV
    by_cases hc0:cap-l.toNat=0
    ·exact .inl hc0
    ·right
     rcases ha with ha | ⟨rfl,e1,n1,hs1,hn1⟩
     ·omega
     ·rw [if_neg (by omega)]
      refine ⟨by simp [addr_add,Nat.add_mul],e1,n1,hs1, ?_⟩
      have:i+l.toNat+(cap-l.toNat)=i+cap:=by omega
      rw [this]; exact hn1
   | dms _ _ _ hk' => rw [hk] at hk'; cases hk'
 | some mo =>
  simp only [opdO,Option.map_eq_some_iff] at hmx
  obtain ⟨m',hm',rfl⟩:=hmx
  simp only [Option.bind_eq_some_iff] at he
  obtain ⟨m,hm,he⟩:=he
  obtain ⟨km,hkm⟩:=int_eval hI R hm' hm
  split at he
  ·rename_i hb
   obtain ⟨rfl,rfl,rfl,his⟩:=hb
   have hval:e = { val:=.t .nils }:=by
    split at he <;> simp only [Option.some.injEq,reduceCtorEq] at he <;> exact he.symm
   subst hval
   obtain ⟨kh,hh2⟩ : ∃ k,hi.map a.eval=some (.int k 0):=by
    cases hi with
    | none=>simp only [opdO,Option.some.injEq] at hhi; subst hhi; simp at his
    | some o =>
     rcases hh' with ⟨h,_⟩ | h
     ·simp at h
     ·exact h
   refine ⟨.slice ad 0 0, ?_,(RepC.t (.nils _)).toV,rfl,rfl,rfl,rfl⟩
   have b1 : ∀ (kk:IntKind) (y:Nat) (code:BoundsCode),(Instr.sliceBound (.int kk 0) y code).run P w = .ok 0 w:=fun kk y code=>by
    have:=run_bound (P:=P) (w:=w) (code:=code) (v:=.int kk 0) (y:=y) rfl (Int.le_refl 0) (by omega)
    simpa using this
   rcases hl' with ⟨h1,_⟩ | ⟨kl,h1⟩
   ·simp [Instr.sliceAt,run_und ht,Instr.slice,hv,Instr.sliceBounds,hh2,h1,hkm,b1,run_size g1]
   ·simp [Instr.sliceAt,run_und ht,Instr.slice,hv,Instr.sliceBounds,hh2,h1,hkm,b1,run_size g1]
  ·split at he <;> simp only [Option.some.injEq,reduceCtorEq] at he
   rename_i hcnd
   obtain ⟨c0,c1,c2,c3,his⟩:=hcnd
   subst he
   obtain ⟨kh,hh2⟩ : ∃ k,hi.map a.eval=some (.int k h):=by
    cases hi with
    | none=>simp only [opdO,Option.some.injEq] at hhi; subst hhi; simp at his
    | some o =>
     rcases hh' with ⟨h,_⟩ | h
     ·simp at h
     ·exact h
   have b1 : ∀ code,(Instr.sliceBound (.int km m) cap code).run P w = .ok m.toNat w:=fun code=>run_bound rfl (by omega) (by omega)
   have b2 : ∀ code,(Instr.sliceBound (.int kh h) m.toNat code).run P w = .ok h.toNat w:=fun code=>run_bound rfl (by omega) (by omega)
   have b3 : ∀ kk code,(Instr.sliceBound (.int kk l) h.toNat code).run P w = .ok l.toNat w:=fun kk code=>run_bound rfl (by omega) (by omega)
   rcases hl' with ⟨h1,h2⟩ | ⟨kl,h1⟩
   ·exact ⟨_,by simp [Instr.sliceAt,run_und ht,Instr.slice,hv,Instr.sliceBounds,hh2,h1,hkm,b1,b2,run_size g1]; rfl,trivial,rfl,rfl,rfl,rfl⟩
   ·exact ⟨_,by simp [Instr.sliceAt,run_und ht,Instr.slice,hv,Instr.sliceBounds,hh2,h1,hkm,b1,b2,b3,run_size g1]; rfl,trivial,rfl,rfl,rfl,rfl⟩
theorem s_slstr (hI:I.Ok N) (R:Rel N c ns A μ lam s a w) {x:Operand} {lo hi:Option Operand} {x' : Opd} {lo' hi' : Option Opd} {t:TypeId}
 (hx:opd I x=some x') (hlo:opdO I lo=some lo') (hhi:opdO I hi=some hi') (ht:P.underlying t=some .string)
 (he:aeval N.G p s (.slstr x' lo' hi')=some e):Gives N A μ s w ((Instr.sliceAt t (a.eval x) (lo.map a.eval) (hi.map a.eval) none).run P w) e:=by
 simp only [aeval,Option.bind_eq_bind,Option.bind_eq_some_iff] at he
 obtain ⟨u,hu,he⟩:=he
 split at he
 ·rename_i b
  simp only [Option.bind_eq_some_iff] at he
  obtain ⟨h,hh,l,hl,he⟩:=he
  split at he
  ·rename_i hb
   simp only [Option.some.injEq] at he; subst he
   have hv:=(opd_eval hI R hx hu).str_inv
   have hh' : (hi.map a.eval=none/\h=b.size) \/ ∃ k,hi.map a.eval=some (.int k h):=by
    rcases opt_eval hI R hhi hh with ⟨rfl,h⟩ | ⟨o,k,rfl,h⟩
    ·exact .inl ⟨rfl,h⟩
    ·exact .inr ⟨k,by simp [h]⟩
   have hl' : (lo.map a.eval=none/\l=0) \/ ∃ k,lo.map a.eval=some (.int k l):=by
    rcases opt_eval hI R hlo hl with ⟨rfl,h⟩ | ⟨o,k,rfl,h⟩
    ·exact .inl ⟨rfl,by simpa using h⟩
    ·exact .inr ⟨k,by simp [h]⟩
   have:=run_bounds (P:=P) (w:=w) (b:=false) hh' hl' hb.1 hb.2.1 hb.2.2
   refine ⟨_, ?_,(RepC.t (.str _)).toV,rfl,rfl,rfl,rfl⟩
   simp [Instr.sliceAt,run_und ht,Instr.slice,hv,this]
  ·simp at he
 ·simp at he
end
end Rg
end
section
namespace Rg
open Go
theorem wr_get {α:Type} {cs new r:List α} {off:Nat} (h:wr cs off new=some r) :
 off+new.length<=cs.length/\r.length=cs.length /\ ∀ k,r[k]? = if off<=k/\k<off+new.length then new[k-off]? else cs[k]? := by
 unfold wr at h
 split at h
 ·rename_i hle
  simp only [Option.some.injEq] at h; subst h
  refine ⟨hle,by simp; omega,fun k => ?_⟩
  simp only [List.getElem?_append,List.length_append,List.length_take,List.getElem?_take,List.getElem?_drop]
  have hm:min off cs.length=off:=by omega
  rw [hm]
  by_cases h1:k<off
  ·rw [if_pos (by omega),if_pos h1,if_pos h1,if_neg (by omega)]
  ·by_cases h2:k<off+new.length
   ·rw [if_pos h2,if_neg h1,if_pos (by omega)]
   ·rw [if_neg h2,if_neg (by omega)]
    congr 1; omega
 ·simp at h
theorem fold_set (off:Nat) : ∀ (vs:List Value) (j0:Nat) (cs:Array Value),
 ((vs.zipIdx j0).foldl (fun cs (x:Value×Nat)=>match x with | (c,j)=>cs.setIfInBounds (off+j) c) cs).size=cs.size /\
 ∀ k,((vs.zipIdx j0).foldl (fun cs (x:Value×Nat)=>match x with | (c,j)=>cs.setIfInBounds (off+j) c) cs)[k]? =
  if off+j0<=k/\k<off+j0+vs.length/\k<cs.size then vs[k-(off+j0)]? else cs[k]?
 | [],j0,cs=>by simp; intro k h1 h2; omega
 | v::vs,j0,cs=>by
  obtain ⟨h1,h2⟩:=fold_set off vs (j0+1) (cs.setIfInBounds (off+j0) v)
  simp only [List.zipIdx_cons,List.foldl_cons]
  refine ⟨by rw [h1]; simp,fun k => ?_⟩
  rw [h2 k]
  simp only [Array.size_setIfInBounds,Array.getElem?_setIfInBounds,List.length_cons]
  by_cases e:k=off+j0
  ·subst e
   rw [if_neg (by omega)]
   by_cases hlt:off+j0<cs.size
   ·rw [if_pos rfl,if_pos hlt,if_pos ⟨by omega,by omega,hlt⟩]; simp
   ·rw [if_pos rfl,if_neg hlt,if_neg (by omega)]
    simp [Array.getElem?_eq_none (Nat.le_of_not_lt hlt)]
  ·rw [if_neg (Ne.symm e)]
   by_cases h3:off+(j0+1)<=k/\k<off+(j0+1)+vs.length/\k<cs.size
   ·rw [if_pos h3,if_pos ⟨by omega,by omega,h3.2.2⟩]
    have:k-(off+j0)=(k-(off+(j0+1)))+1:=by omega
    rw [this]; simp
   ·rw [if_neg h3,if_neg (by omega)]
section
variable {w:World} {A:Nat->Prop} {nm μ:Nat->Nat} {H:Nat->Option O}
theorem RepL.splice {vs us:List Value} {cs new r:List V} {off:Nat} (h:RepL w A nm μ H vs cs) (hn:RepL w A nm μ H us new) (hw:wr cs off new=some r) (vs' : List Value) (hl:vs'.length=vs.length)
 (hg : ∀ k,k<vs.length->vs'[k]? = if off<=k/\k<off+us.length then us[k-off]? else vs[k]?):RepL w A nm μ H vs' r:=by
 obtain ⟨h1,h2,h3⟩:=wr_get hw
 refine ⟨by rw [hl,h.1,h2],fun i x hi => ?_⟩
 have hlt:i<vs.length:=by rw [h.1, <- h2]; exact (List.getElem?_eq_some_iff.1 hi).1
 rw [h3 i] at hi
 rw [hg i hlt]
 by_cases hc:off<=i/\i<off+new.length
 ·rw [if_pos hc] at hi
  rw [if_pos (by rw [hn.1]; exact hc)]
  exact hn.2 _ x hi
 ·rw [if_neg hc] at hi
  rw [if_neg (by rw [hn.1]; exact hc)]
  exact h.2 i x hi
end
section
variable {P:Program} {N:Nam} {I:Inv} {c:Ctx} {ns p:Nat} {A:Nat->Prop} {μ lam:Nat->Nat} {s:St} {a:Act} {w:World} {e:Eff}
theorem fill_rep (hI:I.Ok N) (R:Rel N c ns A μ lam s a w) (place:Nat->Option (Nat×Nat)) : ∀ (parts:List (Nat×Operand)) (ps:List (Nat×Nat×Opd)) (cells:Array Value) (cs cs' : List V),
 (parts.length=ps.length /\ ∀ (i:Nat) (q:Nat×Nat×Opd),ps[i]? = some q -> ∃ x,parts[i]? = some x/\place x.1=some (q.1,q.2.1)/\opd I x.2=some q.2.2) ->
 RepL w A N.nm μ s.heap cells.toList cs->fillParts N.G cs s ps=some cs' ->
 ∃ cells',Instr.fill place cells (parts.map fun x=>(x.1,a.eval x.2))=some cells' /\ RepL w A N.nm μ s.heap cells'.toList cs'
 | [],ps,cells,cs,cs',hps,hrep,hf=>by
  obtain ⟨hl,_⟩:=hps
  have:ps=[]:=List.length_eq_zero_iff.1 (by simpa using hl.symm)
  subst this
  simp only [fillParts,Option.some.injEq] at hf; subst hf
  exact ⟨cells,rfl,hrep⟩
 | (i,x)::parts,[],cells,cs,cs',hps,hrep,hf=>by simp at hps
 | (i,x)::parts,(off,n,y)::ps,cells,cs,cs',hps,hrep,hf=>by
  obtain ⟨hl,hq⟩:=hps
  obtain ⟨q0,hq0,hpl,hop⟩:=hq 0 _ rfl
  simp only [List.getElem?_cons_zero,Option.some.injEq] at hq0; subst hq0
  simp only at hpl hop
  simp only [fillParts,Option.bind_eq_bind,Option.bind_eq_some_iff] at hf
  obtain ⟨v,hv,new,hnew,hf⟩:=hf
  split at hf
  ·rename_i hlen
   simp only [Option.bind_eq_some_iff] at hf
   obtain ⟨cs1,hw1,hf⟩:=hf
   have hr:=(opd_eval hI R hop hv).cells hnew
   obtain ⟨g1,g2,g3⟩:=wr_get hw1
   have hsz:(a.eval x).cells.size=n:=by have:=hr.1; simp at this; omega
   obtain ⟨f1,f2⟩:=fold_set off (a.eval x).cells.toList 0 cells
   have hrep1:RepL w A N.nm μ s.heap (((a.eval x).cells.toList.zipIdx 0).foldl (fun cs (x:Value×Nat)=>match x with | (c,j)=>cs.setIfInBounds (off+j) c) cells).toList cs1:=by
    refine hrep.splice hr hw1 _ (by simpa using f1) (fun k hk => ?_)
    simp only [Array.getElem?_toList]
    rw [f2 k]
    simp only [Nat.add_zero,Array.length_toList] at hk ⊢
    by_cases hc:off<=k/\k<off+(a.eval x).cells.size
    ·rw [if_pos ⟨hc.1,hc.2,hk⟩,if_pos hc]; simp
    ·rw [if_neg (by omega),if_neg hc]
   obtain ⟨cells',h1,h2⟩:=fill_rep hI R place parts ps _ cs1 cs' ⟨by simpa using hl,fun i q hi=>by
    obtain ⟨z,hz,hz2⟩:=hq (i+1) q (by simpa using hi)
    exact ⟨z,by simpa using hz,hz2⟩⟩ hrep1 hf
   refine ⟨cells', ?_,h2⟩
   have hcl:cells.size=cs.length:=by have:=hrep.1; simpa using this
   have hnot : ¬ (off+(a.eval x).cells.size>cells.size):=by omega
   simp only [List.map_cons,Instr.fill,hpl,hsz]
   rw [<- h1]
   have:(decide (n≠n)||decide (off+n>cells.size))=false:=by simp; omega
   simp only [this,Bool.false_eq_true,if_false]
   congr 1
   rw [<- Array.foldl_toList]
   simp
  ·simp at hf
theorem run_mapM_places {fields:Array Field} (h:fields.toList.all (fun f=>(typ P f.type).isSome)=true) :
 (fields.mapM (m:=Sem) fun f=>do pure (f.offset, <- Go.sizeOf f.type)).run P w = .ok (fields.map fun f=>(f.offset,(P.info? f.type).elim 0 (·.size))) w:=by
 have key : ∀ (l:List Field),l.all (fun f=>(typ P f.type).isSome)=true ->
  (l.mapM (m:=Sem) fun f=>do pure (f.offset, <- Go.sizeOf f.type)).run P w = .ok (l.map fun f=>(f.offset,(P.info? f.type).elim 0 (·.size))) w:=by
  intro l hl
  induction l with
  | nil=>simp
  | cons f l ih =>
   simp only [List.all_cons,Bool.and_eq_true] at hl
   obtain ⟨⟨ag,n⟩,hty⟩:=Option.isSome_iff_exists.1 hl.1
   obtain ⟨inf,g1,g2,g3,g4⟩:=typ_spec hty
   simp only [List.mapM_cons,Sem.run_bind,run_size g1,Result.andThen_ok,Sem.run_pure,ih hl.2]
   simp [g1]
 rw [Array.mapM_eq_mapM_toList]
 simp only [Sem.run_map,key _ h,Result.andThen_ok]
 congr 1
 apply Array.ext'
 simp
theorem zeroOf_spec {t:TypeId} {z:List V} (h:zeroOf P t=some z) : ∃ i v,P.info? t=some i/\i.zero=some v/\cellsOf v=some z /\ ∀ w,(zeroValue t).run P w = .ok v w:=by
 unfold zeroOf at h
 split at h
 ·rename_i i hi
  split at h
  ·rename_i v hv
   exact ⟨i,v,hi,hv,h,fun w=>by simp [zeroValue,run_info hi,hv]⟩
  ·simp at h
 ·simp at h
theorem s_build (hI:I.Ok N) (R:Rel N c ns A μ lam s a w) {t:TypeId} {z:List V} {parts:Array (Nat×Operand)} {ps:List (Nat×Nat×Opd)} {place:Nat->Option (Nat×Nat)}
 (hz:zeroOf P t=some z)
 (hu:(∃ fields,P.underlying t=some (.struct fields)/\fields.toList.all (fun f=>(typ P f.type).isSome)=true/\place=((fields.map fun f=>(f.offset,(P.info? f.type).elim 0 (·.size)))[·]?)) \/
   (∃ len el ag n,P.underlying t=some (.array len el)/\typ P el=some (ag,n)/\place=fun i=>some (i*n,n)))
 (hps:parts.toList.length=ps.length /\ ∀ (i:Nat) (q:Nat×Nat×Opd),ps[i]? = some q -> ∃ x,parts.toList[i]? = some x/\place x.1=some (q.1,q.2.1)/\opd I x.2=some q.2.2)
 (he:aeval N.G p s (.build z ps)=some e):Gives N A μ s w ((Instr.build t (parts.map fun (i,x)=>(i,a.eval x))).run P w) e:=by
 simp only [aeval,Option.bind_eq_bind,Option.bind_eq_some_iff,Option.some.injEq] at he
 obtain ⟨cs,hcs,rfl⟩:=he
 obtain ⟨i,v,hi,hv,hc,hrun⟩:=zeroOf_spec hz
 obtain ⟨cells',h1,h2⟩:=fill_rep hI R place parts.toList ps v.cells z cs hps (cellsOf_rep hc) hcs
 have hmap:(parts.map fun (i,x)=>(i,a.eval x)).toList=parts.toList.map fun x=>(x.1,a.eval x.2):=by simp
 refine ⟨.agg cells', ?_,⟨cells',rfl,h2⟩,rfl,rfl,rfl,rfl⟩
 rcases hu with ⟨fields,hf,hall,rfl⟩ | ⟨len,el,ag,n,hf,hty,rfl⟩
 ·simp only [Instr.build,Sem.run_bind,hrun w,Result.andThen_ok,run_und hf,run_mapM_places hall,hmap,h1,Sem.run_pure]
 ·obtain ⟨inf,g1,g2,g3,g4⟩:=typ_spec hty
  simp only [Instr.build,Sem.run_bind,hrun w,Result.andThen_ok,run_und hf,run_size g1,g2,hmap,h1,Sem.run_pure]
end
end Rg
end
