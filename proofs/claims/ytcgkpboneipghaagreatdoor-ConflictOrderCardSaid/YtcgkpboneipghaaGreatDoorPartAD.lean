/- Part of the proof of the laws of the package relyguardlaw30: an abstract machine for the program's functions, what they compute, and that the machine is the program's. No condition. (RgF RgG RgH) -/
import Derived.Test.YtcgkpboneipghaaGreatDoorPartAC
import Derived.Laws.StructEq
section
namespace Rg
open Go
def Plain (e:Eff):Prop:=e.adr=none/\e.loc=none/\e.wloc=none/\e.hp=[]
def Gives (N:Nam) (A:Nat->Prop) (μ:Nat->Nat) (s:St) (w:World) (r:Result Value) (e:Eff):Prop :=
 ∃ v,r = .ok v w/\RepV w A N.nm μ s.heap v e.val/\Plain e
section
variable {P:Program} {N:Nam} {I:Inv} {c:Ctx} {ns p:Nat} {A:Nat->Prop} {μ lam:Nat->Nat} {s:St} {a:Act} {w:World} {e:Eff}
theorem RepV.ip_inv {w:World} {A:Nat->Prop} {nm μ:Nat->Nat} {H:Nat->Option O} {v:Value} {cs:List T} (h:RepV w A nm μ H v (.t (.ip cs))) :
 ∃ (r off:Nat) (vf:Nat->Value),v = .pointer (some ⟨r,off,none⟩)/\A r/\(∀ (j:Nat) (x:T),cs[j]? = some x->w.cell? ⟨r,off+j,none⟩=some (vf j))/\(∀ (j:Nat) (x:T),cs[j]? = some x->RepT w A nm (vf j) x):=by
 cases h.t_inv with
 | ip r off _ vf hA hv hr=>exact ⟨r,off,vf,rfl,hA,hv,hr⟩
theorem RepV.mp_inv {w:World} {A:Nat->Prop} {nm μ:Nat->Nat} {H:Nat->Option O} {v:Value} {k i off sz:Nat} {rs:List (List V)} {frz:Bool}
 (h:RepV w A nm μ H v (.mp k i off)) (hk:H k=some (.rows sz rs frz)):v = .pointer (some ⟨μ k,i*sz+off,none⟩)/\i<rs.length:=by
 cases (h:RepC w A nm μ H v (.mp k i off)) with
 | mp _ _ _ sz' rs' frz' hk' hi=>rw [hk] at hk'; cases hk'; exact ⟨rfl,hi⟩
 | mb _ _ hk' => rw [hk] at hk'; cases hk'
 | dmp _ _ _ hk' => rw [hk] at hk'; cases hk'
theorem RepV.agg_inv {w:World} {A:Nat->Prop} {nm μ:Nat->Nat} {H:Nat->Option O} {v:Value} {cs:List V} (h:RepV w A nm μ H v (.agg cs)) :
 ∃ vs,v = .agg vs/\RepL w A nm μ H vs.toList cs:=h
theorem row_cells (R:Rel N c ns A μ lam s a w) {k sz i:Nat} {rs:List (List V)} {frz:Bool} {row:List V} (hk:s.heap k=some (.rows sz rs frz)) (hrow:rs[i]? = some row) :
 ∃ vs:List Value,RepL w A N.nm μ s.heap vs row /\ ∀ (j:Nat) (v:Value),vs[j]? = some v->w.cell? ⟨μ k,i*sz+j,none⟩=some v:=by
 obtain ⟨cc,e0,z,h1,h2,h3,h4,h5⟩:=R.heap k _ hk
 have hi:i<rs.length:=(List.getElem?_eq_some_iff.1 hrow).1
 have hrl:=h4 i row hrow
 have hle:i*sz+sz<=cc.size:=by
  have:(i+1)*sz<=rs.length*sz:=Nat.mul_le_mul_right _ hi
  rw [Nat.succ_mul] at this; omega
 refine ⟨(cc.toList.drop (i*sz)).take sz,⟨by simp; omega,fun j x hj => ?_⟩,fun j v hj => ?_⟩
 ·have hjl:j<row.length:=(List.getElem?_eq_some_iff.1 hj).1
  obtain ⟨v,hv,hr⟩:=h5 i row j x hrow hj
  refine ⟨v, ?_,hr⟩
  simp only [List.getElem?_take,List.getElem?_drop,Array.getElem?_toList]
  rw [if_pos (by omega)]; exact hv
 ·simp only [List.getElem?_take,List.getElem?_drop,Array.getElem?_toList] at hj
  split at hj
  ·simp [World.cell?,h1,hj]
  ·simp at hj
theorem s_mv (hI:I.Ok N) (R:Rel N c ns A μ lam s a w) {x:Operand} {y:Opd} (hx:opd I x=some y) (he:aeval N.G p s (.mv y)=some e) :
 RepV w A N.nm μ s.heap (a.eval x) e.val/\Plain e:=by
 simp only [aeval,Option.bind_eq_bind,Option.bind_eq_some_iff,Option.some.injEq] at he
 obtain ⟨v,hv,rfl⟩:=he
 exact ⟨opd_eval hI R hx hv,rfl,rfl,rfl,rfl⟩
theorem s_pick (hI:I.Ok N) (R:Rel N c ns A μ lam s a w) {xc xa xb:Operand} {yc ya yb:Opd} (hc:opd I xc=some yc) (ha:opd I xa=some ya) (hb:opd I xb=some yb)
 (he:aeval N.G p s (.pick yc ya yb)=some e) : ∃ t,a.eval xc = .bool t/\RepV w A N.nm μ s.heap (if t then a.eval xa else a.eval xb) e.val/\Plain e:=by
 simp only [aeval,Option.bind_eq_bind,Option.bind_eq_some_iff,Option.some.injEq] at he
 obtain ⟨t,ht,v,hv,rfl⟩:=he
 refine ⟨t,bool_eval hI R hc ht, ?_,rfl,rfl,rfl,rfl⟩
 cases t
 ·exact opd_eval hI R hb hv
 ·exact opd_eval hI R ha hv
theorem s_loadL (R:Rel N c ns A μ lam s a w) {x:Operand} {y:Opd} {t:TypeId} {ag:Bool} {n:Nat} (hx:opd I x=some y) (ht:typ P t=some (ag,n))
 (he:aeval N.G p s (.loadL ag n y)=some e):Gives N A μ s w ((Instr.loadAt t (a.eval x)).run P w) e:=by
 simp only [aeval,Option.bind_eq_bind,Option.bind_eq_some_iff,Option.some.injEq,Prod.exists] at he
 obtain ⟨b,o,hr,cs,hb,r,hrd,v,hw,rfl⟩:=he
 obtain ⟨_,cc,e0,h1,h2⟩:=R.loc b cs hb
 obtain ⟨h3,h4,h5⟩:=h2.rd hrd
 refine ⟨wrapV ag ((cc.toList.drop o).take n), ?_,h3.wrap hw,rfl,rfl,rfl,rfl⟩
 have hl:=run_loadVar (w:=w) ht (lam b) o ((cc.toList.drop o).take n) (by simp at h4 ⊢; omega) (fun j v hj=>by
  simp only [List.getElem?_take,List.getElem?_drop,Array.getElem?_toList] at hj
  split at hj
  ·simp [World.cell?,h1,hj]
  ·simp at hj)
 simp [Instr.loadAt,ref_eval R hx hr hb,Instr.sureAddr,hl]
theorem s_load (hI:I.Ok N) (R:Rel N c ns A μ lam s a w) {x:Operand} {y:Opd} {t:TypeId} {ag:Bool} {n:Nat} (hx:opd I x=some y) (ht:typ P t=some (ag,n))
 (he:aeval N.G p s (.load ag n y)=some e):Gives N A μ s w ((Instr.loadAt t (a.eval x)).run P w) e:=by
 simp only [aeval,Option.bind_eq_bind,Option.bind_eq_some_iff] at he
 obtain ⟨u,hu,he⟩:=he
 have hrep:=opd_eval hI R hx hu
 split at he
 ·rename_i k i off
  split at he
  ·rename_i sz rs frz hk
   simp only [Option.bind_eq_some_iff,Option.some.injEq] at he
   obtain ⟨row,hrow,r,hrd,v,hw,rfl⟩:=he
   obtain ⟨hv,_⟩:=RepV.mp_inv hrep hk
   obtain ⟨vs,h1,h2⟩:=row_cells R hk hrow
   obtain ⟨h3,h4,h5⟩:=h1.rd hrd
   refine ⟨wrapV ag ((vs.drop off).take n), ?_,h3.wrap hw,rfl,rfl,rfl,rfl⟩
   have hl:=run_loadVar (w:=w) ht (μ k) (i*sz+off) ((vs.drop off).take n) (by simp; omega) (fun j v hj=>by
    simp only [List.getElem?_take,List.getElem?_drop] at hj
    split at hj
    ·rw [Nat.add_assoc]; exact h2 _ v hj
    ·simp at hj)
   simp [Instr.loadAt,hv,Instr.sureAddr,hl]
  ·simp at he
 ·rename_i cs
  simp only [Option.bind_eq_some_iff,Option.some.injEq] at he
  obtain ⟨r,hrd,v,hw,rfl⟩:=he
  obtain ⟨r0,off,vf,hv,hA,h1,h2⟩:=RepV.ip_inv hrep
  have h3:RepL w A N.nm μ s.heap ((List.range cs.length).map vf) (cs.map V.t):=by
   refine ⟨by simp,fun j x hj => ?_⟩
   simp only [List.getElem?_map,Option.map_eq_some_iff] at hj
   obtain ⟨y,hy,rfl⟩:=hj
   have hjl:j<cs.length:=(List.getElem?_eq_some_iff.1 hy).1
   exact ⟨vf j,by simp [hjl], .t (h2 j y hy)⟩
  have hrd' : rd (cs.map V.t) 0 n=some (r.map V.t):=by
   unfold rd at hrd ⊢
   split at hrd
   ·rename_i hle
    simp only [Option.some.injEq] at hrd; subst hrd
    rw [if_pos (by simpa using hle)]
    simp
   ·simp at hrd
  obtain ⟨h4,h5,h6⟩:=h3.rd hrd'
  refine ⟨wrapV ag ((((List.range cs.length).map vf).drop 0).take n), ?_,h4.wrap hw,rfl,rfl,rfl,rfl⟩
  have hl:=run_loadVar (w:=w) ht r0 off ((((List.range cs.length).map vf).drop 0).take n) (by simp at h5 ⊢; omega) (fun j v hj=>by
   simp only [List.drop_zero,List.getElem?_take] at hj
   split at hj
   ·rename_i hjn
    simp only [List.getElem?_map,Option.map_eq_some_iff] at hj
    obtain ⟨j',hj',rfl⟩:=hj
    have:j<cs.length:=by
     have:=(List.getElem?_eq_some_iff.1 hj').1
     simpa using this
    simp only [List.getElem?_range this,Option.some.injEq] at hj'; subst hj'
    exact h1 j _ (List.getElem?_eq_getElem this)
   ·simp at hj)
  simp only [Instr.loadAt,hv,Instr.sureAddr,Sem.run_bind,Sem.run_pure,Result.andThen_ok,hl]
 ·simp at he
end
end Rg
end
section
namespace Rg
open Go
theorem run_bin {P:Program} {w:World} {A:Nat->Prop} {nm:Nat->Nat} {op:BinOp} {x y r:T} {v u:Value} (h:binT op x y=some r) (hx:RepT w A nm v x) (hy:RepT w A nm u y)
 (t:TypeId) (xo yo:Operand) : ∃ z,(do eqGuard op t xo yo v u; binOp op t v u:Sem Value).run P w = .ok z w/\RepT w A nm z r:=by
 cases hx <;> (try (simp [binT] at h; done)) <;> cases hy <;> (try (simp [binT] at h; done))
 ·rename_i k m k' n
  simp only [binT] at h
  cases op <;> simp only at h
  case shl =>
   split at h
   ·simp at h
   ·rename_i hn
    simp only [Option.some.injEq] at h; subst h
    exact ⟨_,by simp [eqGuard,binOp,Op.shift,hn], .int _ _⟩
  case shr =>
   split at h
   ·simp at h
   ·rename_i hn
    simp only [Option.some.injEq] at h; subst h
    exact ⟨_,by simp [eqGuard,binOp,Op.shift,hn], .int _ _⟩
  case quo =>
   split at h
   ·rename_i hk; subst hk
    split at h
    ·simp at h
    ·rename_i hn
     simp only [Option.some.injEq] at h; subst h
     exact ⟨_,by simp [eqGuard,binOp,Op.intDiv,hn], .int _ _⟩
   ·simp at h
  case rem =>
   split at h
   ·rename_i hk; subst hk
    split at h
    ·simp at h
    ·rename_i hn
     simp only [Option.some.injEq] at h; subst h
     exact ⟨_,by simp [eqGuard,binOp,Op.intDiv,hn], .int _ _⟩
   ·simp at h
  case add | sub | mul =>
   split at h
   ·rename_i hk; subst hk
    simp only [Option.some.injEq] at h; subst h
    exact ⟨_,by simp [eqGuard,binOp,Op.intArith], .int _ _⟩
   ·simp at h
  case and | or | xor | andNot =>
   split at h
   ·rename_i hk; subst hk
    simp only [Option.some.injEq] at h; subst h
    refine ⟨_, ?_, .int _ _⟩
    simp only [eqGuard,binOp,Op.intBits]
    simp
   ·simp at h
  all_goals
   split at h
   ·rename_i hk; subst hk
    simp only [Option.some.injEq] at h; subst h
    exact ⟨_,by simp [eqGuard,binOp,Op.intCmp], .bool _⟩
   ·simp at h
 ·rename_i b c
  simp only [binT] at h
  cases op <;> simp only at h <;> (try (simp at h; done))
  case add =>
   split at h
   ·rename_i hle
    simp only [Option.some.injEq] at h; subst h
    refine ⟨_, ?_, .str _⟩
    have : ¬ ((b.size+c.size:Nat):Int)>IntKind.i64.max:=by
     have:IntKind.i64.max=9223372036854775807:=by decide
     omega
    simp only [eqGuard,binOp,Op.stringOp]
    simp
    omega
   ·simp at h
  all_goals
   simp only [Option.some.injEq] at h; subst h
   exact ⟨_,by simp [eqGuard,binOp,Op.stringOp], .bool _⟩
section
variable {P:Program} {N:Nam} {I:Inv} {c:Ctx} {ns p:Nat} {A:Nat->Prop} {μ lam:Nat->Nat} {s:St} {a:Act} {w:World} {e:Eff}
theorem s_bin (hI:I.Ok N) (R:Rel N c ns A μ lam s a w) {x y:Operand} {x' y' : Opd} {op:BinOp} (hx:opd I x=some x') (hy:opd I y=some y')
 (he:aeval N.G p s (.bin op x' y')=some e) (t:TypeId) :
 Gives N A μ s w ((do eqGuard op t x y (a.eval x) (a.eval y); binOp op t (a.eval x) (a.eval y):Sem Value).run P w) e:=by
 simp only [aeval,Option.bind_eq_bind,Option.bind_eq_some_iff] at he
 obtain ⟨u,hu,v,hv,he⟩:=he
 split at he
 ·rename_i b d
  simp only [Option.bind_eq_some_iff,Option.some.injEq] at he
  obtain ⟨r,hr,rfl⟩:=he
  obtain ⟨z,hz,hrep⟩:=run_bin (P:=P) hr (opd_eval hI R hx hu).t_inv (opd_eval hI R hy hv).t_inv t x y
  exact ⟨z,hz,(RepC.t hrep).toV,rfl,rfl,rfl,rfl⟩
 ·simp at he
theorem s_eqb (hI:I.Ok N) (R:Rel N c ns A μ lam s a w) {x y:Operand} {x' y' : Opd} {op:BinOp} {neg:Bool} (hx:opd I x=some x') (hy:opd I y=some y')
 (he:aeval N.G p s (.eqb neg x' y')=some e) {t:TypeId} (ht:P.underlying t=some .bool) (hop:op=if neg then .neq else .eql) :
 Gives N A μ s w ((do eqGuard op t x y (a.eval x) (a.eval y); binOp op t (a.eval x) (a.eval y):Sem Value).run P w) e:=by
 simp only [aeval,Option.bind_eq_bind,Option.bind_eq_some_iff,Option.some.injEq] at he
 obtain ⟨b,hb,d,hd,rfl⟩:=he
 rw [bool_eval hI R hx hb,bool_eval hI R hy hd]
 subst hop
 refine ⟨.bool ((b==d) != neg), ?_,(RepC.t (.bool _)).toV,rfl,rfl,rfl,rfl⟩
 have h1 : ∀ n,(Op.equalIn (n+1) t (.bool b) (.bool d)).run P w = .ok (b==d) w:=fun n=>by simp [Op.equalIn,run_und ht]
 have h2:(Op.equal t (.bool b) (.bool d)).run P w = .ok (b==d) w:=h1 9999
 cases neg <;> simp [eqGuard,binOp,h2]
theorem run_eqFields {fs:List Field} {xs ys:Array Value} {as bs:List V} {i:Nat} {ks:List Nat} {r:Bool} {μ:Nat->Nat} {H:Nat->Option O} {nm:Nat->Nat} (d:Nat)
 (hf:plainFields P i fs=some ks) (hx:RepL w A nm μ H xs.toList as) (hy:RepL w A nm μ H ys.toList bs)
 (he:eqCells ks (as.drop i) (bs.drop i)=some r):(Op.eqFields (d+1) xs ys fs).run P w = .ok r w:=by
 induction fs generalizing i r ks with
 | nil =>
   simp only [plainFields,Option.some.injEq] at hf; subst hf
   unfold eqCells at he
   split at he <;> simp_all [Op.eqFields]
 | cons f fs ih =>
   simp only [plainFields,Option.bind_eq_bind,Option.bind_eq_some_iff] at hf
   obtain ⟨k,hk,ks',hks,hf⟩:=hf
   split at hf
   ·rename_i hc
    obtain ⟨hn,ho,htyp⟩:=hc
    simp only [Option.some.injEq] at hf; subst hf
    unfold eqCells at he
    split at he
    ·simp_all
    ·rename_i n ns xa xs' ya ys' e1 e2 e3
     cases e1
     simp only [Option.bind_eq_bind,Option.bind_eq_some_iff,Option.some.injEq] at he
     obtain ⟨q,hq,q',hq',rfl⟩:=he
     have ea:as[i]? = some xa:=by have:=congrArg (·[0]?) e2; simpa using this
     have eb:bs[i]? = some ya:=by have:=congrArg (·[0]?) e3; simpa using this
     have ea' : as.drop (i+1)=xs' := by have:=congrArg List.tail e2; simpa using this
     have eb' : bs.drop (i+1)=ys' := by have:=congrArg List.tail e3; simpa using this
     obtain ⟨v,hv,hvr⟩:=hx.2 i _ ea
     obtain ⟨u,hu,hur⟩:=hy.2 i _ eb
     obtain ⟨inf,g1,g2,g3,g4⟩:=typ_spec htyp
     have ih' := ih hks (by rw [ea',eb']; exact hq')
     have hpx:(part f.type xs f.offset).run P w = .ok v w:=by
      simp only [Array.getElem?_toList] at hv
      simp [part,g4 w,ho,hv]
     have hpy:(part f.type ys f.offset).run P w = .ok u w:=by
      simp only [Array.getElem?_toList] at hu
      simp [part,g4 w,ho,hu]
     have heq:(Op.equalIn (d+1) f.type v u).run P w = .ok q w:=by
      unfold eqCell at hq
      split at hq
      ·split at hq
       ·rename_i hkk
        obtain ⟨rfl,rfl⟩:=hkk
        simp only [Option.some.injEq] at hq; subst hq
        cases hvr.toV.int_inv; cases hur.toV.int_inv
        unfold kindOf at hk
        split at hk <;> simp at hk
        rename_i hty; simp [Op.equalIn,run_und hty]
       ·simp at hq
      ·split at hq
       ·rename_i hkk; subst hkk
        simp only [Option.some.injEq] at hq; subst hq
        cases hvr.toV.bool_inv; cases hur.toV.bool_inv
        unfold kindOf at hk
        split at hk <;> simp at hk
        rename_i hty; simp [Op.equalIn,run_und hty]
       ·simp at hq
      ·split at hq
       ·rename_i hkk; subst hkk
        simp only [Option.some.injEq] at hq; subst hq
        cases hvr.toV.str_inv; cases hur.toV.str_inv
        unfold kindOf at hk
        split at hk <;> simp at hk
        rename_i hty; simp [Op.equalIn,run_und hty,beq_toListBytes]
       ·simp at hq
      ·simp at hq
     simp only [Op.eqFields,ne_eq,hn,not_false_eq_true,if_true,Sem.run_bind,hpx,hpy,Result.andThen_ok,heq]
     cases q
     ·simp
     ·simpa using ih'
    ·simp at he
   ·simp at hf
end
end Rg
end
section
namespace Rg
open Go
section
variable {P:Program} {N:Nam} {I:Inv} {c:Ctx} {ns p:Nat} {A:Nat->Prop} {μ lam:Nat->Nat} {s:St} {a:Act} {w:World} {e:Eff}
theorem s_un (hI:I.Ok N) (R:Rel N c ns A μ lam s a w) {x:Operand} {x' : Opd} {op:UnOp} (hx:opd I x=some x') (he:aeval N.G p s (.un op x')=some e) :
 Gives N A μ s w ((Op.unary op (a.eval x)).run P w) e:=by
 simp only [aeval,Option.bind_eq_bind,Option.bind_eq_some_iff] at he
 obtain ⟨u,hu,he⟩:=he
 split at he
 ·rename_i b
  simp only [Option.bind_eq_some_iff,Option.some.injEq] at he
  obtain ⟨r,hr,rfl⟩:=he
  have hrep:=(opd_eval hI R hx hu).t_inv
  generalize a.eval x=v at hrep
  unfold unT at hr
  split at hr <;> simp only [Option.some.injEq,reduceCtorEq] at hr <;> subst hr <;> cases hrep
  ·exact ⟨_,by simp [Op.unary,Op.intArith],(RepC.t (.int _ _)).toV,rfl,rfl,rfl,rfl⟩
  ·refine ⟨_, ?_,(RepC.t (.int _ _)).toV,rfl,rfl,rfl,rfl⟩
   simp only [Op.unary,Op.intBits]
   simp
  ·exact ⟨_,by simp [Op.unary],(RepC.t (.bool _)).toV,rfl,rfl,rfl,rfl⟩
 ·simp at he
theorem s_conv (hI:I.Ok N) (R:Rel N c ns A μ lam s a w) {x:Operand} {x' : Opd} {k k0:IntKind} {src dst:TypeId} (hx:opd I x=some x')
 (he:aeval N.G p s (.conv k x')=some e) (h1:P.underlying src=some (.int k0)) (h2:P.underlying dst=some (.int k)) :
 Gives N A μ s w ((convert src dst (a.eval x)).run P w) e:=by
 simp only [aeval,Option.bind_eq_bind,Option.bind_eq_some_iff,Option.some.injEq] at he
 obtain ⟨n,hn,rfl⟩:=he
 obtain ⟨j,hj⟩:=int_eval hI R hx hn
 exact ⟨_,by simp [convert,run_und h1,run_und h2,hj,Conv.intToInt],(RepC.t (.int _ _)).toV,rfl,rfl,rfl,rfl⟩
theorem s_nilchk (hI:I.Ok N) (R:Rel N c ns A μ lam s a w) {x:Operand} {x' : Opd} (hx:opd I x=some x') (he:aeval N.G p s (.nilchk x')=some e) (o:Oper) (ho:o.op = .nilCheck x) :
 ∃ v,(execOp a.eval o).run P w = .ok (.value v) w/\RepV w A N.nm μ s.heap v e.val/\Plain e:=by
 simp only [aeval,Option.bind_eq_bind,Option.bind_eq_some_iff] at he
 obtain ⟨u,hu,he⟩:=he
 have hrep:=opd_eval hI R hx hu
 have k1 : ∀ ad,a.eval x = .pointer (some ad)->(execOp a.eval o).run P w = .ok (.value (a.eval x)) w:=by
  intro ad h; simp [execOp,ho,h]
 have k2 : ∀ f b d,a.eval x = .func (.func f) b d->(execOp a.eval o).run P w = .ok (.value (a.eval x)) w:=by
  intro f b d h; simp [execOp,ho,h]
 split at he
 ·rename_i k i off
  split at he <;> simp only [Option.some.injEq,reduceCtorEq] at he
  rename_i hk
  subst he
  obtain ⟨hv,_⟩:=hrep.mp_inv hk
  exact ⟨_,k1 _ hv,hrep,rfl,rfl,rfl,rfl⟩
 ·simp only [Option.some.injEq] at he; subst he
  obtain ⟨r,off,vf,hv,_⟩:=RepV.ip_inv hrep
  exact ⟨_,k1 _ hv,hrep,rfl,rfl,rfl,rfl⟩
 ·simp only [Option.some.injEq] at he; subst he
  refine ⟨_, ?_,hrep,rfl,rfl,rfl,rfl⟩
  generalize hv:a.eval x=v at hrep
  cases (hrep:RepC w A N.nm μ s.heap v _) with
  | fn f _ _ va vb=>rw [<- hv]; exact k2 _ _ _ hv
 ·simp only [Option.some.injEq] at he; subst he
  refine ⟨_, ?_,hrep,rfl,rfl,rfl,rfl⟩
  generalize hv:a.eval x=v at hrep
  cases hrep.t_inv with
  | fn f _ _ va vb=>rw [<- hv]; exact k2 _ _ _ hv
 ·simp only [Option.some.injEq] at he; subst he
  refine ⟨_, ?_,hrep,rfl,rfl,rfl,rfl⟩
  generalize hv:a.eval x=v at hrep
  cases hrep.t_inv with
  | fa f c vc=>rw [<- hv]; exact k2 _ _ _ hv
 ·simp at he
theorem run_fieldAt {t:TypeId} {fields:Array Field} {f:Field} {i n r off:Nat} {ag:Bool} {v:Value}
 (ht:P.underlying t=some (.struct fields)) (hf:fields[i]? = some f) (hty:typ P f.type=some (ag,n)) (hn:0<n) (hv:v = .pointer (some ⟨r,off,none⟩)) :
 (Instr.fieldAt t v i).run P w = .ok (.pointer (some ⟨r,off+f.offset,none⟩)) w:=by
 obtain ⟨inf,g1,g2,g3,g4⟩:=typ_spec hty
 have:inf.size≠0:=by omega
 simp [Instr.fieldAt,run_und ht,hf,hv,Instr.sureAddr,fieldPlace,run_size g1,this,addr_add]
theorem s_faddrL (R:Rel N c ns A μ lam s a w) {x:Operand} {x' : Opd} {t:TypeId} {fields:Array Field} {f:Field} {i n:Nat} {ag:Bool} (hx:opd I x=some x')
 (ht:P.underlying t=some (.struct fields)) (hf:fields[i]? = some f) (hty:typ P f.type=some (ag,n)) (hn:0<n)
 (he:aeval N.G p s (.faddrL f.offset x')=some e) :
 ∃ v,(Instr.fieldAt t (a.eval x) i).run P w = .ok v w/\RepV w A N.nm μ s.heap v e.val/\e.loc=none/\e.wloc=none/\e.hp=[] /\
  ∀ b o,e.adr=some (b,o)->(s.loc b).isSome=true/\v = .pointer (some ⟨lam b,o,none⟩):=by
 simp only [aeval,Option.bind_eq_bind,Option.bind_eq_some_iff,Option.some.injEq,Prod.exists] at he
 obtain ⟨b,o,hr,cs,hb,rfl⟩:=he
 have hv:=ref_eval R hx hr hb
 refine ⟨_,run_fieldAt ht hf hty hn hv,trivial,rfl,rfl,rfl, ?_⟩
 intro b' o' h
 simp only [Option.some.injEq,Prod.mk.injEq] at h
 obtain ⟨rfl,rfl⟩:=h
 exact ⟨by rw [hb]; rfl,rfl⟩
theorem ip_drop {r off:Nat} {cs:List T} {vf:Nat->Value} {nm:Nat->Nat} {H:Nat->Option O} (n:Nat) (hA:A r) (hv : ∀ (j:Nat) (x:T),cs[j]? = some x->w.cell? ⟨r,off+j,none⟩=some (vf j))
 (hr : ∀ (j:Nat) (x:T),cs[j]? = some x->RepT w A nm (vf j) x):RepV w A nm μ H (.pointer (some ⟨r,off+n,none⟩)) (.t (.ip (cs.drop n))) :=
 (RepC.t (.ip r (off+n) (cs.drop n) (fun j=>vf (n+j)) hA (fun j x hj=>by rw [Nat.add_assoc]; exact hv _ x (by simpa using hj)) (fun j x hj=>hr _ x (by simpa using hj)))).toV
theorem s_faddr (hI:I.Ok N) (R:Rel N c ns A μ lam s a w) {x:Operand} {x' : Opd} {t:TypeId} {fields:Array Field} {f:Field} {i n:Nat} {ag:Bool} (hx:opd I x=some x')
 (ht:P.underlying t=some (.struct fields)) (hf:fields[i]? = some f) (hty:typ P f.type=some (ag,n)) (hn:0<n)
 (he:aeval N.G p s (.faddr f.offset x')=some e):Gives N A μ s w ((Instr.fieldAt t (a.eval x) i).run P w) e:=by
 simp only [aeval,Option.bind_eq_bind,Option.bind_eq_some_iff] at he
 obtain ⟨u,hu,he⟩:=he
 have hrep:=opd_eval hI R hx hu
 split at he
 ·rename_i k i' off
  split at he <;> simp only [Option.some.injEq,reduceCtorEq] at he
  rename_i sz rs frz hk
  subst he
  obtain ⟨hv,hi⟩:=hrep.mp_inv hk
  refine ⟨_,run_fieldAt ht hf hty hn hv, ?_,rfl,rfl,rfl,rfl⟩
  rw [Nat.add_assoc]
  exact (RepC.mp k i' _ sz rs frz hk hi).toV
 ·simp only [Option.some.injEq] at he; subst he
  obtain ⟨r,off,vf,hv,hA,h1,h2⟩:=RepV.ip_inv hrep
  exact ⟨_,run_fieldAt ht hf hty hn hv,ip_drop _ hA h1 h2,rfl,rfl,rfl,rfl⟩
 ·simp at he
theorem run_part {t:TypeId} {ag:Bool} {n off:Nat} {cs:Array Value} (h:typ P t=some (ag,n)) (hle:off+n<=cs.size) :
 (part t cs off).run P w = .ok (wrapV ag ((cs.toList.drop off).take n)) w:=by
 obtain ⟨inf,g1,g2,g3,g4⟩:=typ_spec h
 cases ag with
 | true =>
   simp only [part,Sem.run_bind,g4 w,Result.andThen_ok,if_true,run_size g1,Sem.run_pure,wrapV,g2]
   congr 2
   apply Array.ext'
   simp [Array.toList_extract,List.extract_eq_take_drop]
 | false =>
   have hn:=g3 rfl
   subst hn
   have hlt:off<cs.size:=by omega
   simp only [part,Sem.run_bind,g4 w,Result.andThen_ok,Bool.false_eq_true,if_false,Array.getElem?_eq_getElem hlt,Sem.run_pure,wrapV]
   congr 1
   rw [List.drop_eq_getElem_cons (by simpa using hlt)]
   simp
theorem s_field (hI:I.Ok N) (R:Rel N c ns A μ lam s a w) {x:Operand} {x' : Opd} {t:TypeId} {fields:Array Field} {f:Field} {i n:Nat} {ag:Bool} (hx:opd I x=some x')
 (ht:P.underlying t=some (.struct fields)) (hf:fields[i]? = some f) (hty:typ P f.type=some (ag,n))
 (he:aeval N.G p s (.field ag f.offset n x')=some e):Gives N A μ s w ((Instr.field t (a.eval x) i).run P w) e:=by
 simp only [aeval,Option.bind_eq_bind,Option.bind_eq_some_iff] at he
 obtain ⟨u,hu,he⟩:=he
 split at he
 ·rename_i cs
  simp only [Option.bind_eq_some_iff,Option.some.injEq] at he
  obtain ⟨r,hr,v,hw,rfl⟩:=he
  obtain ⟨vs,hvs,hl⟩:=(opd_eval hI R hx hu).agg_inv
  obtain ⟨h1,h2,h3⟩:=hl.rd hr
  refine ⟨_, ?_,h1.wrap hw,rfl,rfl,rfl,rfl⟩
  simp [Instr.field,run_und ht,hf,hvs,asAgg,run_part (P:=P) (w:=w) hty (by simpa using h2)]
 ·simp at he
theorem s_idxA (hI:I.Ok N) (R:Rel N c ns A μ lam s a w) {x i:Operand} {x' i' : Opd} {t el:TypeId} {len n:Nat} {ag:Bool} (hx:opd I x=some x') (hi:opd I i=some i')
 (ht:P.underlying t=some (.array len el)) (hty:typ P el=some (ag,n))
 (he:aeval N.G p s (.idxA ag len n x' i')=some e):Gives N A μ s w ((Instr.index t (a.eval x) (a.eval i)).run P w) e:=by
 simp only [aeval,Option.bind_eq_bind,Option.bind_eq_some_iff] at he
 obtain ⟨m,hm,u,hu,he⟩:=he
 obtain ⟨k,hk⟩:=int_eval hI R hi hm
 split at he
 ·rename_i cs
  split at he
  ·rename_i hb
   simp only [Option.bind_eq_some_iff,Option.some.injEq] at he
   obtain ⟨r,hr,v,hw,rfl⟩:=he
   obtain ⟨vs,hvs,hl⟩:=(opd_eval hI R hx hu).agg_inv
   obtain ⟨h1,h2,h3⟩:=hl.rd hr
   obtain ⟨inf,g1,g2,g3,g4⟩:=typ_spec hty
   refine ⟨_, ?_,h1.wrap hw,rfl,rfl,rfl,rfl⟩
   simp [Instr.index,hk,asIntOf,run_und ht,hvs,hb,run_size g1,g2,run_part (P:=P) (w:=w) hty (by simpa using h2)]
  ·simp at he
 ·simp at he
theorem s_idxS (hI:I.Ok N) (R:Rel N c ns A μ lam s a w) {x i:Operand} {x' i' : Opd} {t:TypeId} (hx:opd I x=some x') (hi:opd I i=some i')
 (ht:P.underlying t=some .string)
 (he:aeval N.G p s (.idxS x' i')=some e):Gives N A μ s w ((Instr.index t (a.eval x) (a.eval i)).run P w) e:=by
 simp only [aeval,Option.bind_eq_bind,Option.bind_eq_some_iff] at he
 obtain ⟨m,hm,u,hu,he⟩:=he
 obtain ⟨k,hk⟩:=int_eval hI R hi hm
 split at he
 ·rename_i b
  split at he
  ·rename_i hb
   simp only [Option.bind_eq_some_iff,Option.some.injEq] at he
   obtain ⟨r,hr,rfl⟩:=he
   have hv:=(opd_eval hI R hx hu).str_inv
   refine ⟨_, ?_,(RepC.t (.int _ _)).toV,rfl,rfl,rfl,rfl⟩
   simp [Instr.index,hk,asIntOf,run_und ht,hv,hb,hr]
  ·simp at he
 ·simp at he
theorem s_extr (hI:I.Ok N) (R:Rel N c ns A μ lam s a w) {x:Operand} {x' : Opd} {i:Nat} (hx:opd I x=some x')
 (he:aeval N.G p s (.extr x' i)=some e):Gives N A μ s w ((Instr.extract (a.eval x) i).run P w) e:=by
 simp only [aeval,Option.bind_eq_bind,Option.bind_eq_some_iff] at he
 obtain ⟨u,hu,he⟩:=he
 split at he
 ·rename_i cs
  simp only [Option.bind_eq_some_iff,Option.some.injEq] at he
  obtain ⟨v,hv,rfl⟩:=he
  obtain ⟨vs,hvs,hl,h1⟩:=opd_eval hI R hx hu
  obtain ⟨z,hz,hr⟩:=h1 i v hv
  refine ⟨z, ?_,hr.toV,rfl,rfl,rfl,rfl⟩
  simp [Instr.extract,hvs,hz]
 ·simp at he
theorem RepV.len_inv {w:World} {A:Nat->Prop} {nm μ:Nat->Nat} {s:St} {v:Value} {x:V} {n:Nat} (h:RepV w A nm μ s.heap v x) (hn:lenOf s x=some n) :
 ∃ ad cap,v = .slice ad n cap:=by
 unfold lenOf at hn
 split at hn
 ·simp only [Option.some.injEq] at hn; subst hn
  cases h.t_inv; exact ⟨_,_,rfl⟩
 ·simp only [Option.some.injEq] at hn; subst hn
  cases h.t_inv <;> exact ⟨_,_,rfl⟩
 ·split at hn <;> simp only [Option.some.injEq,reduceCtorEq] at hn
  rename_i hk; subst hn
  cases (h:RepC w A nm μ s.heap v _) with
  | ms=>exact ⟨_,_,rfl⟩
  | dms _ _ _ hk' => rw [hk] at hk'; cases hk'
 ·simp at hn
theorem s_len (hI:I.Ok N) (R:Rel N c ns A μ lam s a w) {x:Operand} {x' : Opd} {t el ty:TypeId} (hx:opd I x=some x') (ht:P.underlying t=some (.slice el))
 (he:aeval N.G p s (.len x')=some e):Gives N A μ s w ((Builtin.len_ #[t] ty #[a.eval x]).run P w) e:=by
 simp only [aeval,Option.bind_eq_bind,Option.bind_eq_some_iff,Option.some.injEq] at he
 obtain ⟨u,hu,n,hn,rfl⟩:=he
 obtain ⟨ad,cap,hv⟩:=(opd_eval hI R hx hu).len_inv hn
 refine ⟨_, ?_,(RepC.t (.int _ _)).toV,rfl,rfl,rfl,rfl⟩
 simp [Builtin.len_,run_und ht,hv,goInt]
theorem s_slen (hI:I.Ok N) (R:Rel N c ns A μ lam s a w) {x:Operand} {x' : Opd} {t ty:TypeId} (hx:opd I x=some x') (ht:P.underlying t=some .string)
 (he:aeval N.G p s (.slen x')=some e):Gives N A μ s w ((Builtin.len_ #[t] ty #[a.eval x]).run P w) e:=by
 simp only [aeval,Option.bind_eq_bind,Option.bind_eq_some_iff] at he
 obtain ⟨u,hu,he⟩:=he
 split at he
 ·simp only [Option.some.injEq] at he; subst he
  have hv:=(opd_eval hI R hx hu).str_inv
  refine ⟨_, ?_,(RepC.t (.int _ _)).toV,rfl,rfl,rfl,rfl⟩
  simp [Builtin.len_,run_und ht,hv,goInt]
 ·simp at he
theorem s_lenA {x:Value} {n:Nat} {t el ty:TypeId} (ht:P.underlying t=some (.array n el))
 (he:aeval N.G p s (.lenA n)=some e):Gives N A μ s w ((Builtin.len_ #[t] ty #[x]).run P w) e:=by
 simp only [aeval,Option.some.injEq] at he; subst he
 refine ⟨_, ?_,(RepC.t (.int _ _)).toV,rfl,rfl,rfl,rfl⟩
 simp [Builtin.len_,run_und ht,goInt]
theorem s_iaddrS (hI:I.Ok N) (R:Rel N c ns A μ lam s a w) {x i:Operand} {x' i' : Opd} {t el:TypeId} {n:Nat} {ag:Bool} (hx:opd I x=some x') (hi:opd I i=some i')
 (ht:P.underlying t=some (.slice el)) (hty:typ P el=some (ag,n))
 (he:aeval N.G p s (.iaddrS n x' i')=some e):Gives N A μ s w ((Instr.indexAt t (a.eval x) (a.eval i)).run P w) e:=by
 simp only [aeval,Option.bind_eq_bind,Option.bind_eq_some_iff] at he
 obtain ⟨m,hm,u,hu,he⟩:=he
 obtain ⟨k,hk⟩:=int_eval hI R hi hm
 obtain ⟨inf,g1,g2,g3,g4⟩:=typ_spec hty
 have hrep:=opd_eval hI R hx hu
 split at he
 ·rename_i es
  split at he
  ·rename_i hb
   simp only [Option.bind_eq_some_iff] at he
   obtain ⟨row,hrow,he⟩:=he
   split at he
   ·rename_i hsz
    simp only [Option.some.injEq] at he; subst he
    have hlt:m.toNat<es.length:=(List.getElem?_eq_some_iff.1 hrow).1
    generalize hv:a.eval x=v at hrep
    cases hrep.t_inv with
    | sl0 ad cap=>simp at hrow
    | sl r off cap sz _ vf h0 hc hA hs hvv hr =>
      have hsz' : sz=n:=by rw [<- hs _ row hrow,hsz]
      subst hsz'
      have hlt' : m<(es.length:Int):=by omega
      refine ⟨.pointer (some ⟨r,off+m.toNat*sz,none⟩), ?_,(RepC.t (.ip r (off+m.toNat*sz) row (fun j=>vf m.toNat j) hA (fun j x hj=>hvv _ row j x hrow hj) (fun j x hj=>hr _ row j x hrow hj))).toV,rfl,rfl,rfl,rfl⟩
      simp [Instr.indexAt,hk,asIntOf,run_und ht,hb,hlt',run_size g1,g2,addr_add]
   ·simp at he
  ·simp at he
 ·rename_i kk j len
  split at he <;> try (simp at he; done)
  rename_i sz rs frz hkk
  split at he
  ·rename_i hb
   obtain ⟨hb1,hb2,rfl⟩:=hb
   simp only [Option.some.injEq] at he; subst he
   generalize hv:a.eval x=v at hrep
   cases (hrep:RepC w A N.nm μ s.heap v _) with
   | ms _ _ _ cap sz' rs' frz' ad hk' hi' hc ha =>
     rw [hkk] at hk'; cases hk'
     have hcap:cap≠0:=by omega
     obtain ⟨rfl,_⟩:=ha.resolve_left hcap
     refine ⟨.pointer (some ⟨μ kk,(j+m.toNat)*sz,none⟩), ?_, ?_,rfl,rfl,rfl,rfl⟩
     ·simp [Instr.indexAt,hk,asIntOf,run_und ht,hb1,hb2,run_size g1,g2,addr_add,Nat.add_mul]
     ·have:=RepC.mp (w:=w) (A:=A) (nm:=N.nm) (μ:=μ) (H:=s.heap) kk (j+m.toNat) 0 sz rs frz hkk (by omega)
      simpa using this.toV
   | dms _ _ _ hk' => rw [hkk] at hk'; cases hk'
  ·simp at he
 ·simp at he
theorem run_iaddr {t el:TypeId} {i:Value} {k:IntKind} {m:Int} {len n r off:Nat} {ag:Bool} {v:Value} (ht:P.underlying t=some (.array len el)) (hty:typ P el=some (ag,n))
 (hi:i = .int k m) (hb:0<=m/\m<len) (hv:v = .pointer (some ⟨r,off,none⟩)):(Instr.indexAt t v i).run P w = .ok (.pointer (some ⟨r,off+m.toNat*n,none⟩)) w:=by
 obtain ⟨inf,g1,g2,g3,g4⟩:=typ_spec hty
 simp [Instr.indexAt,hi,asIntOf,run_und ht,hb,run_size g1,g2,addr_add,hv,Instr.sureAddr]
theorem s_iaddrAL (hI:I.Ok N) (R:Rel N c ns A μ lam s a w) {x i:Operand} {x' i' : Opd} {t el:TypeId} {len n:Nat} {ag:Bool} (hx:opd I x=some x') (hi:opd I i=some i')
 (ht:P.underlying t=some (.array len el)) (hty:typ P el=some (ag,n)) (he:aeval N.G p s (.iaddrAL len n x' i')=some e) :
 ∃ v,(Instr.indexAt t (a.eval x) (a.eval i)).run P w = .ok v w/\RepV w A N.nm μ s.heap v e.val/\e.loc=none/\e.wloc=none/\e.hp=[] /\
  ∀ b o,e.adr=some (b,o)->(s.loc b).isSome=true/\v = .pointer (some ⟨lam b,o,none⟩):=by
 simp only [aeval,Option.bind_eq_bind,Option.bind_eq_some_iff,Prod.exists] at he
 obtain ⟨m,hm,b,o,hr,cs,hb,he⟩:=he
 obtain ⟨k,hk⟩:=int_eval hI R hi hm
 split at he
 ·rename_i hbd
  simp only [Option.some.injEq] at he; subst he
  refine ⟨_,run_iaddr ht hty hk hbd (ref_eval R hx hr hb),trivial,rfl,rfl,rfl, ?_⟩
  intro b' o' h
  simp only [Option.some.injEq,Prod.mk.injEq] at h
  obtain ⟨rfl,rfl⟩:=h
  exact ⟨by rw [hb]; rfl,rfl⟩
 ·simp at he
theorem s_iaddrA (hI:I.Ok N) (R:Rel N c ns A μ lam s a w) {x i:Operand} {x' i' : Opd} {t el:TypeId} {len n:Nat} {ag:Bool} (hx:opd I x=some x') (hi:opd I i=some i')
 (ht:P.underlying t=some (.array len el)) (hty:typ P el=some (ag,n)) (he:aeval N.G p s (.iaddrA len n x' i')=some e) :
 Gives N A μ s w ((Instr.indexAt t (a.eval x) (a.eval i)).run P w) e:=by
 simp only [aeval,Option.bind_eq_bind,Option.bind_eq_some_iff] at he
 obtain ⟨m,hm,he⟩:=he
 obtain ⟨k,hk⟩:=int_eval hI R hi hm
 split at he
 ·rename_i hbd
  simp only [Option.bind_eq_some_iff] at he
  obtain ⟨u,hu,he⟩:=he
  have hrep:=opd_eval hI R hx hu
  split at he
  ·rename_i kk i' off
   split at he <;> simp only [Option.some.injEq,reduceCtorEq] at he
   rename_i sz rs frz hkk
   subst he
   obtain ⟨hv,hi⟩:=hrep.mp_inv hkk
   refine ⟨_,run_iaddr ht hty hk hbd hv, ?_,rfl,rfl,rfl,rfl⟩
   rw [Nat.add_assoc]
   exact (RepC.mp kk i' _ sz rs frz hkk hi).toV
  ·simp only [Option.some.injEq] at he; subst he
   obtain ⟨r,off,vf,hv,hA,h1,h2⟩:=RepV.ip_inv hrep
   exact ⟨_,run_iaddr ht hty hk hbd hv,ip_drop _ hA h1 h2,rfl,rfl,rfl,rfl⟩
  ·simp at he
 ·simp at he
theorem evls_spec : ∀ {l:List Opd} {vs:List V},evls N.G s l=some vs->l.length=vs.length /\ ∀ (i:Nat) (v:V),vs[i]? = some v -> ∃ x,l[i]? = some x/\evl N.G s x=some v
 | [],vs,h=>by simp [evls] at h; subst h; simp
 | x::l,vs,h=>by
   simp only [evls,Option.bind_eq_bind,Option.bind_eq_some_iff,Option.some.injEq] at h
   obtain ⟨v,hv,us,hus,rfl⟩:=h
   obtain ⟨h1,h2⟩:=evls_spec hus
   refine ⟨by simp [h1],fun i z hz => ?_⟩
   cases i with
   | zero=>simp at hz; subst hz; exact ⟨x,rfl,hv⟩
   | succ i=>simp at hz; simpa using h2 i z hz
theorem opds_eval (hI:I.Ok N) (R:Rel N c ns A μ lam s a w) {xs:Array Operand} {ys:List Opd} {vs:List V} (hx:opds I xs=some ys) (hv:evls N.G s ys=some vs) :
 (xs.map a.eval).size=vs.length /\ ∀ (i:Nat) (v:V),vs[i]? = some v -> ∃ u,(xs.map a.eval)[i]? = some u/\RepV w A N.nm μ s.heap u v:=by
 obtain ⟨h1,h2⟩:=mapM_some hx
 obtain ⟨h3,h4⟩:=evls_spec hv
 refine ⟨by simp at h1 ⊢; omega,fun i v hi => ?_⟩
 obtain ⟨y,hy,hev⟩:=h4 i v hi
 obtain ⟨x,hx',ho⟩:=h2 i y hy
 refine ⟨a.eval x, ?_,opd_eval hI R ho hev⟩
 simp only [Array.getElem?_toList] at hx'
 simp [hx']
theorem eqCells_len : ∀ {ks:List Nat} {as bs:List V} {r:Bool},eqCells ks as bs=some r->as.length=ks.length/\bs.length=ks.length
 | [],[],[],_,_=>⟨rfl,rfl⟩
 | [],_::_,_,_,h=>by simp [eqCells] at h
 | [],[],_::_,_,h=>by simp [eqCells] at h
 | _::_,[],_,_,h=>by simp [eqCells] at h
 | _::_,_::_,[],_,h=>by simp [eqCells] at h
 | k::ks,a::as,b::bs,r,h=>by
   simp only [eqCells,Option.bind_eq_bind,Option.bind_eq_some_iff,Option.some.injEq] at h
   obtain ⟨q,_,q',hq',_⟩:=h
   have:=eqCells_len hq'
   exact ⟨by simp [this.1],by simp [this.2]⟩
theorem eqCells_app : ∀ {k1 ks:List Nat} {as bs:List V} {r:Bool},eqCells (k1++ks) as bs=some r ->
 ∃ q q',eqCells k1 (as.take k1.length) (bs.take k1.length)=some q/\eqCells ks (as.drop k1.length) (bs.drop k1.length)=some q' /\ r=(q&&q')
 | [],ks,as,bs,r,h=>⟨true,r,rfl,by simpa using h,by simp⟩
 | k::k1,ks,[],bs,r,h=>by simp [eqCells] at h
 | k::k1,ks,a::as,[],r,h=>by simp [eqCells] at h
 | k::k1,ks,a::as,b::bs,r,h=>by
   simp only [List.cons_append,eqCells,Option.bind_eq_bind,Option.bind_eq_some_iff,Option.some.injEq] at h
   obtain ⟨x,hx,y,hy,rfl⟩:=h
   obtain ⟨q,q',h1,h2,rfl⟩:=eqCells_app hy
   exact ⟨x&&q,q',by simp [eqCells,hx,h1],by simpa using h2,by rw [Bool.and_assoc]⟩
theorem run_eqCell {t:TypeId} {k:Nat} {xa ya:V} {v u:Value} {q:Bool} {μ:Nat->Nat} {H:Nat->Option O} {nm:Nat->Nat} (d:Nat)
 (hk:kindOf P t=some k) (hvr:RepV w A nm μ H v xa) (hur:RepV w A nm μ H u ya) (hq:eqCell k xa ya=some q) :
 (Op.equalIn (d+1) t v u).run P w = .ok q w:=by
 unfold eqCell at hq
 split at hq
 ·split at hq
  ·rename_i hkk
   obtain ⟨rfl,rfl⟩:=hkk
   simp only [Option.some.injEq] at hq; subst hq
   cases hvr.int_inv; cases hur.int_inv
   unfold kindOf at hk
   split at hk <;> simp at hk
   rename_i hty; simp [Op.equalIn,run_und hty]
  ·simp at hq
 ·split at hq
  ·rename_i hkk; subst hkk
   simp only [Option.some.injEq] at hq; subst hq
   cases hvr.bool_inv; cases hur.bool_inv
   unfold kindOf at hk
   split at hk <;> simp at hk
   rename_i hty; simp [Op.equalIn,run_und hty]
  ·simp at hq
 ·split at hq
  ·rename_i hkk; subst hkk
   simp only [Option.some.injEq] at hq; subst hq
   cases hvr.str_inv; cases hur.str_inv
   unfold kindOf at hk
   split at hk <;> simp at hk
   rename_i hty; simp [Op.equalIn,run_und hty,beq_toListBytes]
  ·simp at hq
 ·simp at hq
theorem run_eqFields2 {fs:List Field} {xs ys:Array Value} {as bs:List V} {i:Nat} {ks:List Nat} {r:Bool} {μ:Nat->Nat} {H:Nat->Option O} {nm:Nat->Nat} (d:Nat)
 (hf:plainFields2 P i fs=some ks) (hx:RepL w A nm μ H xs.toList as) (hy:RepL w A nm μ H ys.toList bs)
 (he:eqCells ks (as.drop i) (bs.drop i)=some r):(Op.eqFields (d+2) xs ys fs).run P w = .ok r w:=by
 induction fs generalizing i r ks with
 | nil =>
   simp only [plainFields2,Option.some.injEq] at hf; subst hf
   unfold eqCells at he
   split at he <;> simp_all [Op.eqFields]
 | cons f fs ih =>
   unfold plainFields2 at hf
   split at hf
   ·rename_i k hk
    simp only [Option.bind_eq_bind,Option.bind_eq_some_iff] at hf
    obtain ⟨ks',hks,hf⟩:=hf
    split at hf
    ·rename_i hc
     obtain ⟨hn,ho,htyp⟩:=hc
     simp only [Option.some.injEq] at hf; subst hf
     unfold eqCells at he
     split at he
     ·simp_all
     ·rename_i n ns xa xs' ya ys' e1 e2 e3
      cases e1
      simp only [Option.bind_eq_bind,Option.bind_eq_some_iff,Option.some.injEq] at he
      obtain ⟨q,hq,q',hq',rfl⟩:=he
      have ea:as[i]? = some xa:=by have:=congrArg (·[0]?) e2; simpa using this
      have eb:bs[i]? = some ya:=by have:=congrArg (·[0]?) e3; simpa using this
      have ea' : as.drop (i+1)=xs' := by have:=congrArg List.tail e2; simpa using this
      have eb' : bs.drop (i+1)=ys' := by have:=congrArg List.tail e3; simpa using this
      obtain ⟨v,hv,hvr⟩:=hx.2 i _ ea
      obtain ⟨u,hu,hur⟩:=hy.2 i _ eb
      obtain ⟨inf,g1,g2,g3,g4⟩:=typ_spec htyp
      have ih' := ih hks (by rw [ea',eb']; exact hq')
      have hpx:(part f.type xs f.offset).run P w = .ok v w:=by
       simp only [Array.getElem?_toList] at hv
       simp [part,g4 w,ho,hv]
      have hpy:(part f.type ys f.offset).run P w = .ok u w:=by
       simp only [Array.getElem?_toList] at hu
       simp [part,g4 w,ho,hu]
      have heq:=run_eqCell (P:=P) (d+1) hk hvr.toV hur.toV hq
      simp only [Op.eqFields,ne_eq,hn,not_false_eq_true,if_true,Sem.run_bind,hpx,hpy,Result.andThen_ok,heq]
      cases q
      ·simp
      ·simpa using ih'
     ·simp at he
    ·simp at hf
   ·rename_i hk
    simp only [Option.bind_eq_bind,Option.bind_eq_some_iff] at hf
    obtain ⟨k1,hk1,ks',hks,hf⟩:=hf
    split at hf
    ·rename_i hc
     obtain ⟨hn,ho,htyp,hpos⟩:=hc
     simp only [Option.some.injEq] at hf; subst hf
     obtain ⟨q,q',hq,hq',rfl⟩:=eqCells_app he
     have hl:=eqCells_len hq
     rw [List.drop_drop,List.drop_drop] at hq'
     have ih' := ih hks hq'
     have hra:rd as i k1.length=some ((as.drop i).take k1.length):=by
      unfold Rg.rd
      rw [if_pos]
      have:=hl.1
      rw [List.length_take,List.length_drop] at this; omega
     have hrb:rd bs i k1.length=some ((bs.drop i).take k1.length):=by
      unfold Rg.rd
      rw [if_pos]
      have:=hl.2
      rw [List.length_take,List.length_drop] at this; omega
     obtain ⟨a1,a2,a3⟩:=hx.rd hra
     obtain ⟨b1,b2,b3⟩:=hy.rd hrb
     have hpx:(part f.type xs f.offset).run P w = .ok (.agg ((xs.toList.drop i).take k1.length).toArray) w:=by
      rw [ho]; exact run_part (P:=P) (w:=w) htyp (by simpa using a2)
     have hpy:(part f.type ys f.offset).run P w = .ok (.agg ((ys.toList.drop i).take k1.length).toArray) w:=by
      rw [ho]; exact run_part (P:=P) (w:=w) htyp (by simpa using b2)
     have heq:(Op.equalIn (d+2) f.type (.agg ((xs.toList.drop i).take k1.length).toArray) (.agg ((ys.toList.drop i).take k1.length).toArray)).run P w = .ok q w:=by
      unfold plainEq at hk1
      split at hk1
      ·rename_i fields hfs
       split at hk1
       ·rename_i hc
        have hfo:P.fieldsOf f.type=fields:=by simp [Program.fieldsOf,hfs]
        have h0:=run_eqFields (P:=P) (w:=w) (A:=A) (nm:=nm) (μ:=μ) (H:=H) (i:=0) (xs:=((xs.toList.drop i).take k1.length).toArray) (ys:=((ys.toList.drop i).take k1.length).toArray) d hk1 (by simpa using a1) (by simpa using b1) (by simpa using hq)
        have:=run_equalIn_struct (P:=P) w (d+1) f.type ((xs.toList.drop i).take k1.length).toArray ((ys.toList.drop i).take k1.length).toArray (by rw [hfo]; exact hfs) hc.1
        rw [this,hfo]; exact h0
       ·cases hk1
      ·cases hk1
     simp only [Op.eqFields,ne_eq,hn,not_false_eq_true,if_true,Sem.run_bind,hpx,hpy,Result.andThen_ok,heq]
     cases q
     ·simp
     ·simpa using ih'
    ·simp at hf
theorem s_eqa2 (hI:I.Ok N) (R:Rel N c ns A μ lam s a w) {x y:Operand} {x' y' : Opd} {op:BinOp} {neg:Bool} {ks:List Nat} (hx:opd I x=some x') (hy:opd I y=some y')
 (he:aeval N.G p s (.eqa neg ks x' y')=some e) {t:TypeId} (ht:plainEq2 P t=some ks) (hop:op=if neg then .neq else .eql) :
 Gives N A μ s w ((do eqGuard op t x y (a.eval x) (a.eval y); binOp op t (a.eval x) (a.eval y):Sem Value).run P w) e:=by
 simp only [aeval,Option.bind_eq_bind,Option.bind_eq_some_iff] at he
 obtain ⟨u,hu,v,hv,he⟩:=he
 split at he
 ·rename_i as bs
  simp only [Option.bind_eq_some_iff,Option.some.injEq] at he
  obtain ⟨r,hr,rfl⟩:=he
  obtain ⟨xs,hxs,hxr⟩:=(opd_eval hI R hx hu).agg_inv
  obtain ⟨ys,hys,hyr⟩:=(opd_eval hI R hy hv).agg_inv
  rw [hxs,hys]
  unfold plainEq2 at ht
  split at ht
  ·rename_i fields hfs
   split at ht
   ·rename_i hc
    have hfo:P.fieldsOf t=fields:=by simp [Program.fieldsOf,hfs]
    have h0:=run_eqFields2 (P:=P) (i:=0) 9997 ht hxr hyr (by simpa using hr)
    have h1:(Op.equalIn 10000 t (.agg xs) (.agg ys)).run P w = .ok r w:=by
     have:=run_equalIn_struct (P:=P) w 9999 t xs ys (by rw [hfo]; exact hfs) hc.1
     rw [this,hfo]; exact h0
    have h2:=run_eqGuard_agg (P:=P) w op t x y xs ys hc.2
    refine ⟨.bool (r != neg), ?_,(RepC.t (.bool _)).toV,rfl,rfl,rfl,rfl⟩
    cases neg
    ·simp only [Bool.false_eq_true,if_false] at hop; subst hop
     simp only [Sem.run_bind,h2,Result.andThen_ok]
     simp [run_eql_struct,h1]
    ·simp only [if_true] at hop; subst hop
     simp only [Sem.run_bind,h2,Result.andThen_ok]
     simp [run_neq_struct,h1]
   ·simp at ht
  ·simp at ht
 ·simp at he
end
end Rg
end
