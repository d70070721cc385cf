/- Part of the proof of the laws of the package relyguardlaw36: an abstract machine for the program's functions, what they compute, and that the machine is the program's. No condition. (RgJ RgK RgL RgM) -/
import Derived.Test.YtaiokglcgiemnaaGreatDoorPartAD
import Derived.Laws.IdiomStrings
section
namespace Rg
open Go
theorem wr_get {α:Type} {cs new r:List α} {off:Nat} (h:wr cs off new=some r):
 off+new.length<=cs.length/\r.length=cs.length/\ ∀k,r[k]? =if off<=k/\k<off+new.length then new[k-off]? else cs[k]? :=by
 unfold wr at h
 split at h
 ·rename_i hle
  simp only[Option.some.injEq]at h;subst h
  refine⟨hle,by simp;omega,fun k=> ?_⟩
  simp only[List.getElem?_append,List.length_append,List.length_take,List.getElem?_take,List.getElem?_drop]
  have hm:min off cs.length=off:=by omega
  rw[hm]
  by_cases h1:k<off
  ·rw[if_pos (by omega),if_pos h1,if_pos h1,if_neg (by omega)]
  ·by_cases h2:k<off+new.length
   ·rw[if_pos h2,if_neg h1,if_pos (by omega)]
   ·rw[if_neg h2,if_neg (by omega)]
    congr 1;omega
 ·simp at h
theorem fold_set (off:Nat): ∀(vs:List Value) (j0:Nat) (cs:Array Value),
 ((vs.zipIdx j0).foldl (fun cs (x:Value×Nat)=>match x with | (c,j)=>cs.setIfInBounds (off+j) c) cs).size=cs.size/\
 ∀k,((vs.zipIdx j0).foldl (fun cs (x:Value×Nat)=>match x with | (c,j)=>cs.setIfInBounds (off+j) c) cs)[k]? =
  if off+j0<=k/\k<off+j0+vs.length/\k<cs.size then vs[k-(off+j0)]? else cs[k]?
 | [],j0,cs=>by simp;intro k h1 h2;omega
 | v::vs,j0,cs=>by
   obtain⟨h1,h2⟩:=fold_set off vs (j0+1) (cs.setIfInBounds (off+j0) v)
   simp only[List.zipIdx_cons,List.foldl_cons]
   refine⟨by rw[h1];simp,fun k=> ?_⟩
   rw[h2 k]
   simp only[Array.size_setIfInBounds,Array.getElem?_setIfInBounds,List.length_cons]
   by_cases e:k=off+j0
   ·subst e
    rw[if_neg (by omega)]
    by_cases hlt:off+j0<cs.size
    ·rw[if_pos rfl,if_pos hlt,if_pos ⟨by omega,by omega,hlt⟩];simp
    ·rw[if_pos rfl,if_neg hlt,if_neg (by omega)]
     simp[Array.getElem?_eq_none (Nat.le_of_not_lt hlt)]
   ·rw[if_neg (Ne.symm e)]
    by_cases h3:off+(j0+1)<=k/\k<off+(j0+1)+vs.length/\k<cs.size
    ·rw[if_pos h3,if_pos ⟨by omega,by omega,h3.2.2⟩]
     have:k-(off+j0)=(k-(off+(j0+1)))+1:=by omega
     rw[this];simp
    ·rw[if_neg h3,if_neg (by omega)]
section
variable {w:World} {A:Nat->Prop} {nm μ:Nat->Nat} {H:Nat->Option O}
theorem RepL.splice {vs us:List Value} {cs new r:List V} {off:Nat} (h:RepL w A nm μ H vs cs) (hn:RepL w A nm μ H us new) (hw:wr cs off new=some r) (vs':List Value) (hl:vs'.length=vs.length)
 (hg: ∀k,k<vs.length->vs'[k]? =if off<=k/\k<off+us.length then us[k-off]? else vs[k]?):RepL w A nm μ H vs' r:=by
 obtain⟨h1,h2,h3⟩:=wr_get hw
 refine⟨by rw[hl,h.1,h2],fun i x hi=> ?_⟩
 have hlt:i<vs.length:=by rw[h.1,<- h2];exact(List.getElem?_eq_some_iff.1 hi).1
 rw[h3 i]at hi
 rw[hg i hlt]
 by_cases hc:off<=i/\i<off+new.length
 ·rw[if_pos hc]at hi
  rw[if_pos (by rw[hn.1];exact hc)]
  exact hn.2 _ x hi
 ·rw[if_neg hc]at hi
  rw[if_neg (by rw[hn.1];exact hc)]
  exact h.2 i x hi
end
section
variable {P:Program} {N:Nam} {I:Inv} {c:Ctx} {ns p:Nat} {A:Nat->Prop} {μ lam:Nat->Nat} {s:St} {a:Act} {w:World} {e:Eff}
theorem fill_rep (hI:I.Ok N) (R:Rel N c ns A μ lam s a w) (place:Nat->Option (Nat×Nat)): ∀(parts:List (Nat×Operand)) (ps:List (Nat×Nat×Opd)) (cells:Array Value) (cs cs':List V),
 (parts.length=ps.length/\ ∀(i:Nat) (q:Nat×Nat×Opd),ps[i]? =some q-> ∃x,parts[i]? =some x/\place x.1=some (q.1,q.2.1)/\opd I x.2=some q.2.2)->
 RepL w A N.nm μ s.heap cells.toList cs->fillParts N.G cs s ps=some cs'->
 ∃cells',Instr.fill place cells (parts.map fun x=>(x.1,a.eval x.2))=some cells'/\RepL w A N.nm μ s.heap cells'.toList cs'
 | [],ps,cells,cs,cs',hps,hrep,hf=>by
   obtain⟨hl,_⟩:=hps
   have:ps=[]:=List.length_eq_zero_iff.1 (by simpa using hl.symm)
   subst this
   simp only[fillParts,Option.some.injEq]at hf;subst hf
   exact⟨cells,rfl,hrep⟩
 | (i,x)::parts,[],cells,cs,cs',hps,hrep,hf=>by simp at hps
 | (i,x)::parts,(off,n,y)::ps,cells,cs,cs',hps,hrep,hf=>by
   obtain⟨hl,hq⟩:=hps
   obtain⟨q0,hq0,hpl,hop⟩:=hq 0 _ rfl
   simp only[List.getElem?_cons_zero,Option.some.injEq]at hq0;subst hq0
   simp only at hpl hop
   simp only[fillParts,Option.bind_eq_bind,Option.bind_eq_some_iff]at hf
   obtain⟨v,hv,new,hnew,hf⟩:=hf
   split at hf
   ·rename_i hlen
    simp only[Option.bind_eq_some_iff]at hf
    obtain⟨cs1,hw1,hf⟩:=hf
    have hr:=(opd_eval hI R hop hv).cells hnew
    obtain⟨g1,g2,g3⟩:=wr_get hw1
    have hsz:(a.eval x).cells.size=n:=by have:=hr.1;simp at this;omega
    obtain⟨f1,f2⟩:=fold_set off (a.eval x).cells.toList 0 cells
    have hrep1:RepL w A N.nm μ s.heap (((a.eval x).cells.toList.zipIdx 0).foldl (fun cs (x:Value×Nat)=>match x with | (c,j)=>cs.setIfInBounds (off+j) c) cells).toList cs1:=by
     refine hrep.splice hr hw1 _ (by simpa using f1) (fun k hk=> ?_)
     simp only[Array.getElem?_toList]
     rw[f2 k]
     simp only[Nat.add_zero,Array.length_toList]at hk⊢
     by_cases hc:off<=k/\k<off+(a.eval x).cells.size
     ·rw[if_pos ⟨hc.1,hc.2,hk⟩,if_pos hc];simp
     ·rw[if_neg (by omega),if_neg hc]
    obtain⟨cells',h1,h2⟩:=fill_rep hI R place parts ps _ cs1 cs' ⟨by simpa using hl,fun i q hi=>by
     obtain⟨z,hz,hz2⟩:=hq (i+1) q (by simpa using hi)
     exact⟨z,by simpa using hz,hz2⟩⟩ hrep1 hf
    refine⟨cells',?_,h2⟩
    have hcl:cells.size=cs.length:=by have:=hrep.1;simpa using this
    have hnot: ¬(off+(a.eval x).cells.size>cells.size):=by omega
    simp only[List.map_cons,Instr.fill,hpl,hsz]
    rw[<- h1]
    have:(decide (n≠n)||decide (off+n>cells.size))=false:=by simp;omega
    simp only[this,Bool.false_eq_true,if_false]
    congr 1
    rw[<- Array.foldl_toList]
    simp
   ·simp at hf
theorem run_mapM_places {fields:Array Field} (h:fields.toList.all (fun f=>(typ P f.type).isSome)=true):
 (fields.mapM (m:=Sem) fun f=>do pure (f.offset,<- Go.sizeOf f.type)).run P w= .ok (fields.map fun f=>(f.offset,(P.info? f.type).elim 0 (·.size))) w:=by
 have key: ∀(l:List Field),l.all (fun f=>(typ P f.type).isSome)=true->
  (l.mapM (m:=Sem) fun f=>do pure (f.offset,<- Go.sizeOf f.type)).run P w= .ok (l.map fun f=>(f.offset,(P.info? f.type).elim 0 (·.size))) w:=by
  intro l hl
  induction l with
  | nil=>simp
  | cons f l ih=>
    simp only[List.all_cons,Bool.and_eq_true]at hl
    obtain⟨⟨ag,n⟩,hty⟩:=Option.isSome_iff_exists.1 hl.1
    obtain⟨inf,g1,g2,g3,g4⟩:=typ_spec hty
    simp only[List.mapM_cons,Sem.run_bind,run_size g1,Result.andThen_ok,Sem.run_pure,ih hl.2]
    simp[g1]
 rw[Array.mapM_eq_mapM_toList]
 simp only[Sem.run_map,key _ h,Result.andThen_ok]
 congr 1
 apply Array.ext'
 simp
theorem zeroOf_spec {t:TypeId} {z:List V} (h:zeroOf P t=some z): ∃i v,P.info? t=some i/\i.zero=some v/\cellsOf v=some z/\ ∀w,(zeroValue t).run P w= .ok v w:=by
 unfold zeroOf at h
 split at h
 ·rename_i i hi
  split at h
  ·rename_i v hv
   exact⟨i,v,hi,hv,h,fun w=>by simp[zeroValue,run_info hi,hv]⟩
  ·simp at h
 ·simp at h
theorem s_build (hI:I.Ok N) (R:Rel N c ns A μ lam s a w) {t:TypeId} {z:List V} {parts:Array (Nat×Operand)} {ps:List (Nat×Nat×Opd)} {place:Nat->Option (Nat×Nat)}
 (hz:zeroOf P t=some z)
 (hu:(∃fields,P.underlying t=some (.struct fields)/\fields.toList.all (fun f=>(typ P f.type).isSome)=true/\place=((fields.map fun f=>(f.offset,(P.info? f.type).elim 0 (·.size)))[·]?))\/
   (∃len el ag n,P.underlying t=some (.array len el)/\typ P el=some (ag,n)/\place=fun i=>some (i*n,n)))
 (hps:parts.toList.length=ps.length/\ ∀(i:Nat) (q:Nat×Nat×Opd),ps[i]? =some q-> ∃x,parts.toList[i]? =some x/\place x.1=some (q.1,q.2.1)/\opd I x.2=some q.2.2)
 (he:aeval N.G p s (.build z ps)=some e):Gives N A μ s w ((Instr.build t (parts.map fun(i,x)=>(i,a.eval x))).run P w) e:=by
 simp only[aeval,Option.bind_eq_bind,Option.bind_eq_some_iff,Option.some.injEq]at he
 obtain⟨cs,hcs,rfl⟩:=he
 obtain⟨i,v,hi,hv,hc,hrun⟩:=zeroOf_spec hz
 obtain⟨cells',h1,h2⟩:=fill_rep hI R place parts.toList ps v.cells z cs hps (cellsOf_rep hc) hcs
 have hmap:(parts.map fun(i,x)=>(i,a.eval x)).toList=parts.toList.map fun x=>(x.1,a.eval x.2):=by simp
 refine⟨.agg cells',?_,⟨cells',rfl,h2⟩,rfl,rfl,rfl,rfl⟩
 rcases hu with⟨fields,hf,hall,rfl⟩ | ⟨len,el,ag,n,hf,hty,rfl⟩
 ·simp only[Instr.build,Sem.run_bind,hrun w,Result.andThen_ok,run_und hf,run_mapM_places hall,hmap,h1,Sem.run_pure]
 ·obtain⟨inf,g1,g2,g3,g4⟩:=typ_spec hty
  simp only[Instr.build,Sem.run_bind,hrun w,Result.andThen_ok,run_und hf,run_size g1,g2,hmap,h1,Sem.run_pure]
end
end Rg
end
section
namespace Rg
open Go
def Sound (P:Program) (N:Nam) (c:Ctx) (ns:Nat) (o:Oper) (a:Act) (w:World) (s':St):Prop:=
 ∃v w' A' μ' lam',((execOp a.eval o).run P w= .ok (.value v) w'\/((execOp a.eval o).run P w= .ok .skip w'/\v=undef))/\Rel N c ns A' μ' lam' s' (a.put o.dst v) w'
section
variable {P:Program} {N:Nam} {I:Inv} {c:Ctx} {ns p:Nat} {A:Nat->Prop} {μ lam:Nat->Nat} {s:St} {a:Act} {w:World} {e:Eff} {o:Oper}
theorem Gives.sound (R:Rel N c ns A μ lam s a w) {r:Result Value} (h:Gives N A μ s w r e) (hr:(execOp a.eval o).run P w=r.andThen fun v w'=> .ok (.value v) w')
 (hd: ∀x,o.dst=some x->x<ns) (hf:s.free o.dst e):Sound P N c ns o a w (s.apply o.dst e):=by
 obtain⟨v,rfl,hv,h1,h2,h3,h4⟩:=h
 exact⟨v,w,A,μ,lam,.inl (by rw[hr];rfl),R.put o.dst e v hd hf h2 h3 h4 hv (by simp[h1])⟩
theorem evo_alloc (R:Rel N c ns A μ lam s a w) (ob:Go.Obj):Evo w A μ s.heap (w.alloc ob) A μ s.heap:=by
 refine⟨fun r h=> ?_,fun _ h=>h,fun _ o h=>⟨o,h,O.le_refl o,fun _=>rfl⟩,fun r x h=>shape?_push w ob r x h⟩
 have:=R.alt r h
 simp only[World.alloc,Array.getElem?_push];simp[Nat.ne_of_lt this]
theorem heap_alloc (w:World) (ob:Go.Obj):(w.alloc ob).heap[w.heap.size]? =some ob:=by
 simp only[World.alloc,Array.getElem?_push];simp
theorem newL (R:Rel N c ns A μ lam s a w) {d:Nat} {cells:Array Value} {cs:List V} {t:TypeId} (hd:d<ns) (hu:s.used d=false) (hrep:RepL w A N.nm μ s.heap cells.toList cs):
 Rel N c ns A μ (upd lam d w.heap.size) (s.apply (some d) { val:=.lb,loc:=some cs }) (a.put (some d) (.pointer (some ⟨w.heap.size,0,none⟩))) (w.alloc (.cells cells t)):=
 (R.alloc _).adoptL d hd hu R.orphan_new ⟨cells,t,heap_alloc w _,hrep.evo (evo_alloc R _)⟩
theorem newH (R:Rel N c ns A μ lam s a w) {k sz:Nat} {cells:Array Value} {rs:List (List V)} {t:TypeId} (hk:s.heap k=none) (hn:k<s.nxt)
 (h1:rs.length*sz<=cells.size) (h2: ∀(i:Nat) (row:List V),rs[i]? =some row->row.length=sz)
 (h3: ∀(i:Nat) (row:List V) (j:Nat) (x:V),rs[i]? =some row->row[j]? =some x-> ∃v,cells[i*sz+j]? =some v/\RepC w A N.nm μ s.heap v x):
 Rel N c ns A (upd μ k w.heap.size) lam { s with heap:=upd s.heap k (some (.rows sz rs false)) } a (w.alloc (.cells cells t)):=
 (R.alloc _).adoptH (o:=.rows sz rs false) hk hn R.orphan_new ⟨cells,t,(0,0),heap_alloc w _,fun _=>rfl,h1,h2,fun i row j x g1 g2=>let⟨v,hv,hr⟩:=h3 i row j x g1 g2;⟨v,hv,hr.evo (evo_alloc R _)⟩⟩ (by simp)
theorem one_row {cells:Array Value} {cs:List V} (hrep:RepL w A N.nm μ s.heap cells.toList cs):
 [cs].length*cs.length<=cells.size/\(∀(i:Nat) (row:List V),[cs][i]? =some row->row.length=cs.length)/\
 ∀(i:Nat) (row:List V) (j:Nat) (x:V),[cs][i]? =some row->row[j]? =some x-> ∃v,cells[i*cs.length+j]? =some v/\RepC w A N.nm μ s.heap v x:=by
 have hl:=hrep.1
 simp only[Array.length_toList]at hl
 refine⟨by simp[hl],fun i row h=> ?_,fun i row j x h1 h2=> ?_⟩
 ·cases i with
  | zero=>simp at h;rw[h]
  | succ i=>simp at h
 ·cases i with
  | zero=>
    simp at h1;subst h1
    obtain⟨v,hv,hr⟩:=hrep.2 j x h2
    exact⟨v,by simpa using hv,hr⟩
  | succ i=>simp at h1
theorem s_allocL (R:Rel N c ns A μ lam s a w) {t:TypeId} {z:List V} {d:Nat} (hz:zeroOf P t=some z) (ho:o.op= .alloc t) (hdst:o.dst=some d)
 (hd: ∀x,o.dst=some x->x<ns) (hf:s.free o.dst e) (he:aeval N.G p s (.allocL z)=some e):Sound P N c ns o a w (s.apply o.dst e):=by
 simp only[aeval,Option.some.injEq]at he;subst he
 obtain⟨i,v,hi,hv,hc,hrun⟩:=zeroOf_spec hz
 refine⟨_,_,A,μ,_,.inl ?_,by rw[hdst];exact newL R (t:=t) (hd d hdst) (hf d hdst).1 (cellsOf_rep hc)⟩
 simp[execOp,ho,Instr.alloc,hrun,newVar,newRow]
theorem s_allocH (R:Rel N c ns A μ lam s a w) {t:TypeId} {z:List V} (hz:zeroOf P t=some z) (ho:o.op= .alloc t)
 (hd: ∀x,o.dst=some x->x<ns) (hf:s.free o.dst e) (hk:s.heap (s.bas+p)=none) (hn:s.bas+p<s.nxt) (he:aeval N.G p s (.allocH z)=some e):Sound P N c ns o a w (s.apply o.dst e):=by
 simp only[aeval,Option.some.injEq]at he;subst he
 obtain⟨i,v,hi,hv,hc,hrun⟩:=zeroOf_spec hz
 obtain⟨h1,h2,h3⟩:=one_row (w:=w) (A:=A) (N:=N) (μ:=μ) (s:=s) (cells:=v.cells) (cellsOf_rep hc)
 have R1:=newH R (t:=t) hk hn h1 h2 h3
 refine⟨.pointer (some ⟨w.heap.size,0,none⟩),_,A,_,lam,.inl ?_,R1.put o.dst { val:=.mp (s.bas+p) 0 0 } _ hd hf rfl rfl rfl ?_ (by simp)⟩
 ·simp[execOp,ho,Instr.alloc,hrun,newVar,newRow]
 ·have:=RepC.mp (w:=w.alloc (.cells v.cells t)) (A:=A) (nm:=N.nm) (μ:=upd μ (s.bas+p) w.heap.size) (H:=upd s.heap (s.bas+p) (some (.rows z.length [z] false))) (s.bas+p) 0 0 z.length [z] false (by simp) (by simp)
  simpa using this.toV
theorem s_allocB (R:Rel N c ns A μ lam s a w) {t:TypeId} {z:List V} (hz:zeroOf P t=some z) (hb:isBld P t=true) (htB:N.tB=t) (ho:o.op= .alloc t)
 (hd: ∀x,o.dst=some x->x<ns) (hf:s.free o.dst e) (hk:s.heap (s.bas+p)=none) (hn:s.bas+p<s.nxt) (he:aeval N.G p s .allocB=some e):Sound P N c ns o a w (s.apply o.dst e):=by
 simp only[aeval,Option.some.injEq]at he;subst he
 obtain⟨i,v,hi,hv,hc,hrun⟩:=zeroOf_spec hz
 have hv':v.cells= #[.pointer none,.slice none 0 0]:=by
  unfold isBld at hb
  rw[hi]at hb
  simp only[Option.bind_some,hv]at hb
  split at hb
  ·rename_i cs hcs
   cases hcs
   split at hb
   ·rename_i hl
    show cs=_
    apply Array.ext'
    simpa using hl
   ·cases hb
  ·cases hb
 have R1:=(R.alloc (.cells v.cells t)).adoptH (k:=s.bas+p) (o:=.raw (.bld none)) hk hn R.orphan_new ⟨.pointer none,by rw[<- hv',htB];exact heap_alloc w _,.inl rfl⟩ (by simp)
 refine⟨.pointer (some ⟨w.heap.size,0,none⟩),_,A,_,lam,.inl ?_,R1.put o.dst { val:=.mp (s.bas+p) 0 0 } _ hd hf rfl rfl rfl ?_ (by simp)⟩
 ·simp[execOp,ho,Instr.alloc,hrun,newVar,newRow]
 ·have:=RepC.mb (w:=w.alloc (.cells v.cells t)) (A:=A) (nm:=N.nm) (μ:=upd μ (s.bas+p) w.heap.size) (H:=upd s.heap (s.bas+p) (some (.raw (.bld none)))) (s.bas+p) (.bld none) (by simp)
  simpa using this.toV
theorem s_boxL (hI:I.Ok N) (R:Rel N c ns A μ lam s a w) {t:TypeId} {x:Operand} {x':Opd} {n d:Nat} (hx:opd I x=some x') (ho:o.op= .box t x) (hdst:o.dst=some d)
 (hd: ∀x,o.dst=some x->x<ns) (hf:s.free o.dst e) (he:aeval N.G p s (.boxL n x')=some e):Sound P N c ns o a w (s.apply o.dst e):=by
 simp only[aeval,Option.bind_eq_bind,Option.bind_eq_some_iff]at he
 obtain⟨u,hu,cs,hcs,he⟩:=he
 split at he
 ·simp only[Option.some.injEq]at he;subst he
  have hr:=(opd_eval hI R hx hu).cells hcs
  refine⟨_,_,A,μ,_,.inl ?_,by rw[hdst];exact newL R (t:=t) (hd d hdst) (hf d hdst).1 hr⟩
  simp[execOp,ho,Instr.box,newVar,newRow]
 ·simp at he
theorem s_boxH (hI:I.Ok N) (R:Rel N c ns A μ lam s a w) {t:TypeId} {x:Operand} {x':Opd} {n:Nat} (hx:opd I x=some x') (ho:o.op= .box t x)
 (hd: ∀x,o.dst=some x->x<ns) (hf:s.free o.dst e) (hk:s.heap (s.bas+p)=none) (hn:s.bas+p<s.nxt) (he:aeval N.G p s (.boxH n x')=some e):Sound P N c ns o a w (s.apply o.dst e):=by
 simp only[aeval,Option.bind_eq_bind,Option.bind_eq_some_iff]at he
 obtain⟨u,hu,cs,hcs,he⟩:=he
 split at he
 ·rename_i hlen
  subst hlen
  simp only[Option.some.injEq]at he;subst he
  have hr:=(opd_eval hI R hx hu).cells hcs
  obtain⟨h1,h2,h3⟩:=one_row (w:=w) (A:=A) (N:=N) (μ:=μ) (s:=s) (cells:=(a.eval x).cells) hr
  have R1:=newH R (t:=t) hk hn h1 h2 h3
  refine⟨.pointer (some ⟨w.heap.size,0,none⟩),_,A,_,lam,.inl ?_,R1.put o.dst { val:=.mp (s.bas+p) 0 0 } _ hd hf rfl rfl rfl ?_ (by simp)⟩
  ·simp[execOp,ho,Instr.box,newVar,newRow]
  ·have:=RepC.mp (w:=w.alloc (.cells (a.eval x).cells t)) (A:=A) (nm:=N.nm) (μ:=upd μ (s.bas+p) w.heap.size) (H:=upd s.heap (s.bas+p) (some (.rows cs.length [cs] false))) (s.bas+p) 0 0 cs.length [cs] false (by simp) (by simp)
   simpa using this.toV
 ·simp at he
theorem RepL.one {w:World} {A:Nat->Prop} {nm μ:Nat->Nat} {H:Nat->Option O} {vs:List Value} {cs:List V} (h:RepL w A nm μ H vs cs): ∀v∈vs,v.oneCell'=true:=by
 intro v hv
 obtain⟨i,hi,he⟩:=List.getElem_of_mem hv
 have:i<cs.length:=by rw[<- h.1];exact hi
 obtain⟨u,hu,hr⟩:=h.2 i cs[i] (List.getElem?_eq_getElem this)
 rw[List.getElem?_eq_getElem hi,he]at hu
 cases hu
 exact hr.one
theorem s_storeL (hI:I.Ok N) (R:Rel N c ns A μ lam s a w) {t:TypeId} {x y:Operand} {x' y':Opd} {n:Nat} {ag:Bool} (hx:opd I x=some x') (hy:opd I y=some y') (hty:typ P t=some (ag,n)) (ho:o.op= .store t x y)
 (he:aeval N.G p s (.storeL n x' y')=some e) (hnd:o.dst=none):Sound P N c ns o a w (s.apply o.dst e):=by
 simp only[aeval,Option.bind_eq_bind,Option.bind_eq_some_iff,Prod.exists]at he
 obtain⟨b,off,hr,cs,hb,u,hu,new,hnew,he⟩:=he
 split at he
 ·rename_i hlen
  simp only[Option.bind_eq_some_iff,Option.some.injEq]at he
  obtain⟨cs',hw,rfl⟩:=he
  obtain⟨_,cc,e0,hc1,hc2⟩:=R.loc b cs hb
  have hrn:=(opd_eval hI R hy hu).cells hnew
  obtain⟨inf,g1,g2,g3,g4⟩:=typ_spec hty
  obtain⟨k1,k2,k3⟩:=wr_get hw
  have hcs:cc.size=cs.length:=by have:=hc2.1;simpa using this
  have hnl:(a.eval y).cells.toList.length=new.length:=hrn.1
  have hfit:off+0+(a.eval y).cells.toList.length<=cc.size:=by omega
  have hst:=run_storeCells_at P (lam b) off e0 (a.eval y).cells.toList 0 cc w hc1 hfit hrn.one
  let arr:Array Value:=(cc.toList.take (off+0)++(a.eval y).cells.toList++cc.toList.drop (off+0+(a.eval y).cells.toList.length)).toArray
  have harr:wr cc.toList off (a.eval y).cells.toList=some arr.toList:=by
   unfold wr
   rw[if_pos (by simpa using hfit)]
   simp[arr]
  obtain⟨j1,j2,j3⟩:=wr_get harr
  have R1:=R.changeL (cs':=cs') (w':=w.setRow (lam b) arr) hb (by simp) (fun r hr=>setRow_other w _ r _ hr) (shape?_setRow hc1 (by simpa using j2))
   (fun E=>⟨arr,e0,setRow_heap w _ cc arr e0 _ hc1,(hc2.splice hrn hw arr.toList (by simpa using j2) (fun k _=>j3 k)).evo E⟩)
  refine⟨undef,w.setRow (lam b) arr,A,μ,lam,.inr ⟨?_,rfl⟩,?_⟩
  ·have hsz:(a.eval y).cells.size=n:=by simp at hnl;omega
   simp only[execOp,ho,Instr.storeAt,Sem.run_bind,ref_eval R hx hr hb,Instr.sureAddr,Sem.run_pure,Result.andThen_ok,storeVar,run_size g1,g2,hsz,ne_eq,not_true_eq_false,if_false]
   rw[hst];rfl
  ·rw[hnd];exact R1
 ·simp at he
theorem set_get {α:Type} {l:List α} {i j:Nat} {x y:α} (h:(l.set i x)[j]? =some y):(j=i/\y=x)\/(j≠i/\l[j]? =some y):=by
 rw[List.getElem?_set]at h
 by_cases e:i=j
 ·subst e
  left
  by_cases hlt:i<l.length
  ·simp[hlt]at h;exact⟨rfl,h.symm⟩
  ·simp[hlt]at h
 ·simp[e]at h
  exact .inr ⟨fun e'=>e e'.symm,h⟩
theorem s_store (hI:I.Ok N) (R:Rel N c ns A μ lam s a w) {t:TypeId} {x y:Operand} {x' y':Opd} {n:Nat} {ag:Bool} (hx:opd I x=some x') (hy:opd I y=some y') (hty:typ P t=some (ag,n)) (ho:o.op= .store t x y)
 (he:aeval N.G p s (.store n x' y')=some e) (hnd:o.dst=none):Sound P N c ns o a w (s.apply o.dst e):=by
 simp only[aeval,Option.bind_eq_bind,Option.bind_eq_some_iff]at he
 obtain⟨u,hu,he⟩:=he
 have hrep:=opd_eval hI R hx hu
 split at he
 ·rename_i k i off
  split at he
  ·rename_i sz rs hk
   simp only[Option.bind_eq_some_iff]at he
   obtain⟨row,hrow,v,hv,new,hnew,he⟩:=he
   split at he
   ·rename_i hlen
    simp only[Option.bind_eq_some_iff,Option.some.injEq]at he
    obtain⟨row',hw,rfl⟩:=he
    obtain⟨hpv,hi⟩:=hrep.mp_inv hk
    obtain⟨cc,e0,z,h1,h2,h3,h4,h5⟩:=R.heap k _ hk
    have hz:=h2 rfl
    subst hz
    have hrn:=(opd_eval hI R hy hv).cells hnew
    obtain⟨inf,g1,g2,g3,g4⟩:=typ_spec hty
    obtain⟨k1,k2,k3⟩:=wr_get hw
    have hrl:=h4 i row hrow
    have hnl:(a.eval y).cells.toList.length=new.length:=hrn.1
    have hrow_le:i*sz+sz<=cc.size:=by
     have:(i+1)*sz<=rs.length*sz:=Nat.mul_le_mul_right _ hi
     rw[Nat.succ_mul]at this;omega
    have hfit:(i*sz+off)+0+(a.eval y).cells.toList.length<=cc.size:=by omega
    have hst:=run_storeCells_at P (μ k) (i*sz+off) e0 (a.eval y).cells.toList 0 cc w h1 hfit hrn.one
    let arr:Array Value:=(cc.toList.take (i*sz+off+0)++(a.eval y).cells.toList++cc.toList.drop (i*sz+off+0+(a.eval y).cells.toList.length)).toArray
    have harr:wr cc.toList (i*sz+off) (a.eval y).cells.toList=some arr.toList:=by
     unfold wr
     rw[if_pos (by simpa using hfit)]
     simp[arr]
    obtain⟨j1,j2,j3⟩:=wr_get harr
    have R1:=R.changeH (o':= .rows sz (rs.set i row') false) (w':=w.setRow (μ k) arr) hk ⟨rfl,by simp⟩ rfl (by simp) (by simp) rfl (by simp) (fun r hr=>setRow_other w _ r _ hr)
     (shape?_setRow h1 (by simpa using j2)) (fun E=>by
       refine⟨arr,e0,(0,0),setRow_heap w _ cc arr e0 _ h1,fun _=>rfl,?_,?_,?_⟩
       ·have:arr.size=cc.size:=by simpa using j2
        simp;omega
       ·intro i' row1 hr1
        rcases set_get hr1 with⟨rfl,rfl⟩ | ⟨_,hr1⟩
        ·omega
        ·exact h4 i' row1 hr1
       ·intro i' row1 j x hr1 hj
        have hget: ∀q,arr[q]? =arr.toList[q]? :=fun q=>by rw[Array.getElem?_toList]
        rw[hget,j3]
        rcases set_get hr1 with⟨rfl,rfl⟩ | ⟨hii,hr1⟩
        ·have hjl:j<sz:=by have:=(List.getElem?_eq_some_iff.1 hj).1;omega
         rw[k3 j]at hj
         split at hj
         ·rename_i hin
          rw[if_pos (by omega)]
          obtain⟨q,hq,hqr⟩:=hrn.2 _ x hj
          refine⟨q,?_,hqr.evo E⟩
          have:i'*sz+j-(i'*sz+off)=j-off:=by omega
          rw[this];exact hq
         ·rename_i hin
          rw[if_neg (by omega)]
          obtain⟨q,hq,hqr⟩:=h5 i' row j x hrow hj
          exact⟨q,by simpa using hq,hqr.evo E⟩
        ·have hjl:j<sz:=by have:=(List.getElem?_eq_some_iff.1 hj).1;have:=h4 i' row1 hr1;omega
         have hne: ¬(i*sz+off<=i'*sz+j/\i'*sz+j<i*sz+off+(a.eval y).cells.toList.length):=by
          intro hh
          rcases Nat.lt_or_gt_of_ne hii with hlt | hlt
          ·have:(i'+1)*sz<=i*sz:=Nat.mul_le_mul_right _ hlt
           rw[Nat.succ_mul]at this;omega
          ·have:(i+1)*sz<=i'*sz:=Nat.mul_le_mul_right _ hlt
           rw[Nat.succ_mul]at this;omega
         rw[if_neg hne]
         obtain⟨q,hq,hqr⟩:=h5 i' row1 j x hr1 hj
         exact⟨q,by simpa using hq,hqr.evo E⟩)
    refine⟨undef,w.setRow (μ k) arr,A,μ,lam,.inr ⟨?_,rfl⟩,?_⟩
    ·have hsz:(a.eval y).cells.size=n:=by simp at hnl;omega
     simp only[execOp,ho,Instr.storeAt,Sem.run_bind,hpv,Instr.sureAddr,Sem.run_pure,Result.andThen_ok,storeVar,run_size g1,g2,hsz,ne_eq,not_true_eq_false,if_false]
     rw[hst];rfl
    ·rw[hnd];exact R1
   ·simp at he
  ·simp at he
 ·simp at he
end
section
variable {N:Nam} {c:Ctx} {ns:Nat} {A:Nat->Prop} {μ lam:Nat->Nat} {s:St} {a:Act} {w:World}
theorem Rel.growA (R:Rel N c ns A μ lam s a w) (B:Nat->Prop) (hl: ∀r,B r-> ∀t,(s.loc t).isSome=true->lam t≠r) (hh: ∀r,B r-> ∀k o,s.heap k=some o->o.live=true->μ k≠r)
 (hx: ∀r,B r->c.X r\/c.w0.heap.size<=r) (hlt: ∀r,B r->r<w.heap.size) (hmk:Marks c (fun r=>A r\/B r) w a.defers):Rel N c ns (fun r=>A r\/B r) μ lam s a w:=by
 have E:Evo w A μ s.heap w (fun r=>A r\/B r) μ s.heap:=⟨fun _ _=>rfl,fun _ h=> .inl h,fun _ o h=>⟨o,h,O.le_refl o,fun _=>rfl⟩,fun _ _ h=>h⟩
 refine{ R with defers:=hmk,env:=fun t=>(R.env t).evo E,loc:= ?_,heap:= ?_,aH:= ?_,aL:= ?_,alt:= ?_,afz:=fun k sz rs h=> .inl (R.afz k sz rs h),glob:= ?_,csub:= ?_,canew:= ?_ }
 ·intro t cs h
  obtain⟨h1,h2⟩:=R.loc t cs h
  exact⟨h1,h2.evo E rfl⟩
 ·intro k o h;exact(R.heap k o h).evo E rfl
 ·rintro r (h | h) hm
  ·exact R.aH r h hm
  ·obtain⟨k,o,h1,h2,h3,h4⟩:=hm
   exact hh r h k o h1 h3 h4
 ·rintro r (h | h) hm
  ·exact R.aL r h hm
  ·obtain⟨t,h1,h2⟩:=hm
   exact hl r h t h1 h2
 ·rintro r (h | h)
  ·exact R.alt r h
  ·exact hlt r h
 ·intro g j x h
  obtain⟨h1,hte,v,hv,hr⟩:=R.glob g j x h
  exact⟨.inl h1,hte,v,hv,hr.mono E.blk E.sub⟩
 ·intro r h;exact .inl (R.csub r h)
 ·rintro r (h | h)
  ·exact R.canew r h
  ·exact .inr (hx r h)
end
end Rg
end
section
namespace Rg
open Go
def RowsRep (w:World) (A:Nat->Prop) (nm μ:Nat->Nat) (H:Nat->Option O) (sz:Nat) (cs:List Value) (rs:List (List V)):Prop:=
 cs.length=rs.length*sz/\(∀(i:Nat) (row:List V),rs[i]? =some row->row.length=sz)/\
  ∀(i:Nat) (row:List V) (j:Nat) (x:V),rs[i]? =some row->row[j]? =some x-> ∃v,cs[i*sz+j]? =some v/\RepC w A nm μ H v x
section
variable {w w' : World} {A A' : Nat->Prop} {nm μ μ' : Nat->Nat} {H H' : Nat->Option O} {sz:Nat}
theorem RowsRep.evo {cs:List Value} {rs:List (List V)} (h:RowsRep w A nm μ H sz cs rs) (E:Evo w A μ H w' A' μ' H'):RowsRep w' A' nm μ' H' sz cs rs:=
 ⟨h.1,h.2.1,fun i row j x h1 h2=>let⟨v,hv,hr⟩:=h.2.2 i row j x h1 h2;⟨v,hv,hr.evo E⟩⟩
theorem row_lt {i j n sz:Nat} (hi:i<n) (hj:j<sz):i*sz+j<n*sz:=by
 have:(i+1)*sz<=n*sz:=Nat.mul_le_mul_right _ hi
 rw[Nat.succ_mul]at this;omega
theorem RowsRep.append {cs ds:List Value} {rs ts:List (List V)} (h:RowsRep w A nm μ H sz cs rs) (h':RowsRep w A nm μ H sz ds ts):RowsRep w A nm μ H sz (cs++ds) (rs++ts):=by
 refine⟨by simp[h.1,h'.1,Nat.add_mul],fun i row hi=> ?_,fun i row j x hi hj=> ?_⟩
 ·rw[List.getElem?_append]at hi
  split at hi
  ·exact h.2.1 i row hi
  ·exact h'.2.1 _ row hi
 ·rw[List.getElem?_append]at hi
  split at hi
  ·rename_i hlt
   obtain⟨v,hv,hr⟩:=h.2.2 i row j x hi hj
   refine⟨v,?_,hr⟩
   rw[List.getElem?_append_left (List.getElem?_eq_some_iff.1 hv).1];exact hv
  ·rename_i hge
   obtain⟨v,hv,hr⟩:=h'.2.2 _ row j x hi hj
   refine⟨v,?_,hr⟩
   have e:i*sz=rs.length*sz+(i-rs.length)*sz:=by rw[<- Nat.add_mul];congr 1;omega
   rw[List.getElem?_append_right (by rw[h.1];omega)]
   have:i*sz+j-cs.length=(i-rs.length)*sz+j:=by rw[h.1];omega
   rw[this];exact hv
theorem RowsRep.take {cs:List Value} {rs:List (List V)} (h:RowsRep w A nm μ H sz cs rs) (m:Nat) (hm:m<=rs.length):RowsRep w A nm μ H sz (cs.take (m*sz)) (rs.take m):=by
 have hle:m*sz<=rs.length*sz:=Nat.mul_le_mul_right _ hm
 refine⟨by simp[h.1,Nat.min_eq_left hm,Nat.min_eq_left hle],fun i row hi=> ?_,fun i row j x hi hj=> ?_⟩
 ·rw[List.getElem?_take]at hi
  split at hi
  ·exact h.2.1 i row hi
  ·simp at hi
 ·rw[List.getElem?_take]at hi
  split at hi
  ·rename_i hlt
   obtain⟨v,hv,hr⟩:=h.2.2 i row j x hi hj
   have hjl:j<sz:=by rw[<- h.2.1 i row hi];exact(List.getElem?_eq_some_iff.1 hj).1
   refine⟨v,?_,hr⟩
   rw[List.getElem?_take,if_pos (row_lt hlt hjl)];exact hv
  ·simp at hi
theorem RowsRep.nil:RowsRep w A nm μ H sz [] []:=⟨by simp,by simp,by simp⟩
theorem RowsRep.one {cs:List Value} {rs:List (List V)} (h:RowsRep w A nm μ H sz cs rs) (hsz:0<sz): ∀v∈cs,v.oneCell'=true:=by
 intro v hv
 obtain⟨q,hq,he⟩:=List.getElem_of_mem hv
 have hlt:q<rs.length*sz:=by rw[<- h.1];exact hq
 have hi:q/ sz<rs.length:=Nat.div_lt_of_lt_mul (by rw[Nat.mul_comm];exact hlt)
 have hrow:=h.2.1 (q/ sz) _ (List.getElem?_eq_getElem hi)
 have hj:q % sz<(rs[q/ sz]).length:=by rw[hrow];exact Nat.mod_lt _ hsz
 obtain⟨u,hu,hr⟩:=h.2.2 (q/ sz) _ (q % sz) _ (List.getElem?_eq_getElem hi) (List.getElem?_eq_getElem hj)
 have e:q/ sz*sz+q % sz=q:=by rw[Nat.mul_comm];exact Nat.div_add_mod q sz
 rw[e,List.getElem?_eq_getElem hq,he]at hu
 cases hu;exact hr.one
end
section
variable {P:Program} {N:Nam} {I:Inv} {c:Ctx} {ns p:Nat} {A:Nat->Prop} {μ lam:Nat->Nat} {s:St} {a:Act} {w:World} {e:Eff} {o:Oper}
theorem first_cells0 (R:Rel N c ns A μ lam s a w) {v:Value} {x:V} {rs:List (List V)} {sz:Nat} (hns: ∀es,x≠ .t (.slc es)) (hrep:RepV w A N.nm μ s.heap v x) (hrows:rowsOf s x=some rs) (hall:rs.all (·.length=sz)=true):
 ∃ad cap cs,v= .slice ad rs.length cap/\rs.length<=cap/\RowsRep w A N.nm μ s.heap sz cs rs/\
  (∀w':World,(∀ad,w'.cell? ad=w.cell? ad)-> ∀m,m<=rs.length->(Builtin.firstCells sz m v).run P w'= .ok (cs.take (m*sz)).toArray w'):=by
 have hlen: ∀(i:Nat) (row:List V),rs[i]? =some row->row.length=sz:=by
  intro i row hi
  have:=List.all_eq_true.1 hall row (List.mem_of_getElem? hi)
  simpa using this
 have hempty: ∀ad cap,rs=[]->v= .slice ad 0 cap-> ∃ad cap cs,v= .slice ad rs.length cap/\rs.length<=cap/\RowsRep w A N.nm μ s.heap sz cs rs/\
  (∀w':World,(∀ad,w'.cell? ad=w.cell? ad)-> ∀m,m<=rs.length->(Builtin.firstCells sz m v).run P w'= .ok (cs.take (m*sz)).toArray w'):=by
  rintro ad cap rfl rfl
  refine⟨ad,cap,[],rfl,by simp,RowsRep.nil,fun w' _ m hm=> ?_⟩
  have:m=0:=by simpa using hm
  subst this
  cases ad with
  | none=>simp[Builtin.firstCells]
  | some ad=>simp[Builtin.firstCells,loadCells,loadCellsFrom]
 unfold rowsOf at hrows
 split at hrows
 ·simp only[Option.some.injEq]at hrows;subst hrows
  obtain⟨ad,rfl⟩:=hrep.t_inv.nils_inv
  exact hempty ad 0 rfl rfl
 ·rename_i es
  simp only[Option.some.injEq]at hrows;subst hrows
  rcases hrep.t_inv.sl_inv with⟨rfl,ad,cap,rfl⟩ | ⟨r,off,cap,sz',vf,rfl,h0,hc,hA,hs,hvv,hr⟩
  ·exact hempty ad cap rfl rfl
  ·have hsz:sz'=sz:=by
    have h1:=hs 0 es[0] (List.getElem?_eq_getElem h0)
    have h2:=hlen 0 (es[0].map V.t) (by simp[List.getElem?_map,List.getElem?_eq_getElem h0])
    simp at h2;omega
   subst hsz
   refine⟨some ⟨r,off,none⟩,cap,(List.range (es.length*sz')).map (fun q=>vf (q/ sz') (q % sz')),by simp,by simpa using hc,⟨by simp,hlen,?_⟩,?_⟩
   ·intro i row j x hi hj
    simp only[List.getElem?_map,Option.map_eq_some_iff]at hi
    obtain⟨e0,he0,rfl⟩:=hi
    simp only[List.getElem?_map,Option.map_eq_some_iff]at hj
    obtain⟨y,hy,rfl⟩:=hj
    have hil:i<es.length:=(List.getElem?_eq_some_iff.1 he0).1
    have hjl:j<sz':=by rw[<- hs i e0 he0];exact(List.getElem?_eq_some_iff.1 hy).1
    have hq:=row_lt hil hjl
    refine⟨vf i j,?_,.t (hr i e0 j y he0 hy)⟩
    rw[List.getElem?_map,List.getElem?_range hq]
    have h1:(i*sz'+j)/ sz'=i:=by rw[Nat.mul_comm,Nat.mul_add_div (by omega)];simp[Nat.div_eq_of_lt hjl]
    have h2:(i*sz'+j) % sz'=j:=by rw[Nat.mul_comm,Nat.mul_add_mod];exact Nat.mod_eq_of_lt hjl
    simp[h1,h2]
   ·intro w' hw' m hm
    simp only[List.length_map]at hm
    have hle:m*sz'<=es.length*sz':=Nat.mul_le_mul_right _ hm
    have hl:(((List.range (es.length*sz')).map (fun q=>vf (q/ sz') (q % sz'))).take (m*sz')).length=m*sz':=by rw[List.length_take,List.length_map,List.length_range];omega
    have:=run_loadCells_list (P:=P) (w:=w') ⟨r,off,none⟩ (((List.range (es.length*sz')).map (fun q=>vf (q/ sz') (q % sz'))).take (m*sz')) (fun q v hq=>by
     rw[List.getElem?_take]at hq
     split at hq
     ·rename_i hql
      have hql':q<es.length*sz':=by omega
      rw[List.getElem?_map,List.getElem?_range hql']at hq
      simp only[Option.map_some,Option.some.injEq]at hq;subst hq
      have hszp:0<sz':=by
       rcases Nat.eq_zero_or_pos sz' with h | h
       ·rw[h]at hql';simp at hql'
       ·exact h
      have hi:q/ sz'<es.length:=Nat.div_lt_of_lt_mul (by rw[Nat.mul_comm];exact hql')
      have hrow:=hs (q/ sz') _ (List.getElem?_eq_getElem hi)
      have hj:q % sz'<(es[q/ sz']).length:=by rw[hrow];exact Nat.mod_lt _ hszp
      have:=hvv (q/ sz') _ (q % sz') _ (List.getElem?_eq_getElem hi) (List.getElem?_eq_getElem hj)
      rw[addr_add,hw']
      have e:off+q/ sz'*sz'+q % sz'=off+q:=by rw[Nat.add_assoc,Nat.mul_comm,Nat.div_add_mod]
      rw[e]at this;exact this
     ·simp at hq)
    rw[hl]at this
    simp[Builtin.firstCells,this]
 ·rename_i es
  exact absurd rfl (hns es)
 ·rename_i k i len
  split at hrows
  ·rename_i sz' rs0 frz hk
   unfold rd at hrows
   split at hrows
   ·rename_i hle
    simp only[Option.some.injEq]at hrows;subst hrows
    have hlen':((rs0.drop i).take len).length=len:=by simp;omega
    cases(hrep:RepC w A N.nm μ s.heap v _)with
    | ms _ _ _ cap sz2 rs2 frz2 ad hk' hi' hc ha=>
      rw[hk]at hk';cases hk'
      rcases Nat.eq_zero_or_pos len with hl0 | hl0
      ·subst hl0
       exact hempty ad cap (by simp) rfl
      ·obtain⟨rfl,_⟩:=ha.resolve_left (by omega)
       obtain⟨cc,e0,z,h1,h2,h3,h4,h5⟩:=R.heap k _ hk
       have hsz:sz'=sz:=by
        have hil:i<rs0.length:=by omega
        have h6:=h4 i _ (List.getElem?_eq_getElem hil)
        have h7:=hlen 0 rs0[i] (by rw[List.getElem?_take,if_pos hl0,List.getElem?_drop];simp[List.getElem?_eq_getElem hil])
        omega
       subst hsz
       have hbound:(i+len)*sz'<=cc.size:=Nat.le_trans (Nat.mul_le_mul_right _ hle) h3
       have hcsl:((cc.toList.drop (i*sz')).take (len*sz')).length=len*sz':=by
        rw[Nat.add_mul]at hbound;simp;omega
       refine⟨_,cap,(cc.toList.drop (i*sz')).take (len*sz'),by rw[hlen'],by rw[hlen'];omega,⟨by rw[hcsl,hlen'],hlen,?_⟩,?_⟩
       ·intro i1 row j x hi1 hj
        rw[List.getElem?_take]at hi1
        split at hi1
        ·rename_i hlt
         rw[List.getElem?_drop]at hi1
         have hjl:j<sz':=by rw[<- h4 _ row hi1];exact(List.getElem?_eq_some_iff.1 hj).1
         obtain⟨v,hv,hr⟩:=h5 _ row j x hi1 hj
         refine⟨v,?_,hr⟩
         rw[List.getElem?_take,if_pos (row_lt hlt hjl),List.getElem?_drop,Array.getElem?_toList]
         rw[Nat.add_mul]at hv
         rw[<- Nat.add_assoc];exact hv
        ·simp at hi1
       ·intro w' hw' m hm
        rw[hlen']at hm
        have hle2:m*sz'<=len*sz':=Nat.mul_le_mul_right _ hm
        have hl:(((cc.toList.drop (i*sz')).take (len*sz')).take (m*sz')).length=m*sz':=by rw[List.length_take,hcsl];omega
        have:=run_loadCells_list (P:=P) (w:=w') ⟨μ k,i*sz',none⟩ (((cc.toList.drop (i*sz')).take (len*sz')).take (m*sz')) (fun q v hq=>by
         rw[List.getElem?_take]at hq
         split at hq
         ·rw[List.getElem?_take]at hq
          split at hq
          ·rw[List.getElem?_drop,Array.getElem?_toList]at hq
           rw[addr_add,hw'];simp[World.cell?,h1,hq]
          ·simp at hq
         ·simp at hq)
        rw[hl]at this
        simp[Builtin.firstCells,this]
    | dms _ _ _ hk'=>rw[hk]at hk';cases hk'
   ·simp at hrows
  ·simp at hrows
 ·simp at hrows
theorem first_cells (R:Rel N c ns A μ lam s a w) {v:Value} {x:V} {rs:List (List V)} {sz:Nat} (hrep:RepV w A N.nm μ s.heap v x) (hrows:rowsOf s x=some rs) (hall:rs.all (·.length=sz)=true):
 ∃ad cap cs,v= .slice ad rs.length cap/\rs.length<=cap/\RowsRep w A N.nm μ s.heap sz cs rs/\
  (∀w':World,(∀ad,w'.cell? ad=w.cell? ad)-> ∀m,m<=rs.length->(Builtin.firstCells sz m v).run P w'= .ok (cs.take (m*sz)).toArray w'):=by
 by_cases h: ∃es,x= .t (.slc es)
 ·obtain⟨es,rfl⟩:=h
  have h1:RepV w A N.nm μ s.heap v (.t (.sl es)):=by
   have h2:=hrep.t_inv
   cases h2 with
   | slc a _ h3=>exact(RepC.t h3).toV
  exact first_cells0 R (fun es' he=>by cases he) h1 hrows hall
 ·exact first_cells0 R (fun es he=>h ⟨es,he⟩) hrep hrows hall
theorem bytesOf_get: ∀{rs:List (List V)} {l:List UInt8},bytesOf rs=some l->l.length=rs.length/\ ∀(i:Nat) (b:UInt8),l[i]? =some b->rs[i]? =some [.t (.int .u8 b.toNat)]
 | [],l,h=>by simp only[bytesOf,Option.some.injEq]at h;subst h;simp
 | r::rs,l,h=>by
   unfold bytesOf at h
   split at h
   ·rename_i h0;cases h0
   ·rename_i z r' h0
    cases h0
    split at h
    ·rename_i hz
     simp only[Option.map_eq_some_iff]at h
     obtain⟨l',hl',rfl⟩:=h
     obtain⟨h1,h2⟩:=bytesOf_get hl'
     refine⟨by simp[h1],fun i b hi=> ?_⟩
     cases i with
     | zero=>
       simp only[List.getElem?_cons_zero,Option.some.injEq]at hi
       subst hi
       have:((UInt8.ofNat z.toNat).toNat:Int)=z:=by
        rw[UInt8.toNat_ofNat',Nat.mod_eq_of_lt (by omega)];omega
       rw[this];rfl
     | succ i=>simpa using h2 i b (by simpa using hi)
    ·cases h
   ·cases h
theorem s_bstr (hI:I.Ok N) (R:Rel N c ns A μ lam s a w) {src dst t:TypeId} {x:Operand} {x':Opd} (hx:opd I x=some x') (he:aeval N.G p s (.bstr x')=some e)
 (h1:P.underlying src=some (.slice t)) (h2:P.underlying dst=some .string) (h3:P.underlying t=some (.int .u8)):Gives N A μ s w ((convert src dst (a.eval x)).run P w) e:=by
 simp only[aeval,Option.bind_eq_bind,Option.bind_eq_some_iff,Option.some.injEq]at he
 obtain⟨u,hu,rs,hrs,l,hl,rfl⟩:=he
 obtain⟨b1,b2⟩:=bytesOf_get hl
 have hall:rs.all (·.length=1)=true:=by
  rw[List.all_eq_true]
  intro row hrow
  obtain⟨i,hi,rfl⟩:=List.getElem_of_mem hrow
  have hil:i<l.length:=by omega
  have:=b2 i l[i] (List.getElem?_eq_getElem hil)
  rw[List.getElem?_eq_getElem hi,Option.some.injEq]at this
  rw[this];rfl
 obtain⟨ad,cap,cs,hv,hcap,hrep,hload⟩:=first_cells (P:=P) R (opd_eval hI R hx hu) hrs hall
 have hcs:cs=(l.map fun b=>(b.toNat:Int)).map (Value.int .u8):=by
  apply List.ext_getElem?
  intro i
  by_cases hi:i<l.length
  ·obtain⟨v,hv1,hr⟩:=hrep.2.2 i _ 0 _ (b2 i l[i] (List.getElem?_eq_getElem hi)) rfl
   rw[Nat.mul_one,Nat.add_zero]at hv1
   cases hr.toV.int_inv
   rw[hv1];simp[hi]
  ·rw[List.getElem?_eq_none (by have:=hrep.1;omega),List.getElem?_eq_none (by simp;omega)]
 refine⟨.string ⟨l.toArray⟩,?_,(RepC.t (.str _)).toV,rfl,rfl,rfl,rfl⟩
 rw[hv]
 cases ad with
 | none=>
   have h0:=hload w (fun _=>rfl) rs.length (Nat.le_refl _)
   rw[hv]at h0
   simp only[Builtin.firstCells,Sem.run_pure]at h0
   have:l=[]:=by
    have h4:=congrArg (fun r=>match r with | Result.ok (x:Array Value) _=>x.size | _=>0) h0
    simp only[Nat.mul_one,List.size_toArray,List.length_take]at h4
    have h5:=hrep.1
    simp only[Nat.mul_one]at h5
    rw[h5,Nat.min_self]at h4
    exact List.eq_nil_of_length_eq_zero (by rw[b1];exact h4.symm)
   subst this
   rw[run_convert_bytes_string w src dst t none rs.length cap h1 h3 h2]
   simp only[Conv.bytesToString,Sem.run_pure]
   congr 1
 | some ad=>
   have h0:=hload w (fun _=>rfl) rs.length (Nat.le_refl _)
   rw[hv]at h0
   simp only[Builtin.firstCells]at h0
   rw[run_convert_bytes_string w src dst t (some ad) rs.length cap h1 h3 h2,run_bytesToString w ad rs.length cap (l.map fun b=>(b.toNat:Int)),foldl_push_byteCells]
   ·simp
   ·rw[<- hcs]
    have e:cs.take (rs.length*1)=cs:=by rw[List.take_of_length_le];rw[hrep.1];exact Nat.le_refl _
    rw[e,Nat.mul_one]at h0
    exact h0
end
end Rg
end
section
namespace Rg
open Go
section
variable {w:World} {A:Nat->Prop} {nm μ:Nat->Nat} {H:Nat->Option O} {sz:Nat}
theorem RowsRep.set {cs us cs':List Value} {rs:List (List V)} {new:List V} {i:Nat} (h:RowsRep w A nm μ H sz cs rs) (hn:RepL w A nm μ H us new) (hl:new.length=sz) (hi:i<rs.length)
 (hcl:cs'.length=cs.length) (hg: ∀k,k<cs.length->cs'[k]? =if i*sz<=k/\k<i*sz+us.length then us[k-i*sz]? else cs[k]?):RowsRep w A nm μ H sz cs' (rs.set i new):=by
 refine⟨by simp[hcl,h.1],fun i' row hr=> ?_,fun i' row j x hr hj=> ?_⟩
 ·rcases set_get hr with⟨rfl,rfl⟩ | ⟨_,hr⟩
  ·exact hl
  ·exact h.2.1 i' row hr
 ·have hul:us.length=sz:=by rw[hn.1,hl]
  rcases set_get hr with⟨rfl,rfl⟩ | ⟨hne,hr⟩
  ·have hjl:j<sz:=by rw[<- hl];exact(List.getElem?_eq_some_iff.1 hj).1
   obtain⟨v,hv,hrep⟩:=hn.2 j x hj
   refine⟨v,?_,hrep⟩
   rw[hg _ (by rw[h.1];exact row_lt hi hjl),if_pos (by omega)]
   have:i'*sz+j-i'*sz=j:=by omega
   rw[this];exact hv
  ·have hjl:j<sz:=by rw[<- h.2.1 i' row hr];exact(List.getElem?_eq_some_iff.1 hj).1
   have hil:i'<rs.length:=(List.getElem?_eq_some_iff.1 hr).1
   obtain⟨v,hv,hrep⟩:=h.2.2 i' row j x hr hj
   refine⟨v,?_,hrep⟩
   rw[hg _ (by rw[h.1];exact row_lt hil hjl),if_neg]
   ·exact hv
   ·intro hh
    rcases Nat.lt_or_gt_of_ne hne with hlt | hlt
    ·have:=Nat.mul_le_mul_right sz (Nat.succ_le_of_lt hlt)
     rw[Nat.succ_mul]at this;omega
    ·have:=Nat.mul_le_mul_right sz (Nat.succ_le_of_lt hlt)
     rw[Nat.succ_mul]at this;omega
theorem RowsRep.replicate {zv:Array Value} {z:List V} (h:RepL w A nm μ H zv.toList z) (hl:z.length=sz) (len n:Nat) (hn:n=len*sz):
 RowsRep w A nm μ H sz ((Array.range n).map (zv[· % zv.size]!)).toList (List.replicate len z):=by
 subst hn
 have hsz:zv.size=sz:=by have:=h.1;simp at this;omega
 refine⟨by simp,fun i row hr=> ?_,fun i row j x hr hj=> ?_⟩
 ·rw[List.getElem?_replicate]at hr
  split at hr
  ·simp at hr;rw[<- hr,hl]
  ·simp at hr
 ·rw[List.getElem?_replicate]at hr
  split at hr
  ·rename_i hlt
   simp only[Option.some.injEq]at hr;subst hr
   have hjl:j<sz:=by rw[<- hl];exact(List.getElem?_eq_some_iff.1 hj).1
   obtain⟨v,hv,hrep⟩:=h.2 j x hj
   refine⟨v,?_,hrep⟩
   have hq:=row_lt hlt hjl
   have hm:(i*sz+j) % sz=j:=by rw[Nat.mul_comm,Nat.mul_add_mod];exact Nat.mod_eq_of_lt hjl
   simp only[Array.getElem?_toList]at hv
   have hjz:j<zv.size:=by omega
   simp only[Array.toList_map,Array.toList_range,List.getElem?_map,List.getElem?_range hq,Option.map_some,hsz,hm]
   rw[Array.getElem?_eq_getElem hjz]at hv
   simp only[Option.some.injEq]at hv
   simp[hjz,hv]
  ·simp at hr
end
section
variable {P:Program} {N:Nam} {I:Inv} {c:Ctx} {ns p:Nat} {A:Nat->Prop} {μ lam:Nat->Nat} {s:St} {a:Act} {w:World} {e:Eff} {o:Oper}
theorem fillRows_rep (hI:I.Ok N) (R:Rel N c ns A μ lam s a w) (sz:Nat): ∀(parts:List (Nat×Operand)) (ps:List (Nat×Opd)) (cells:Array Value) (rs rs':List (List V)),
 (parts.length=ps.length/\ ∀(i:Nat) (q:Nat×Opd),ps[i]? =some q-> ∃x,parts[i]? =some x/\x.1=q.1/\opd I x.2=some q.2)->
 RowsRep w A N.nm μ s.heap sz cells.toList rs->fillRows N.G rs sz s ps=some rs'->
 ∃cells',Instr.fill (fun i=>some (i*sz,sz)) cells (parts.map fun x=>(x.1,a.eval x.2))=some cells'/\RowsRep w A N.nm μ s.heap sz cells'.toList rs'/\rs'.length=rs.length
 | [],ps,cells,rs,rs',hps,hrep,hf=>by
   obtain⟨hl,_⟩:=hps
   have:ps=[]:=List.length_eq_zero_iff.1 (by simpa using hl.symm)
   subst this
   simp only[fillRows,Option.some.injEq]at hf;subst hf
   exact⟨cells,rfl,hrep,rfl⟩
 | (i,x)::parts,[],cells,rs,rs',hps,hrep,hf=>by simp at hps
 | (i,x)::parts,(i',y)::ps,cells,rs,rs',hps,hrep,hf=>by
   obtain⟨hl,hq⟩:=hps
   obtain⟨q0,hq0,hpl,hop⟩:=hq 0 _ rfl
   simp only[List.getElem?_cons_zero,Option.some.injEq]at hq0;subst hq0
   simp only at hpl hop
   subst hpl
   simp only[fillRows,Option.bind_eq_bind,Option.bind_eq_some_iff]at hf
   obtain⟨v,hv,new,hnew,hf⟩:=hf
   split at hf
   ·rename_i hlen
    obtain⟨hlen,hil⟩:=hlen
    have hr:=(opd_eval hI R hop hv).cells hnew
    have hsz:(a.eval x).cells.size=sz:=by have:=hr.1;simp at this;omega
    have hcl:cells.size=rs.length*sz:=by have:=hrep.1;simpa using this
    obtain⟨f1,f2⟩:=fold_set (i*sz) (a.eval x).cells.toList 0 cells
    have hrep1:RowsRep w A N.nm μ s.heap sz (((a.eval x).cells.toList.zipIdx 0).foldl (fun cs (x:Value×Nat)=>match x with | (c,j)=>cs.setIfInBounds (i*sz+j) c) cells).toList (rs.set i new):=by
     refine hrep.set hr hlen hil (by simpa using f1) (fun k hk=> ?_)
     simp only[Array.getElem?_toList]
     rw[f2 k]
     simp only[Nat.add_zero,Array.length_toList]at hk⊢
     by_cases hc:i*sz<=k/\k<i*sz+(a.eval x).cells.size
     ·rw[if_pos ⟨hc.1,hc.2,hk⟩,if_pos hc];simp
     ·rw[if_neg (by omega),if_neg hc]
    obtain⟨cells',h1,h2,h3⟩:=fillRows_rep hI R sz parts ps _ (rs.set i new) rs' ⟨by simpa using hl,fun i q hi=>by
     obtain⟨z,hz,hz2⟩:=hq (i+1) q (by simpa using hi)
     exact⟨z,by simpa using hz,hz2⟩⟩ hrep1 hf
    refine⟨cells',?_,h2,by simpa using h3⟩
    have hfit:i*sz+sz<=cells.size:=by
     rw[hcl]
     have:=Nat.mul_le_mul_right sz (Nat.succ_le_of_lt hil)
     rw[Nat.succ_mul]at this;exact this
    simp only[List.map_cons,Instr.fill,hsz]
    rw[<- h1]
    have:(decide (sz≠sz)||decide (i*sz+sz>cells.size))=false:=by simp;omega
    simp only[this,Bool.false_eq_true,if_false]
    congr 1
    rw[<- Array.foldl_toList]
    simp
   ·simp at hf
theorem newS (R:Rel N c ns A μ lam s a w) {k sz cap:Nat} {cells:Array Value} {cs:List Value} {rs:List (List V)} {t:TypeId} {d:Option Nat} (hk:s.heap k=none) (hn:k<s.nxt)
 (hrs:RowsRep w A N.nm μ s.heap sz cs rs) (hpre: ∀(q:Nat) (v:Value),cs[q]? =some v->cells[q]? =some v) (hsize:cap*sz<=cells.size) (hcap:rs.length<=cap)
 (hd: ∀x,d=some x->x<ns) (hf:s.free d {}):
 Rel N c ns A (upd μ k w.heap.size) lam (s.apply d { val:=.ms k 0 rs.length,hp:=[(k,.rows sz rs false)] }) (a.put d (.slice (some ⟨w.heap.size,0,none⟩) rs.length cap)) (w.alloc (.cells cells t)):=by
 have R1:=newH R (t:=t) (cells:=cells) hk hn (Nat.le_trans (Nat.mul_le_mul_right _ hcap) hsize) hrs.2.1 (fun i row j x h1 h2=>by
  obtain⟨v,hv,hr⟩:=hrs.2.2 i row j x h1 h2
  exact⟨v,hpre _ v hv,hr⟩)
 refine R1.put d { val:=.ms k 0 rs.length } _ hd hf rfl rfl rfl ?_ (by simp)
 have:=RepC.ms (w:=w.alloc (.cells cells t)) (A:=A) (nm:=N.nm) (μ:=upd μ k w.heap.size) (H:=upd s.heap k (some (.rows sz rs false))) k 0 rs.length cap sz rs false (some ⟨w.heap.size,0,none⟩) (by simp) (by simp) (by omega)
  (.inr ⟨by simp,t,cells.size,by rw[upd_same];unfold World.shape?;rw[heap_alloc],by simpa using hsize⟩)
 exact this.toV
theorem s_bslice (hI:I.Ok N) (R:Rel N c ns A μ lam s a w) {t el:TypeId} {n len:Nat} {ag:Bool} {z:List V} {parts:Array (Nat×Operand)} {ps:List (Nat×Opd)}
 (ht:P.underlying t=some (.slice el)) (hty:typ P el=some (ag,n)) (hz:zeroOf P el=some z) (hzl:z.length=n) (hlen:len*n<=2^24)
 (hps:parts.toList.length=ps.length/\ ∀(i:Nat) (q:Nat×Opd),ps[i]? =some q-> ∃x,parts.toList[i]? =some x/\x.1=q.1/\opd I x.2=some q.2) (ho:o.op= .buildSlice t len parts)
 (hd: ∀x,o.dst=some x->x<ns) (hf:s.free o.dst e) (hk:s.heap (s.bas+p)=none) (hn:s.bas+p<s.nxt) (he:aeval N.G p s (.bslice n len z ps)=some e):Sound P N c ns o a w (s.apply o.dst e):=by
 simp only[aeval,Option.bind_eq_bind,Option.bind_eq_some_iff,Option.some.injEq]at he
 obtain⟨rs,hrs,rfl⟩:=he
 obtain⟨i,v,hi,hv,hc,hrun⟩:=zeroOf_spec hz
 obtain⟨inf,g1,g2,g3,g4⟩:=typ_spec hty
 have hmap:(parts.map fun(i,x)=>(i,a.eval x)).toList=parts.toList.map fun x=>(x.1,a.eval x.2):=by simp
 have hnot: ¬(len*n>2^24):=by omega
 obtain⟨zero,hzero,hinit⟩: ∃zero:Array Value,zero=(if len*n=0 then #[]else v.cells)/\
  RowsRep w A N.nm μ s.heap n ((Array.range (len*n)).map (zero[· % zero.size]!)).toList (List.replicate len z):=by
  by_cases h0:len*n=0
  ·refine⟨#[],by rw[if_pos h0],?_⟩
   rcases Nat.mul_eq_zero.1 h0 with h | h
   ·subst h;simp;exact RowsRep.nil
   ·subst h
    refine⟨by simp,fun i row hr=> ?_,fun i row j x hr hj=> ?_⟩
    ·rw[List.getElem?_replicate]at hr;split at hr
     ·simp at hr;rw[<- hr,hzl]
     ·simp at hr
    ·rw[List.getElem?_replicate]at hr;split at hr
     ·simp at hr;subst hr
      have:=List.length_eq_zero_iff.1 hzl;subst this;simp at hj
     ·simp at hr
  ·exact⟨v.cells,by rw[if_neg h0],RowsRep.replicate (cellsOf_rep hc) hzl len _ rfl⟩
 obtain⟨cells',h1,h2,h3⟩:=fillRows_rep hI R n parts.toList ps _ _ rs hps hinit hrs
 simp only[List.length_replicate]at h3
 subst h3
 have hcl:cells'.size=rs.length*n:=by have:=h2.1;simpa using this
 refine⟨_,_,A,_,lam,.inl ?_,newS R (t:=el) (cap:=rs.length) (d:=o.dst) (cells:=cells') hk hn h2 (by simp) (by rw[hcl];exact Nat.le_refl _) (Nat.le_refl _) hd hf⟩
 by_cases h0:rs.length*n=0
 ·rw[if_pos h0]at hzero;subst hzero
  simp only[execOp,ho,Instr.buildSlice,Sem.run_bind,run_und ht,Result.andThen_ok,run_size g1,g2,hnot,if_false,hmap,newRow,Sem.run_pure]
  rw[if_pos h0]
  simp only[Sem.run_pure,Result.andThen_ok,h1,Sem.run_bind,run_newObj]
  rfl
 ·rw[if_neg h0]at hzero;subst hzero
  simp only[execOp,ho,Instr.buildSlice,Sem.run_bind,run_und ht,Result.andThen_ok,run_size g1,g2,hnot,if_false,h0,hrun,hmap,h1,newRow,run_newObj,Sem.run_pure]
  rfl
theorem wrap_small {m:Int} (h0:0<=m) (h1:m<=2^32):IntKind.i64.wrap m=m:=by
 unfold IntKind.wrap
 have e:m % (2^IntKind.i64.bits:Int)=m:=Int.emod_eq_of_lt h0 (by simp[IntKind.bits];omega)
 simp only[e]
 have : ¬(m>=(2^(IntKind.i64.bits-1):Int)):=by simp[IntKind.bits];omega
 simp[this]
theorem s_mkslice (hI:I.Ok N) (R:Rel N c ns A μ lam s a w) {t el:TypeId} {n:Nat} {ag:Bool} {z:List V} {i:TypeInfo} {x y:Operand} {x' y':Opd}
 (hx:opd I x=some x') (hy:opd I y=some y') (ht:P.underlying t=some (.slice el)) (hty:typ P el=some (ag,n)) (hz:zeroOf P el=some z) (hi:P.info? el=some i) (ho:o.op= .makeSlice t x y) (hn0:0<n)
 (hd: ∀x,o.dst=some x->x<ns) (hf:s.free o.dst e) (hk:s.heap (s.bas+p)=none) (hn:s.bas+p<s.nxt) (he:aeval N.G p s (.mkslice n i.bytes z x' y')=some e):Sound P N c ns o a w (s.apply o.dst e):=by
 simp only[aeval,Option.bind_eq_bind,Option.bind_eq_some_iff]at he
 obtain⟨l,hl,m,hm,he⟩:=he
 split at he
 ·rename_i hb
  obtain⟨hb0,hb1,hb2,hb3,hzl⟩:=hb
  simp only[Option.some.injEq]at he;subst he
  obtain⟨kl,hkl⟩:=int_eval hI R hx hl
  obtain⟨km,hkm⟩:=int_eval hI R hy hm
  obtain⟨i',v,hi',hv,hc,hrun⟩:=zeroOf_spec hz
  obtain⟨inf,g1,g2,g3,g4⟩:=typ_spec hty
  have hwl:=wrap_small hb0 (by omega:l<=2^32)
  have hwm:=wrap_small (by omega:(0:Int)<=m) hb2
  have hbig: ¬((i.bytes:Int)*m>2^48):=by
   have h1:(i.bytes:Int)*m<=2^12*2^32:=Int.mul_le_mul (by omega) hb2 (by omega) (by omega)
   omega
  obtain⟨zero,hzero,hinit⟩: ∃zero:Array Value,zero=(if m.toNat*n=0 then #[]else v.cells)/\
   RowsRep w A N.nm μ s.heap n ((Array.range (m.toNat*n)).map (zero[· % zero.size]!)).toList (List.replicate m.toNat z):=by
   by_cases h0:m.toNat*n=0
   ·refine⟨#[],by rw[if_pos h0],?_⟩
    rcases Nat.mul_eq_zero.1 h0 with h | h
    ·rw[h];simp;exact RowsRep.nil
    ·omega
   ·exact⟨v.cells,by rw[if_neg h0],RowsRep.replicate (cellsOf_rep hc) hzl m.toNat _ rfl⟩
  have hpre:=hinit.take l.toNat (by simp;omega)
  have htake:(List.replicate m.toNat z).take l.toNat=List.replicate l.toNat z:=by
   rw[List.take_replicate];congr 1;omega
  rw[htake]at hpre
  have hres:=newS R (t:=el) (cap:=m.toNat) (d:=o.dst) (cells:=(Array.range (m.toNat*n)).map (zero[· % zero.size]!)) hk hn hpre (fun q v hq=>by
   rw[List.getElem?_take]at hq
   split at hq
   ·rw[<- Array.getElem?_toList];exact hq
   ·simp at hq) (by simp) (by simp;omega) hd hf
  simp only[List.length_replicate]at hres
  refine⟨_,_,A,_,lam,.inl ?_,hres⟩
  have hcond:(decide (m<0)||decide ((i.bytes:Int)*m>2^48))=false:=by simp;omega
  have c1:decide (l<0)=false:=by simp;omega
  have c2:decide (l>m)=false:=by simp;omega
  by_cases h0:m.toNat*n=0
  ·rw[if_pos h0]at hzero;subst hzero
   simp only[execOp,ho,Instr.makeSlice,Sem.run_bind,run_und ht,Result.andThen_ok,hkl,hkm,asInt,asIntOf,Sem.run_pure,run_info hi,hwl,hwm,hcond,c1,c2,Bool.or_false,Bool.false_eq_true,if_false,run_askRoom,run_size g1,g2,h0,if_true,newRow,run_newObj]
   rfl
  ·rw[if_neg h0]at hzero;subst hzero
   simp only[execOp,ho,Instr.makeSlice,Sem.run_bind,run_und ht,Result.andThen_ok,hkl,hkm,asInt,asIntOf,Sem.run_pure,run_info hi,hwl,hwm,hcond,c1,c2,Bool.or_false,Bool.false_eq_true,if_false,run_askRoom,run_size g1,g2,h0,hrun,newRow,run_newObj]
   rfl
 ·simp at he
end
end Rg
end
