/- Part of the proof of laws of relyguardtop. No condition. -/
import Derived.Test.YtoidcnbdndioaaaGreatDoorKartAB
import Derived.Laws.IdiomStrings
import Derived.Deep.AppendSrc
set_option linter.unusedVariables false
set_option linter.unusedSimpArgs false
section
namespace Rg
open Go
def zeB (P:Program) (N:Nam) (c:Ctx) (ns:Nat) (o:Oper) (a:Act) (w:World) (s':St):Prop:=
 ∃v w' A' μ' lam',((execOp a.eval o).run P w= .ok (.value v) w'\/((execOp a.eval o).run P w= .ok .skip w'/\v=undef))/\Rel N c ns A' μ' lam' s' (a.put o.dst v) w'
section
variable {P:Program} {N:Nam} {I:Inv} {c:Ctx} {ns p:Nat} {A:Nat->Prop} {μ lam:Nat->Nat} {s:St} {a:Act} {w:World} {e:Eff} {o:Oper}
theorem zdb.sound (R:Rel N c ns A μ lam s a w) {r:Result Value} (h:zdb N A μ s w r e) (hr:(execOp a.eval o).run P w=r.andThen fun v w'=> .ok (.value v) w')
 (hd: ∀x,o.dst=some x->x<ns) (hf:s.free o.dst e):zeB P N c ns o a w (s.apply o.dst e):=by
 obtain⟨v,rfl,hv,h1,h2,h3,h4⟩:=h;exact⟨v,w,A,μ,lam,.inl (by rw[hr];rfl),R.put o.dst e v hd hf h2 h3 h4 hv (by simp[h1])⟩
theorem zjq (R:Rel N c ns A μ lam s a w) (ob:Go.Obj):Evo w A μ s.heap (w.alloc ob) A μ s.heap:=by
 refine⟨fun r h=> ?_,fun _ h=>h,fun _ o h=>⟨o,h,O.le_refl o,fun _=>rfl⟩,fun r x h=>shape?_push w ob r x h⟩;have:=R.alt r h;simp only[World.alloc,Array.getElem?_push];simp[Nat.ne_of_lt this]
theorem zdT (w:World) (ob:Go.Obj):(w.alloc ob).heap[w.heap.size]? =some ob:=by
 simp only[World.alloc,Array.getElem?_push];simp
theorem zCF (R:Rel N c ns A μ lam s a w) {d:Nat} {cells:Array Value} {cs:List V} {t:TypeId} (hd:d<ns) (hu:s.used d=false) (Ae:zfk w A N.nm μ s.heap cells.toList cs):
 Rel N c ns A μ (upd lam d w.heap.size) (s.apply (some d) { val:=.lb,loc:=some cs }) (a.put (some d) (.pointer (some ⟨w.heap.size,0,none⟩))) (w.alloc (.cells cells t)):=
 (R.alloc _).adoptL d hd hu R.orphan_new ⟨cells,t,zdT w _,Ae.evo (zjq R _)⟩
theorem zBx (R:Rel N c ns A μ lam s a w) {k sz:Nat} {cells:Array Value} {rs:List (List V)} {t:TypeId} (hk:s.heap k=none) (hn:k<s.nxt)
 (h1:rs.length*sz<=cells.size) (h2: ∀(i:Nat) (row:List V),rs[i]? =some row->row.length=sz)
 (h3: ∀(i:Nat) (row:List V) (j:Nat) (x:V),rs[i]? =some row->row[j]? =some x-> ∃v,cells[i*sz+j]? =some v/\RepC w A N.nm μ s.heap v x):
 Rel N c ns A (upd μ k w.heap.size) lam { s with heap:=upd s.heap k (some (.rows sz rs false)) } a (w.alloc (.cells cells t)):=
 (R.alloc _).adoptH (o:=.rows sz rs false) hk hn R.orphan_new ⟨cells,t,(0,0),zdT w _,fun _=>rfl,h1,h2,fun i row j x g1 g2=>let⟨v,hv,hr⟩:=h3 i row j x g1 g2;⟨v,hv,hr.evo (zjq R _)⟩⟩ (by simp)
theorem zr4 {cells:Array Value} {cs:List V} (Ae:zfk w A N.nm μ s.heap cells.toList cs):
 [cs].length*cs.length<=cells.size/\(∀(i:Nat) (row:List V),[cs][i]? =some row->row.length=cs.length)/\
 ∀(i:Nat) (row:List V) (j:Nat) (x:V),[cs][i]? =some row->row[j]? =some x-> ∃v,cells[i*cs.length+j]? =some v/\RepC w A N.nm μ s.heap v x:=by
 have hl:=Ae.1;simp only[Array.length_toList]at hl;refine⟨by simp[hl],fun i row h=> ?_,fun i row j x h1 h2=> ?_⟩
 ·cases i with
  | zero=>simp at h;rw[h]
  | succ i=>simp at h
 ·cases i with
  | zero=>
    simp at h1;subst h1;obtain⟨v,hv,hr⟩:=Ae.2 j x h2
    exact⟨v,by simpa using hv,hr⟩
  | succ i=>simp at h1
theorem zt8 (R:Rel N c ns A μ lam s a w) {t:TypeId} {z:List V} {d:Nat} (hz:zdc P t=some z) (ho:o.op= .alloc t) (AI:o.dst=some d)
 (hd: ∀x,o.dst=some x->x<ns) (hf:s.free o.dst e) (he:zaj N.G p s (.allocL z)=some e):zeB P N c ns o a w (s.apply o.dst e):=by
 simp only[zaj,zA]at he;subst he;obtain⟨i,v,hi,hv,hc,Am⟩:=zb4 hz;refine⟨_,_,A,μ,_,.inl ?_,by rw[AI];exact zCF R (t:=t) (hd d AI) (hf d AI).1 (zbT hc)⟩;simp[execOp,ho,Instr.alloc,Am,newVar,newRow]
theorem zt9 (R:Rel N c ns A μ lam s a w) {t:TypeId} {z:List V} (hz:zdc P t=some z) (ho:o.op= .alloc t)
 (hd: ∀x,o.dst=some x->x<ns) (hf:s.free o.dst e) (hk:s.heap (s.bas+p)=none) (hn:s.bas+p<s.nxt) (he:zaj N.G p s (.allocH z)=some e):zeB P N c ns o a w (s.apply o.dst e):=by
 simp only[zaj,zA]at he;subst he;obtain⟨i,v,hi,hv,hc,Am⟩:=zb4 hz;obtain⟨h1,h2,h3⟩:=zr4 (w:=w) (A:=A) (N:=N) (μ:=μ) (s:=s) (cells:=v.cells) (zbT hc);have R1:=zBx R (t:=t) hk hn h1 h2 h3;refine⟨.pointer (some ⟨w.heap.size,0,none⟩),_,A,_,lam,.inl ?_,R1.put o.dst { val:=.mp (s.bas+p) 0 0 } _ hd hf rfl rfl rfl ?_ (by simp)⟩
 ·simp[execOp,ho,Instr.alloc,Am,newVar,newRow]
 ·have:=RepC.mp (w:=w.alloc (.cells v.cells t)) (A:=A) (nm:=N.nm) (μ:=upd μ (s.bas+p) w.heap.size) (H:=upd s.heap (s.bas+p) (some (.rows z.length [z] false))) (s.bas+p) 0 0 z.length [z] false (by simp) (by simp);simpa using this.toV
theorem zua (R:Rel N c ns A μ lam s a w) {t:TypeId} {z:List V} (hz:zdc P t=some z) (hb:zwR P t=true) (MZ:N.tB=t) (ho:o.op= .alloc t)
 (hd: ∀x,o.dst=some x->x<ns) (hf:s.free o.dst e) (hk:s.heap (s.bas+p)=none) (hn:s.bas+p<s.nxt) (he:zaj N.G p s .allocB=some e):zeB P N c ns o a w (s.apply o.dst e):=by
 simp only[zaj,zA]at he;subst he;obtain⟨i,v,hi,hv,hc,Am⟩:=zb4 hz
 have BQ:v.cells= #[.pointer none,.slice none 0 0]:=by
  unfold zwR at hb;rw[hi]at hb;simp only[zD,hv]at hb;split at hb
  ·rename_i cs AL;cases AL;split at hb
   ·rename_i hl;show cs=_;apply Array.ext';simpa using hl
   ·cases hb
  ·cases hb
 have R1:=(R.alloc (.cells v.cells t)).adoptH (k:=s.bas+p) (o:=.raw (.bld none)) hk hn R.orphan_new ⟨.pointer none,by rw[<- BQ,MZ];exact zdT w _,.inl rfl⟩ (by simp);refine⟨.pointer (some ⟨w.heap.size,0,none⟩),_,A,_,lam,.inl ?_,R1.put o.dst { val:=.mp (s.bas+p) 0 0 } _ hd hf rfl rfl rfl ?_ (by simp)⟩
 ·simp[execOp,ho,Instr.alloc,Am,newVar,newRow]
 ·have:=RepC.mb (w:=w.alloc (.cells v.cells t)) (A:=A) (nm:=N.nm) (μ:=upd μ (s.bas+p) w.heap.size) (H:=upd s.heap (s.bas+p) (some (.raw (.bld none)))) (s.bas+p) (.bld none) (by simp);simpa using this.toV
theorem zx7 (hI:I.Ok N) (R:Rel N c ns A μ lam s a w) {t:TypeId} {x:Operand} {x':Opd} {n d:Nat} (hx:opd I x=some x') (ho:o.op= .box t x) (AI:o.dst=some d)
 (hd: ∀x,o.dst=some x->x<ns) (hf:s.free o.dst e) (he:zaj N.G p s (.boxL n x')=some e):zeB P N c ns o a w (s.apply o.dst e):=by
 simp only[zaj,zC,zB]at he;obtain⟨u,hu,cs,AL,he⟩:=he;split at he
 ·simp only[zA]at he;subst he;have hr:=(zat hI R hx hu).cells AL;refine⟨_,_,A,μ,_,.inl ?_,by rw[AI];exact zCF R (t:=t) (hd d AI) (hf d AI).1 hr⟩;simp[execOp,ho,Instr.box,newVar,newRow]
 ·simp at he
theorem zx8 (hI:I.Ok N) (R:Rel N c ns A μ lam s a w) {t:TypeId} {x:Operand} {x':Opd} {n:Nat} (hx:opd I x=some x') (ho:o.op= .box t x)
 (hd: ∀x,o.dst=some x->x<ns) (hf:s.free o.dst e) (hk:s.heap (s.bas+p)=none) (hn:s.bas+p<s.nxt) (he:zaj N.G p s (.boxH n x')=some e):zeB P N c ns o a w (s.apply o.dst e):=by
 simp only[zaj,zC,zB]at he;obtain⟨u,hu,cs,AL,he⟩:=he;split at he
 ·rename_i Ac;subst Ac;simp only[zA]at he;subst he;have hr:=(zat hI R hx hu).cells AL;obtain⟨h1,h2,h3⟩:=zr4 (w:=w) (A:=A) (N:=N) (μ:=μ) (s:=s) (cells:=(a.eval x).cells) hr;have R1:=zBx R (t:=t) hk hn h1 h2 h3;refine⟨.pointer (some ⟨w.heap.size,0,none⟩),_,A,_,lam,.inl ?_,R1.put o.dst { val:=.mp (s.bas+p) 0 0 } _ hd hf rfl rfl rfl ?_ (by simp)⟩
  ·simp[execOp,ho,Instr.box,newVar,newRow]
  ·have:=RepC.mp (w:=w.alloc (.cells (a.eval x).cells t)) (A:=A) (nm:=N.nm) (μ:=upd μ (s.bas+p) w.heap.size) (H:=upd s.heap (s.bas+p) (some (.rows cs.length [cs] false))) (s.bas+p) 0 0 cs.length [cs] false (by simp) (by simp);simpa using this.toV
 ·simp at he
theorem zKo {cells:Array Value} {cs:List V} (Ae:zfk w A N.nm μ s.heap cells.toList cs):
 (cs.map fun c=>[c]).length*1<=cells.size/\(∀(i:Nat) (row:List V),(cs.map fun c=>[c])[i]? =some row->row.length=1)/\
 ∀(i:Nat) (row:List V) (j:Nat) (x:V),(cs.map fun c=>[c])[i]? =some row->row[j]? =some x-> ∃v,cells[i*1+j]? =some v/\RepC w A N.nm μ s.heap v x:=by
 have hl:=Ae.1;simp only[Array.length_toList]at hl;refine⟨by simp[hl],fun i row h=> ?_,fun i row j y h1 h2=> ?_⟩
 ·simp only[zJ,zE]at h;obtain⟨c,_,rfl⟩:=h;rfl
 ·simp only[zJ,zE]at h1;obtain⟨q,hq,rfl⟩:=h1
  cases j with
  | succ j=>simp at h2
  | zero=>
    simp only[List.getElem?_cons_zero,zA]at h2;subst h2;obtain⟨v,hv,DY⟩:=Ae.2 i q hq;exact⟨v,by simpa using hv,DY⟩
theorem zNA (R:Rel N c ns A μ lam s a w) {t:TypeId} {z:List V} (hz:zdc P t=some z) (ho:o.op= .alloc t)
 (hd: ∀x,o.dst=some x->x<ns) (hf:s.free o.dst e) (hk:s.heap (s.bas+p)=none) (hn:s.bas+p<s.nxt) (he:zaj N.G p s (.allocA z)=some e):zeB P N c ns o a w (s.apply o.dst e):=by
 simp only[zaj]at he;split at he
 ·rename_i h0;simp only[zA]at he;subst he;obtain⟨i,v,hi,hv,hc,Am⟩:=zb4 hz;obtain⟨h1,h2,h3⟩:=zKo (w:=w) (A:=A) (N:=N) (μ:=μ) (s:=s) (cells:=v.cells) (zbT hc);have R1:=zBx R (t:=t) hk hn h1 h2 h3;refine⟨.pointer (some ⟨w.heap.size,0,none⟩),_,A,_,lam,.inl ?_,R1.put o.dst { val:=.mp (s.bas+p) 0 0 } _ hd hf rfl rfl rfl ?_ (by simp)⟩
  ·simp[execOp,ho,Instr.alloc,Am,newVar,newRow]
  ·have:=RepC.mp (w:=w.alloc (.cells v.cells t)) (A:=A) (nm:=N.nm) (μ:=upd μ (s.bas+p) w.heap.size) (H:=upd s.heap (s.bas+p) (some (.rows 1 (z.map fun c=>[c]) false))) (s.bas+p) 0 0 1 (z.map fun c=>[c]) false (by simp) (by simpa using h0);simpa using this.toV
 ·cases he
theorem zPq (hI:I.Ok N) (R:Rel N c ns A μ lam s a w) {t:TypeId} {x:Operand} {x':Opd} {n:Nat} (hx:opd I x=some x') (ho:o.op= .box t x)
 (hd: ∀x,o.dst=some x->x<ns) (hf:s.free o.dst e) (hk:s.heap (s.bas+p)=none) (hn:s.bas+p<s.nxt) (he:zaj N.G p s (.boxA n x')=some e):zeB P N c ns o a w (s.apply o.dst e):=by
 simp only[zaj,zC,zB]at he;obtain⟨u,hu,cs,AL,he⟩:=he;split at he
 ·rename_i h0;simp only[zA]at he;subst he;have hr:=(zat hI R hx hu).cells AL;obtain⟨h1,h2,h3⟩:=zKo (w:=w) (A:=A) (N:=N) (μ:=μ) (s:=s) (cells:=(a.eval x).cells) hr;have R1:=zBx R (t:=t) hk hn h1 h2 h3;refine⟨.pointer (some ⟨w.heap.size,0,none⟩),_,A,_,lam,.inl ?_,R1.put o.dst { val:=.mp (s.bas+p) 0 0 } _ hd hf rfl rfl rfl ?_ (by simp)⟩
  ·simp[execOp,ho,Instr.box,newVar,newRow]
  ·have:=RepC.mp (w:=w.alloc (.cells (a.eval x).cells t)) (A:=A) (nm:=N.nm) (μ:=upd μ (s.bas+p) w.heap.size) (H:=upd s.heap (s.bas+p) (some (.rows 1 (cs.map fun c=>[c]) false))) (s.bas+p) 0 0 1 (cs.map fun c=>[c]) false (by simp) (by simpa using(by omega:0<cs.length));simpa using this.toV
 ·simp at he
theorem zfk.one {w:World} {A:Nat->Prop} {nm μ:Nat->Nat} {H:Nat->Option O} {vs:List Value} {cs:List V} (h:zfk w A nm μ H vs cs): ∀v∈vs,v.oneCell'=true:=by
 intro v hv;obtain⟨i,hi,he⟩:=List.getElem_of_mem hv;have:i<cs.length:=by rw[<- h.1];exact hi
 obtain⟨u,hu,hr⟩:=h.2 i cs[i] (zI this);rw[zI hi,he]at hu;cases hu;exact hr.one
theorem zt0 (hI:I.Ok N) (R:Rel N c ns A μ lam s a w) {t:TypeId} {x y:Operand} {x' y':Opd} {n:Nat} {ag:Bool} (hx:opd I x=some x') (hy:opd I y=some y') (A6:typ P t=some (ag,n)) (ho:o.op= .store t x y)
 (he:zaj N.G p s (.storeL n x' y')=some e) (Bt:o.dst=none):zeB P N c ns o a w (s.apply o.dst e):=by
 simp only[zaj,zC,zB,Prod.exists]at he;obtain⟨b,off,hr,cs,hb,u,hu,new,G3,he⟩:=he;split at he
 ·rename_i Ac;simp only[zB,zA]at he;obtain⟨cs',hw,rfl⟩:=he;obtain⟨_,cc,e0,Dr,CG⟩:=R.loc b cs hb;have Sy:=(zat hI R hy hu).cells G3;obtain⟨inf,g1,g2,g3,g4⟩:=zbr A6;obtain⟨k1,k2,k3⟩:=zfn hw;have AL:cc.size=cs.length:=by have:=CG.1;simpa using this
  have Hx:(a.eval y).cells.toList.length=new.length:=Sy.1;have AJ:off+0+(a.eval y).cells.toList.length<=cc.size:=by omega
  have AE:=run_storeCells_at P (lam b) off e0 (a.eval y).cells.toList 0 cc w Dr AJ Sy.one
  let arr:Array Value:=(cc.toList.take (off+0)++(a.eval y).cells.toList++cc.toList.drop (off+0+(a.eval y).cells.toList.length)).toArray
  have Br:wr cc.toList off (a.eval y).cells.toList=some arr.toList:=by
   unfold wr;rw[if_pos (by simpa using AJ)];simp[arr]
  obtain⟨j1,j2,j3⟩:=zfn Br
  have R1:=R.changeL (cs':=cs') (w':=w.setRow (lam b) arr) hb (by simp) (fun r hr=>setRow_other w _ r _ hr) (shape?_setRow Dr (by simpa using j2))
   (fun E=>⟨arr,e0,setRow_heap w _ cc arr e0 _ Dr,(CG.splice Sy hw arr.toList (by simpa using j2) (fun k _=>j3 k)).evo E⟩)
  refine⟨undef,w.setRow (lam b) arr,A,μ,lam,.inr ⟨?_,rfl⟩,?_⟩
  ·have AS:(a.eval y).cells.size=n:=by simp at Hx;omega
   simp only[execOp,ho,Instr.storeAt,Sem.run_bind,zio R hx hr hb,Instr.sureAddr,Sem.run_pure,Result.andThen_ok,storeVar,zaO g1,g2,AS,ne_eq,not_true_eq_false,if_false];rw[AE];rfl
  ·rw[Bt];exact R1
 ·simp at he
theorem ziJ {α:Type} {l:List α} {i j:Nat} {x y:α} (h:(l.set i x)[j]? =some y):(j=i/\y=x)\/(j≠i/\l[j]? =some y):=by
 rw[List.getElem?_set]at h
 by_cases e:i=j
 ·subst e;left
  by_cases Ad:i<l.length
  ·simp[Ad]at h;exact⟨rfl,h.symm⟩
  ·simp[Ad]at h
 ·simp[e]at h;exact .inr ⟨fun e'=>e e'.symm,h⟩
theorem zwf (hI:I.Ok N) (R:Rel N c ns A μ lam s a w) {t:TypeId} {x y:Operand} {x' y':Opd} {n:Nat} {ag:Bool} (hx:opd I x=some x') (hy:opd I y=some y') (A6:typ P t=some (ag,n)) (ho:o.op= .store t x y)
 (he:zaj N.G p s (.store n x' y')=some e) (Bt:o.dst=none):zeB P N c ns o a w (s.apply o.dst e):=by
 simp only[zaj,zC,zB]at he;obtain⟨u,hu,he⟩:=he;have Ae:=zat hI R hx hu;split at he
 ·rename_i k i off;split at he
  ·rename_i sz rs hk;simp only[zB]at he;obtain⟨row,Ap,v,hv,new,G3,he⟩:=he;split at he
   ·rename_i Ac;simp only[zB,zA]at he;obtain⟨row',hw,rfl⟩:=he;obtain⟨Ji,hi⟩:=Ae.mp_inv hk;obtain⟨cc,e0,z,h1,h2,h3,h4,h5⟩:=R.heap k _ hk;have hz:=h2 rfl;subst hz;have Sy:=(zat hI R hy hv).cells G3;obtain⟨inf,g1,g2,g3,g4⟩:=zbr A6;obtain⟨k1,k2,k3⟩:=zfn hw;have Bb:=h4 i row Ap;have Hx:(a.eval y).cells.toList.length=new.length:=Sy.1
    have hrow_le:i*sz+sz<=cc.size:=by
     have:(i+1)*sz<=rs.length*sz:=Nat.mul_le_mul_right _ hi;rw[Nat.succ_mul]at this;omega
    have AJ:(i*sz+off)+0+(a.eval y).cells.toList.length<=cc.size:=by omega
    have AE:=run_storeCells_at P (μ k) (i*sz+off) e0 (a.eval y).cells.toList 0 cc w h1 AJ Sy.one
    let arr:Array Value:=(cc.toList.take (i*sz+off+0)++(a.eval y).cells.toList++cc.toList.drop (i*sz+off+0+(a.eval y).cells.toList.length)).toArray
    have Br:wr cc.toList (i*sz+off) (a.eval y).cells.toList=some arr.toList:=by
     unfold wr;rw[if_pos (by simpa using AJ)];simp[arr]
    obtain⟨j1,j2,j3⟩:=zfn Br
    have R1:=R.changeH (o':= .rows sz (rs.set i row') false) (w':=w.setRow (μ k) arr) hk ⟨rfl,by simp⟩ rfl (by simp) (by simp) rfl (by simp) (fun r hr=>setRow_other w _ r _ hr)
     (shape?_setRow h1 (by simpa using j2)) (fun E=>by
       refine⟨arr,e0,(0,0),setRow_heap w _ cc arr e0 _ h1,fun _=>rfl,?_,?_,?_⟩
       ·have:arr.size=cc.size:=by simpa using j2
        simp;omega
       ·intro i' row1 B3;rcases ziJ B3 with⟨rfl,rfl⟩ | ⟨_,B3⟩
        ·omega
        ·exact h4 i' row1 B3
       ·intro i' row1 j x B3 hj;have Ag: ∀q,arr[q]? =arr.toList[q]? :=fun q=>by rw[Array.getElem?_toList]
        rw[Ag,j3];rcases ziJ B3 with⟨rfl,rfl⟩ | ⟨Kr,B3⟩
        ·have AN:j<sz:=by have:=(zH.1 hj).1;omega
         rw[k3 j]at hj;split at hj
         ·rename_i Aj;rw[if_pos (by omega)];obtain⟨q,hq,Jg⟩:=Sy.2 _ x hj;refine⟨q,?_,Jg.evo E⟩;have:i'*sz+j-(i'*sz+off)=j-off:=by omega
          rw[this];exact hq
         ·rename_i Aj;rw[if_neg (by omega)];obtain⟨q,hq,Jg⟩:=h5 i' row j x Ap hj;exact⟨q,by simpa using hq,Jg.evo E⟩
        ·have AN:j<sz:=by have:=(zH.1 hj).1;have:=h4 i' row1 B3;omega
         have Az: ¬(i*sz+off<=i'*sz+j/\i'*sz+j<i*sz+off+(a.eval y).cells.toList.length):=by
          intro hh;rcases Nat.lt_or_gt_of_ne Kr with Ad | Ad
          ·have:(i'+1)*sz<=i*sz:=Nat.mul_le_mul_right _ Ad;rw[Nat.succ_mul]at this;omega
          ·have:(i+1)*sz<=i'*sz:=Nat.mul_le_mul_right _ Ad;rw[Nat.succ_mul]at this;omega
         rw[if_neg Az];obtain⟨q,hq,Jg⟩:=h5 i' row1 j x B3 hj
         exact⟨q,by simpa using hq,Jg.evo E⟩)
    refine⟨undef,w.setRow (μ k) arr,A,μ,lam,.inr ⟨?_,rfl⟩,?_⟩
    ·have AS:(a.eval y).cells.size=n:=by simp at Hx;omega
     simp only[execOp,ho,Instr.storeAt,Sem.run_bind,Ji,Instr.sureAddr,Sem.run_pure,Result.andThen_ok,storeVar,zaO g1,g2,AS,ne_eq,not_true_eq_false,if_false];rw[AE];rfl
    ·rw[Bt];exact R1
   ·simp at he
  ·simp at he
 ·simp at he
theorem zNz (hI:I.Ok N) (R:Rel N c ns A μ lam s a w) {t:TypeId} {x y:Operand} {x' y':Opd} {n:Nat} {ag:Bool} (hx:opd I x=some x') (hy:opd I y=some y') (A6:typ P t=some (ag,n)) (ho:o.op= .store t x y)
 (he:zaj N.G p s (.storeA n x' y')=some e) (Bt:o.dst=none):zeB P N c ns o a w (s.apply o.dst e):=by
 simp only[zaj,zC,zB]at he;obtain⟨u,hu,he⟩:=he;have Ae:=zat hI R hx hu;split at he
 ·rename_i k;split at he
  ·rename_i rs hk;simp only[zB]at he;obtain⟨v,hv,new,G3,he⟩:=he;split at he
   ·rename_i Ac;obtain⟨Ac,UT⟩:=Ac;simp only[zA]at he;subst he;obtain⟨Ji,hi⟩:=Ae.mp_inv hk;obtain⟨cc,e0,z,h1,h2,h3,h4,h5⟩:=R.heap k _ hk;have hz:=h2 rfl;subst hz;have Sy:=(zat hI R hy hv).cells G3;obtain⟨inf,g1,g2,g3,g4⟩:=zbr A6;have Hx:(a.eval y).cells.toList.length=new.length:=Sy.1;have AJ:0+0+(a.eval y).cells.toList.length<=cc.size:=by omega
    have AE:=run_storeCells_at P (μ k) 0 e0 (a.eval y).cells.toList 0 cc w h1 AJ Sy.one
    let arr:Array Value:=(cc.toList.take (0+0)++(a.eval y).cells.toList++cc.toList.drop (0+0+(a.eval y).cells.toList.length)).toArray
    have Br:wr cc.toList 0 (a.eval y).cells.toList=some arr.toList:=by
     unfold wr;rw[if_pos (by simpa using AJ)]
    obtain⟨j1,j2,j3⟩:=zfn Br
    have R1:=R.changeH (o':= .rows 1 (new.map fun c=>[c]) false) (w':=w.setRow (μ k) arr) hk ⟨rfl,by simp;omega⟩ rfl (by simp) (by simp) rfl (by simp) (fun r hr=>setRow_other w _ r _ hr)
     (shape?_setRow h1 (by simpa using j2)) (fun E=>by
       refine⟨arr,e0,(0,0),setRow_heap w _ cc arr e0 _ h1,fun _=>rfl,?_,?_,?_⟩
       ·have:arr.size=cc.size:=by simpa using j2
        simp;omega
       ·intro i' row1 B3;simp only[zJ,zE]at B3;obtain⟨q,_,rfl⟩:=B3;rfl
       ·intro i' row1 j x B3 hj;simp only[zJ,zE]at B3;obtain⟨q,hq,rfl⟩:=B3
        cases j with
        | succ j=>simp at hj
        | zero=>
          simp only[List.getElem?_cons_zero,zA]at hj;subst hj;have AV:i'<new.length:=(zH.1 hq).1;have Ag: ∀q,arr[q]? =arr.toList[q]? :=fun q=>by rw[Array.getElem?_toList]
          rw[Ag,j3,if_pos (by omega)];obtain⟨y,hy,P4⟩:=Sy.2 _ q hq
          exact⟨y,by simpa using hy,P4.evo E⟩)
    refine⟨undef,w.setRow (μ k) arr,A,μ,lam,.inr ⟨?_,rfl⟩,?_⟩
    ·have AS:(a.eval y).cells.size=n:=by simp at Hx;omega
     simp only[execOp,ho,Instr.storeAt,Sem.run_bind,Ji,Instr.sureAddr,Sem.run_pure,Result.andThen_ok,storeVar,zaO g1,g2,AS,ne_eq,not_true_eq_false,if_false];rw[AE];rfl
    ·rw[Bt];exact R1
   ·simp at he
  ·simp at he
 ·simp at he
end
section
variable {N:Nam} {c:Ctx} {ns:Nat} {A:Nat->Prop} {μ lam:Nat->Nat} {s:St} {a:Act} {w:World}
theorem Rel.growA (R:Rel N c ns A μ lam s a w) (B:Nat->Prop) (hl: ∀r,B r-> ∀t,(s.loc t).isSome=true->lam t≠r) (hh: ∀r,B r-> ∀k o,s.heap k=some o->o.live=true->μ k≠r)
 (hx: ∀r,B r->c.X r\/c.w0.heap.size<=r) (Ad: ∀r,B r->r<w.heap.size) (Jv:zdG c (fun r=>A r\/B r) w a.defers):Rel N c ns (fun r=>A r\/B r) μ lam s a w:=by
 have E:Evo w A μ s.heap w (fun r=>A r\/B r) μ s.heap:=⟨fun _ _=>rfl,fun _ h=> .inl h,fun _ o h=>⟨o,h,O.le_refl o,fun _=>rfl⟩,fun _ _ h=>h⟩
 refine{ R with defers:=Jv,env:=fun t=>(R.env t).evo E,loc:= ?_,heap:= ?_,aH:= ?_,aL:= ?_,alt:= ?_,afz:=fun k sz rs h=> .inl (R.afz k sz rs h),glob:= ?_,csub:= ?_,canew:= ?_ }
 ·intro t cs h;obtain⟨h1,h2⟩:=R.loc t cs h;exact⟨h1,h2.evo E rfl⟩
 ·intro k o h;exact(R.heap k o h).evo E rfl
 ·rintro r (h | h) hm
  ·exact R.aH r h hm
  ·obtain⟨k,o,h1,h2,h3,h4⟩:=hm;exact hh r h k o h1 h3 h4
 ·rintro r (h | h) hm
  ·exact R.aL r h hm
  ·obtain⟨t,h1,h2⟩:=hm;exact hl r h t h1 h2
 ·rintro r (h | h)
  ·exact R.alt r h
  ·exact Ad r h
 ·intro g j x h;obtain⟨h1,F1,v,hv,hr⟩:=R.glob g j x h;exact⟨.inl h1,F1,v,hv,hr.mono E.blk E.sub⟩
 ·intro r h;exact .inl (R.csub r h)
 ·rintro r (h | h)
  ·exact R.canew r h
  ·exact .inr (hx r h)
end
end Rg
end
section
namespace Rg
open Go
def zaJ (w:World) (A:Nat->Prop) (nm μ:Nat->Nat) (H:Nat->Option O) (sz:Nat) (cs:List Value) (rs:List (List V)):Prop:=
 cs.length=rs.length*sz/\(∀(i:Nat) (row:List V),rs[i]? =some row->row.length=sz)/\
  ∀(i:Nat) (row:List V) (j:Nat) (x:V),rs[i]? =some row->row[j]? =some x-> ∃v,cs[i*sz+j]? =some v/\RepC w A nm μ H v x
section
variable {w w' : World} {A A' : Nat->Prop} {nm μ μ' : Nat->Nat} {H H' : Nat->Option O} {sz:Nat}
theorem zaJ.evo {cs:List Value} {rs:List (List V)} (h:zaJ w A nm μ H sz cs rs) (E:Evo w A μ H w' A' μ' H'):zaJ w' A' nm μ' H' sz cs rs:=
 ⟨h.1,h.2.1,fun i row j x h1 h2=>let⟨v,hv,hr⟩:=h.2.2 i row j x h1 h2;⟨v,hv,hr.evo E⟩⟩
theorem zgg {i j n sz:Nat} (hi:i<n) (hj:j<sz):i*sz+j<n*sz:=by
 have:(i+1)*sz<=n*sz:=Nat.mul_le_mul_right _ hi;rw[Nat.succ_mul]at this;omega
theorem zaJ.append {cs ds:List Value} {rs ts:List (List V)} (h:zaJ w A nm μ H sz cs rs) (h':zaJ w A nm μ H sz ds ts):zaJ w A nm μ H sz (cs++ds) (rs++ts):=by
 refine⟨by simp[h.1,h'.1,Nat.add_mul],fun i row hi=> ?_,fun i row j x hi hj=> ?_⟩
 ·rw[List.getElem?_append]at hi;split at hi
  ·exact h.2.1 i row hi
  ·exact h'.2.1 _ row hi
 ·rw[List.getElem?_append]at hi;split at hi
  ·rename_i Ad;obtain⟨v,hv,hr⟩:=h.2.2 i row j x hi hj;refine⟨v,?_,hr⟩;rw[List.getElem?_append_left (zH.1 hv).1];exact hv
  ·rename_i Bv;obtain⟨v,hv,hr⟩:=h'.2.2 _ row j x hi hj;refine⟨v,?_,hr⟩;have e:i*sz=rs.length*sz+(i-rs.length)*sz:=by rw[<- Nat.add_mul];congr 1;omega
   rw[List.getElem?_append_right (by rw[h.1];omega)];have:i*sz+j-cs.length=(i-rs.length)*sz+j:=by rw[h.1];omega
   rw[this];exact hv
theorem zaJ.take {cs:List Value} {rs:List (List V)} (h:zaJ w A nm μ H sz cs rs) (m:Nat) (hm:m<=rs.length):zaJ w A nm μ H sz (cs.take (m*sz)) (rs.take m):=by
 have A5:m*sz<=rs.length*sz:=Nat.mul_le_mul_right _ hm;refine⟨by simp[h.1,Nat.min_eq_left hm,Nat.min_eq_left A5],fun i row hi=> ?_,fun i row j x hi hj=> ?_⟩
 ·rw[zO]at hi;split at hi
  ·exact h.2.1 i row hi
  ·simp at hi
 ·rw[zO]at hi;split at hi
  ·rename_i Ad;obtain⟨v,hv,hr⟩:=h.2.2 i row j x hi hj;have AN:j<sz:=by rw[<- h.2.1 i row hi];exact(zH.1 hj).1
   refine⟨v,?_,hr⟩;rw[zO,if_pos (zgg Ad AN)];exact hv
  ·simp at hi
theorem zaJ.nil:zaJ w A nm μ H sz [] []:=⟨by simp,by simp,by simp⟩
theorem zaJ.one {cs:List Value} {rs:List (List V)} (h:zaJ w A nm μ H sz cs rs) (AS:0<sz): ∀v∈cs,v.oneCell'=true:=by
 intro v hv;obtain⟨q,hq,he⟩:=List.getElem_of_mem hv;have Ad:q<rs.length*sz:=by rw[<- h.1];exact hq
 have hi:q/ sz<rs.length:=Nat.div_lt_of_lt_mul (by rw[Nat.mul_comm];exact Ad);have Ap:=h.2.1 (q/ sz) _ (zI hi);have hj:q % sz<(rs[q/ sz]).length:=by rw[Ap];exact Nat.mod_lt _ AS
 obtain⟨u,hu,hr⟩:=h.2.2 (q/ sz) _ (q % sz) _ (zI hi) (zI hj);have e:q/ sz*sz+q % sz=q:=by rw[Nat.mul_comm];exact Nat.div_add_mod q sz
 rw[e,zI hq,he]at hu;cases hu;exact hr.one
end
section
variable {P:Program} {N:Nam} {I:Inv} {c:Ctx} {ns p:Nat} {A:Nat->Prop} {μ lam:Nat->Nat} {s:St} {a:Act} {w:World} {e:Eff} {o:Oper}
theorem zhY (R:Rel N c ns A μ lam s a w) {v:Value} {x:V} {rs:List (List V)} {sz:Nat} (Lb: ∀es,x≠ .t (.slc es)) (Ae:zbl w A N.nm μ s.heap v x) (AH:zdw s x=some rs) (Aa:rs.all (·.length=sz)=true):
 ∃ad cap cs,v= .slice ad rs.length cap/\rs.length<=cap/\zaJ w A N.nm μ s.heap sz cs rs/\
  (∀w':World,(∀ad,w'.cell? ad=w.cell? ad)-> ∀m,m<=rs.length->(Builtin.firstCells sz m v).run P w'= .ok (cs.take (m*sz)).toArray w'):=by
 have Ac: ∀(i:Nat) (row:List V),rs[i]? =some row->row.length=sz:=by
  intro i row hi;have:=zN.1 Aa row (zL hi);simpa using this
 have ES: ∀ad cap,rs=[]->v= .slice ad 0 cap-> ∃ad cap cs,v= .slice ad rs.length cap/\rs.length<=cap/\zaJ w A N.nm μ s.heap sz cs rs/\
  (∀w':World,(∀ad,w'.cell? ad=w.cell? ad)-> ∀m,m<=rs.length->(Builtin.firstCells sz m v).run P w'= .ok (cs.take (m*sz)).toArray w'):=by
  rintro ad cap rfl rfl;refine⟨ad,cap,[],rfl,by simp,zaJ.nil,fun w' _ m hm=> ?_⟩;have:m=0:=by simpa using hm
  subst this
  cases ad with
  | none=>simp[Builtin.firstCells]
  | some ad=>simp[Builtin.firstCells,loadCells,loadCellsFrom]
 unfold zdw at AH;split at AH
 ·simp only[zA]at AH;subst AH;obtain⟨ad,rfl⟩:=Ae.t_inv.nils_inv;exact ES ad 0 rfl rfl
 ·rename_i es;simp only[zA]at AH;subst AH;rcases Ae.t_inv.sl_inv with⟨rfl,ad,cap,rfl⟩ | ⟨r,off,cap,sz',vf,rfl,h0,hc,hA,hs,Bs,hr⟩
  ·exact ES ad cap rfl rfl
  ·have AS:sz'=sz:=by
    have h1:=hs 0 es[0] (zI h0);have h2:=Ac 0 (es[0].map V.t) (by simp[zJ,zI h0]);simp at h2;omega
   subst AS;refine⟨some ⟨r,off,none⟩,cap,(List.range (es.length*sz')).map (fun q=>vf (q/ sz') (q % sz')),by simp,by simpa using hc,⟨by simp,Ac,?_⟩,?_⟩
   ·intro i row j x hi hj;simp only[zJ,zE]at hi;obtain⟨e0,CY,rfl⟩:=hi;simp only[zJ,zE]at hj;obtain⟨y,hy,rfl⟩:=hj;have AV:i<es.length:=(zH.1 CY).1;have AN:j<sz':=by rw[<- hs i e0 CY];exact(zH.1 hy).1
    have hq:=zgg AV AN;refine⟨vf i j,?_,.t (hr i e0 j y CY hy)⟩;rw[zJ,List.getElem?_range hq];have h1:(i*sz'+j)/ sz'=i:=by rw[Nat.mul_comm,Nat.mul_add_div (by omega)];simp[Nat.div_eq_of_lt AN]
    have h2:(i*sz'+j) % sz'=j:=by rw[Nat.mul_comm,Nat.mul_add_mod];exact Nat.mod_eq_of_lt AN
    simp[h1,h2]
   ·intro w' Aw m hm;simp only[List.length_map]at hm;have A5:m*sz'<=es.length*sz':=Nat.mul_le_mul_right _ hm;have hl:(((List.range (es.length*sz')).map (fun q=>vf (q/ sz') (q % sz'))).take (m*sz')).length=m*sz':=by rw[List.length_take,List.length_map,List.length_range];omega
    have:=run_loadCells_list (P:=P) (w:=w') ⟨r,off,none⟩ (((List.range (es.length*sz')).map (fun q=>vf (q/ sz') (q % sz'))).take (m*sz')) (fun q v hq=>by
     rw[zO]at hq;split at hq
     ·rename_i Ed;have HL:q<es.length*sz':=by omega
      rw[zJ,List.getElem?_range HL]at hq;simp only[Option.map_some,zA]at hq;subst hq
      have Na:0<sz':=by
       rcases Nat.eq_zero_or_pos sz' with h | h
       ·rw[h]at HL;simp at HL
       ·exact h
      have hi:q/ sz'<es.length:=Nat.div_lt_of_lt_mul (by rw[Nat.mul_comm];exact HL);have Ap:=hs (q/ sz') _ (zI hi);have hj:q % sz'<(es[q/ sz']).length:=by rw[Ap];exact Nat.mod_lt _ Na
      have:=Bs (q/ sz') _ (q % sz') _ (zI hi) (zI hj);rw[zcL,Aw];have e:off+q/ sz'*sz'+q % sz'=off+q:=by rw[Nat.add_assoc,Nat.mul_comm,Nat.div_add_mod]
      rw[e]at this;exact this
     ·simp at hq)
    rw[hl]at this;simp[Builtin.firstCells,this]
 ·rename_i es;exact absurd rfl (Lb es)
 ·rename_i k i len;split at AH
  ·rename_i sz' rs0 frz hk;unfold rd at AH;split at AH
   ·rename_i A5;simp only[zA]at AH;subst AH;have BS:((rs0.drop i).take len).length=len:=by simp;omega
    cases(Ae:RepC w A N.nm μ s.heap v _)with
    | ms _ _ _ cap sz2 rs2 frz2 ad Ah AK hc ha=>
      rw[hk]at Ah;cases Ah;rcases Nat.eq_zero_or_pos len with SF | SF
      ·subst SF;exact ES ad cap (by simp) rfl
      ·obtain⟨rfl,_⟩:=ha.resolve_left (by omega);obtain⟨cc,e0,z,h1,h2,h3,h4,h5⟩:=R.heap k _ hk
       have AS:sz'=sz:=by
        have AV:i<rs0.length:=by omega
        have h6:=h4 i _ (zI AV);have h7:=Ac 0 rs0[i] (by rw[zO,if_pos SF,List.getElem?_drop];simp[zI AV]);omega
       subst AS;have JW:(i+len)*sz'<=cc.size:=Nat.le_trans (Nat.mul_le_mul_right _ A5) h3
       have LJ:((cc.toList.drop (i*sz')).take (len*sz')).length=len*sz':=by
        rw[Nat.add_mul]at JW;simp;omega
       refine⟨_,cap,(cc.toList.drop (i*sz')).take (len*sz'),by rw[BS],by rw[BS];omega,⟨by rw[LJ,BS],Ac,?_⟩,?_⟩
       ·intro i1 row j x B8 hj;rw[zO]at B8;split at B8
        ·rename_i Ad;rw[List.getElem?_drop]at B8;have AN:j<sz':=by rw[<- h4 _ row B8];exact(zH.1 hj).1
         obtain⟨v,hv,hr⟩:=h5 _ row j x B8 hj;refine⟨v,?_,hr⟩;rw[zO,if_pos (zgg Ad AN),List.getElem?_drop,Array.getElem?_toList];rw[Nat.add_mul]at hv;rw[<- Nat.add_assoc];exact hv
        ·simp at B8
       ·intro w' Aw m hm;rw[BS]at hm;have HV:m*sz'<=len*sz':=Nat.mul_le_mul_right _ hm;have hl:(((cc.toList.drop (i*sz')).take (len*sz')).take (m*sz')).length=m*sz':=by rw[List.length_take,LJ];omega
        have:=run_loadCells_list (P:=P) (w:=w') ⟨μ k,i*sz',none⟩ (((cc.toList.drop (i*sz')).take (len*sz')).take (m*sz')) (fun q v hq=>by
         rw[zO]at hq;split at hq
         ·rw[zO]at hq;split at hq
          ·rw[List.getElem?_drop,Array.getElem?_toList]at hq;rw[zcL,Aw];simp[World.cell?,h1,hq]
          ·simp at hq
         ·simp at hq)
        rw[hl]at this
        simp[Builtin.firstCells,this]
    | dms _ _ _ Ah=>rw[hk]at Ah;cases Ah
   ·simp at AH
  ·simp at AH
 ·simp at AH
theorem ze8 (R:Rel N c ns A μ lam s a w) {v:Value} {x:V} {rs:List (List V)} {sz:Nat} (Ae:zbl w A N.nm μ s.heap v x) (AH:zdw s x=some rs) (Aa:rs.all (·.length=sz)=true):
 ∃ad cap cs,v= .slice ad rs.length cap/\rs.length<=cap/\zaJ w A N.nm μ s.heap sz cs rs/\
  (∀w':World,(∀ad,w'.cell? ad=w.cell? ad)-> ∀m,m<=rs.length->(Builtin.firstCells sz m v).run P w'= .ok (cs.take (m*sz)).toArray w'):=by
 by_cases h: ∃es,x= .t (.slc es)
 ·obtain⟨es,rfl⟩:=h
  have h1:zbl w A N.nm μ s.heap v (.t (.sl es)):=by
   have h2:=Ae.t_inv
   cases h2 with
   | slc a _ h3=>exact(RepC.t h3).toV
  exact zhY R (fun es' he=>by cases he) h1 AH Aa
 ·exact zhY R (fun es he=>h ⟨es,he⟩) Ae AH Aa
theorem zjG: ∀{rs:List (List V)} {l:List UInt8},bytesOf rs=some l->l.length=rs.length/\ ∀(i:Nat) (b:UInt8),l[i]? =some b->rs[i]? =some [.t (.int .u8 b.toNat)]
 | [],l,h=>by simp only[bytesOf,zA]at h;subst h;simp
 | r::rs,l,h=>by
   unfold bytesOf at h;split at h
   ·rename_i h0;cases h0
   ·rename_i z r' h0;cases h0;split at h
    ·rename_i hz;simp only[zE]at h;obtain⟨l',CE,rfl⟩:=h;obtain⟨h1,h2⟩:=zjG CE;refine⟨by simp[h1],fun i b hi=> ?_⟩
     cases i with
     | zero=>
       simp only[List.getElem?_cons_zero,zA]at hi;subst hi
       have:((UInt8.ofNat z.toNat).toNat:Int)=z:=by
        rw[UInt8.toNat_ofNat',Nat.mod_eq_of_lt (by omega)];omega
       rw[this];rfl
     | succ i=>simpa using h2 i b (by simpa using hi)
    ·cases h
   ·cases h
theorem zx6 (hI:I.Ok N) (R:Rel N c ns A μ lam s a w) {src dst t:TypeId} {x:Operand} {x':Opd} (hx:opd I x=some x') (he:zaj N.G p s (.bstr x')=some e)
 (h1:P.underlying src=some (.slice t)) (h2:P.underlying dst=some .string) (h3:P.underlying t=some (.int .u8)):zdb N A μ s w ((convert src dst (a.eval x)).run P w) e:=by
 simp only[zaj,zC,zB,zA]at he;obtain⟨u,hu,rs,AD,l,hl,rfl⟩:=he;obtain⟨b1,b2⟩:=zjG hl
 have Aa:rs.all (·.length=1)=true:=by
  rw[zN];intro row Ap;obtain⟨i,hi,rfl⟩:=List.getElem_of_mem Ap;have AV:i<l.length:=by omega
  have:=b2 i l[i] (zI AV);rw[zI hi,zA]at this;rw[this];rfl
 obtain⟨ad,cap,cs,hv,Cw,Ae,Ee⟩:=ze8 (P:=P) R (zat hI R hx hu) AD Aa
 have AL:cs=(l.map fun b=>(b.toNat:Int)).map (Value.int .u8):=by
  apply List.ext_getElem?;intro i
  by_cases hi:i<l.length
  ·obtain⟨v,AX,hr⟩:=Ae.2.2 i _ 0 _ (b2 i l[i] (zI hi)) rfl;rw[Nat.mul_one,Nat.add_zero]at AX;cases hr.toV.int_inv;rw[AX];simp[hi]
  ·rw[List.getElem?_eq_none (by have:=Ae.1;omega),List.getElem?_eq_none (by simp;omega)]
 refine⟨.string ⟨l.toArray⟩,?_,(RepC.t (.str _)).toV,rfl,rfl,rfl,rfl⟩;rw[hv]
 cases ad with
 | none=>
   have h0:=Ee w (fun _=>rfl) rs.length (Nat.le_refl _);rw[hv]at h0;simp only[Builtin.firstCells,Sem.run_pure]at h0
   have:l=[]:=by
    have h4:=congrArg (fun r=>match r with | Result.ok (x:Array Value) _=>x.size | _=>0) h0;simp only[Nat.mul_one,List.size_toArray,List.length_take]at h4;have h5:=Ae.1;simp only[Nat.mul_one]at h5;rw[h5,Nat.min_self]at h4;exact List.eq_nil_of_length_eq_zero (by rw[b1];exact h4.symm)
   subst this;rw[run_convert_bytes_string w src dst t none rs.length cap h1 h3 h2];simp only[Conv.bytesToString,Sem.run_pure]
   congr 1
 | some ad=>
   have h0:=Ee w (fun _=>rfl) rs.length (Nat.le_refl _);rw[hv]at h0;simp only[Builtin.firstCells]at h0;rw[run_convert_bytes_string w src dst t (some ad) rs.length cap h1 h3 h2,run_bytesToString w ad rs.length cap (l.map fun b=>(b.toNat:Int)),foldl_push_byteCells]
   ·simp
   ·rw[<- AL];have e:cs.take (rs.length*1)=cs:=by rw[List.take_of_length_le];rw[Ae.1];exact Nat.le_refl _
    rw[e,Nat.mul_one]at h0;exact h0
end
end Rg
end
section
namespace Rg
open Go
section
variable {w:World} {A:Nat->Prop} {nm μ:Nat->Nat} {H:Nat->Option O} {sz:Nat}
theorem zaJ.set {cs us cs':List Value} {rs:List (List V)} {new:List V} {i:Nat} (h:zaJ w A nm μ H sz cs rs) (hn:zfk w A nm μ H us new) (hl:new.length=sz) (hi:i<rs.length)
 (By:cs'.length=cs.length) (hg: ∀k,k<cs.length->cs'[k]? =if i*sz<=k/\k<i*sz+us.length then us[k-i*sz]? else cs[k]?):zaJ w A nm μ H sz cs' (rs.set i new):=by
 refine⟨by simp[By,h.1],fun i' row hr=> ?_,fun i' row j x hr hj=> ?_⟩
 ·rcases ziJ hr with⟨rfl,rfl⟩ | ⟨_,hr⟩
  ·exact hl
  ·exact h.2.1 i' row hr
 ·have Gn:us.length=sz:=by rw[hn.1,hl]
  rcases ziJ hr with⟨rfl,rfl⟩ | ⟨Az,hr⟩
  ·have AN:j<sz:=by rw[<- hl];exact(zH.1 hj).1
   obtain⟨v,hv,Ae⟩:=hn.2 j x hj;refine⟨v,?_,Ae⟩;rw[hg _ (by rw[h.1];exact zgg hi AN),if_pos (by omega)];have:i'*sz+j-i'*sz=j:=by omega
   rw[this];exact hv
  ·have AN:j<sz:=by rw[<- h.2.1 i' row hr];exact(zH.1 hj).1
   have AV:i'<rs.length:=(zH.1 hr).1;obtain⟨v,hv,Ae⟩:=h.2.2 i' row j x hr hj;refine⟨v,?_,Ae⟩;rw[hg _ (by rw[h.1];exact zgg AV AN),if_neg]
   ·exact hv
   ·intro hh;rcases Nat.lt_or_gt_of_ne Az with Ad | Ad
    ·have:=Nat.mul_le_mul_right sz (Nat.succ_le_of_lt Ad);rw[Nat.succ_mul]at this;omega
    ·have:=Nat.mul_le_mul_right sz (Nat.succ_le_of_lt Ad);rw[Nat.succ_mul]at this;omega
theorem zaJ.replicate {zv:Array Value} {z:List V} (h:zfk w A nm μ H zv.toList z) (hl:z.length=sz) (len n:Nat) (hn:n=len*sz):
 zaJ w A nm μ H sz ((Array.range n).map (zv[· % zv.size]!)).toList (List.replicate len z):=by
 subst hn;have AS:zv.size=sz:=by have:=h.1;simp at this;omega
 refine⟨by simp,fun i row hr=> ?_,fun i row j x hr hj=> ?_⟩
 ·rw[List.getElem?_replicate]at hr;split at hr
  ·simp at hr;rw[<- hr,hl]
  ·simp at hr
 ·rw[List.getElem?_replicate]at hr;split at hr
  ·rename_i Ad;simp only[zA]at hr;subst hr;have AN:j<sz:=by rw[<- hl];exact(zH.1 hj).1
   obtain⟨v,hv,Ae⟩:=h.2 j x hj;refine⟨v,?_,Ae⟩;have hq:=zgg Ad AN;have hm:(i*sz+j) % sz=j:=by rw[Nat.mul_comm,Nat.mul_add_mod];exact Nat.mod_eq_of_lt AN
   simp only[Array.getElem?_toList]at hv;have Ph:j<zv.size:=by omega
   simp only[Array.toList_map,Array.toList_range,zJ,List.getElem?_range hq,Option.map_some,AS,hm];rw[Array.getElem?_eq_getElem Ph]at hv;simp only[zA]at hv;simp[Ph,hv]
  ·simp at hr
end
section
variable {P:Program} {N:Nam} {I:Inv} {c:Ctx} {ns p:Nat} {A:Nat->Prop} {μ lam:Nat->Nat} {s:St} {a:Act} {w:World} {e:Eff} {o:Oper}
theorem zhZ (hI:I.Ok N) (R:Rel N c ns A μ lam s a w) (sz:Nat): ∀(parts:List (Nat×Operand)) (ps:List (Nat×Opd)) (cells:Array Value) (rs rs':List (List V)),
 (parts.length=ps.length/\ ∀(i:Nat) (q:Nat×Opd),ps[i]? =some q-> ∃x,parts[i]? =some x/\x.1=q.1/\opd I x.2=some q.2)->
 zaJ w A N.nm μ s.heap sz cells.toList rs->zcH N.G rs sz s ps=some rs'->
 ∃cells',Instr.fill (fun i=>some (i*sz,sz)) cells (parts.map fun x=>(x.1,a.eval x.2))=some cells'/\zaJ w A N.nm μ s.heap sz cells'.toList rs'/\rs'.length=rs.length
 | [],ps,cells,rs,rs',Cd,Ae,hf=>by
   obtain⟨hl,_⟩:=Cd;have:ps=[]:=List.length_eq_zero_iff.1 (by simpa using hl.symm);subst this;simp only[zcH,zA]at hf;subst hf
   exact⟨cells,rfl,Ae,rfl⟩
 | (i,x)::parts,[],cells,rs,rs',Cd,Ae,hf=>by simp at Cd
 | (i,x)::parts,(i',y)::ps,cells,rs,rs',Cd,Ae,hf=>by
   obtain⟨hl,hq⟩:=Cd;obtain⟨q0,KN,BL,Ao⟩:=hq 0 _ rfl;simp only[List.getElem?_cons_zero,zA]at KN;subst KN;simp only at BL Ao;subst BL;simp only[zcH,zC,zB]at hf;obtain⟨v,hv,new,G3,hf⟩:=hf;split at hf
   ·rename_i Ac;obtain⟨Ac,AV⟩:=Ac;have hr:=(zat hI R Ao hv).cells G3;have AS:(a.eval x).cells.size=sz:=by have:=hr.1;simp at this;omega
    have By:cells.size=rs.length*sz:=by have:=Ae.1;simpa using this
    obtain⟨f1,f2⟩:=zlA (i*sz) (a.eval x).cells.toList 0 cells
    have Gx:zaJ w A N.nm μ s.heap sz (((a.eval x).cells.toList.zipIdx 0).foldl (fun cs (x:Value×Nat)=>match x with | (c,j)=>cs.setIfInBounds (i*sz+j) c) cells).toList (rs.set i new):=by
     refine Ae.set hr Ac AV (by simpa using f1) (fun k hk=> ?_);simp only[Array.getElem?_toList];rw[f2 k];simp only[Nat.add_zero,Array.length_toList]at hk⊢
     by_cases hc:i*sz<=k/\k<i*sz+(a.eval x).cells.size
     ·rw[if_pos ⟨hc.1,hc.2,hk⟩,if_pos hc];simp
     ·rw[if_neg (by omega),if_neg hc]
    obtain⟨cells',h1,h2,h3⟩:=zhZ hI R sz parts ps _ (rs.set i new) rs' ⟨by simpa using hl,fun i q hi=>by
     obtain⟨z,hz,Tv⟩:=hq (i+1) q (by simpa using hi)
     exact⟨z,by simpa using hz,Tv⟩⟩ Gx hf
    refine⟨cells',?_,h2,by simpa using h3⟩
    have AJ:i*sz+sz<=cells.size:=by
     rw[By];have:=Nat.mul_le_mul_right sz (Nat.succ_le_of_lt AV);rw[Nat.succ_mul]at this;exact this
    simp only[List.map_cons,Instr.fill,AS];rw[<- h1];have:(decide (sz≠sz)||decide (i*sz+sz>cells.size))=false:=by simp;omega
    simp only[this,zG,if_false]
    congr 1
    rw[<- Array.foldl_toList];simp
   ·simp at hf
theorem zzK (R:Rel N c ns A μ lam s a w) {k sz cap:Nat} {cells:Array Value} {cs:List Value} {rs:List (List V)} {t:TypeId} {d:Option Nat} (hk:s.heap k=none) (hn:k<s.nxt)
 (AD:zaJ w A N.nm μ s.heap sz cs rs) (CA: ∀(q:Nat) (v:Value),cs[q]? =some v->cells[q]? =some v) (Cs:cap*sz<=cells.size) (Cw:rs.length<=cap)
 (hd: ∀x,d=some x->x<ns) (hf:s.free d {}):
 Rel N c ns A (upd μ k w.heap.size) lam (s.apply d { val:=.ms k 0 rs.length,hp:=[(k,.rows sz rs false)] }) (a.put d (.slice (some ⟨w.heap.size,0,none⟩) rs.length cap)) (w.alloc (.cells cells t)):=by
 have R1:=zBx R (t:=t) (cells:=cells) hk hn (Nat.le_trans (Nat.mul_le_mul_right _ Cw) Cs) AD.2.1 (fun i row j x h1 h2=>by
  obtain⟨v,hv,hr⟩:=AD.2.2 i row j x h1 h2
  exact⟨v,CA _ v hv,hr⟩)
 refine R1.put d { val:=.ms k 0 rs.length } _ hd hf rfl rfl rfl ?_ (by simp)
 have:=RepC.ms (w:=w.alloc (.cells cells t)) (A:=A) (nm:=N.nm) (μ:=upd μ k w.heap.size) (H:=upd s.heap k (some (.rows sz rs false))) k 0 rs.length cap sz rs false (some ⟨w.heap.size,0,none⟩) (by simp) (by simp) (by omega)
  (.inr ⟨by simp,t,cells.size,by rw[zaz];unfold World.shape?;rw[zdT],by simpa using Cs⟩)
 exact this.toV
theorem zRr (R:Rel N c ns A μ lam s a w) {sz cap:Nat} {cells:Array Value} {cs:List Value} {rs:List (List V)} {ts:List (List T)} {t:TypeId} {d:Option Nat}
 (AD:zaJ w A N.nm μ s.heap sz cs rs) (FR:rs.mapM zeF=some ts) (CA: ∀(q:Nat) (v:Value),cs[q]? =some v->cells[q]? =some v) (Cw:rs.length<=cap)
 (hd: ∀x,d=some x->x<ns) (hf:s.free d {}):
 Rel N c ns (fun r=>A r\/r=w.heap.size) μ lam (s.apply d { val:=.t (.sl ts) }) (a.put d (.slice (some ⟨w.heap.size,0,none⟩) rs.length cap)) (w.alloc (.cells cells t)):=by
 have hE:=zjq R (.cells cells t);have G3:=zdT w (.cells cells t);have Nb:(w.alloc (.cells cells t)).heap.size=w.heap.size+1:=by simp only[World.alloc,Array.size_push]
 have R1:=R.alloc (.cells cells t)
 have R2:=R1.growA (fun q=>q=w.heap.size) (fun q hq t ht=>by have:=R.lt_loc ht;omega)
  (fun q hq k o hk hl=>by have:=R.lt_live hk hl;omega)
  (fun q hq=> .inr (by have:=R.csize;omega)) (fun q hq=>by omega) (R.defers.join R1.defers (fun q hq=>by omega))
 obtain⟨m1,m2⟩:=zbb FR;refine R2.put d { val:=.t (.sl ts) } _ hd hf rfl rfl rfl ?_ (by simp)
 cases Th:ts with
 | nil=>
   rw[Th]at m1;rw[m1]
   exact(RepC.t (.sl0 _ cap)).toV
 | cons t0 tr0=>
 rw[<- Th];have JY:=hE.blk
 have Ac: ∀(i1:Nat) (tr:List T),ts[i1]? =some tr->tr.length=sz:=fun i1 tr h1=>by
  obtain⟨row,h2,h3⟩:=m2 i1 tr h1;rw[(zj8 h3).1];exact AD.2.1 i1 row h2
 have Ag: ∀(i1:Nat) (tr:List T) (j:Nat) (y:T),ts[i1]? =some tr->tr[j]? =some y-> ∃v,cs[i1*sz+j]? =some v/\RepT w A N.nm v y:=fun i1 tr j y h1 h4=>by
  obtain⟨row,h2,h3⟩:=m2 i1 tr h1;obtain⟨y0,h5,rfl⟩:=(zj8 h3).2 j y h4;obtain⟨v,h6,h7⟩:=AD.2.2 i1 row j _ h2 h5
  cases h7 with
  | t h8=>exact⟨v,h6,h8.norm⟩
 have key:=RepT.sl (w:=w.alloc (.cells cells t)) (A:=fun r=>A r\/r=w.heap.size) (nm:=N.nm) w.heap.size 0 cap sz ts
  (fun i1 j=>(cs[i1*sz+j]?).getD default) (by rw[Th];simp) (by rw[<- m1];exact Cw) (.inr rfl) Ac ?_ ?_
 ·rw[<- m1]at key;exact(RepC.t key).toV
 ·intro i1 tr j y h1 h2;obtain⟨v,h3,_⟩:=Ag i1 tr j y h1 h2;rw[h3];simp only[World.cell?,G3,Nat.zero_add,Option.getD_some];exact CA _ v h3
 ·intro i1 tr j y h1 h2;obtain⟨v,h3,h4⟩:=Ag i1 tr j y h1 h2;rw[h3,Option.getD_some];exact h4.mono JY (fun _ h=> .inl h)
theorem zt6 (hI:I.Ok N) (R:Rel N c ns A μ lam s a w) {t el:TypeId} {n len:Nat} {ag:Bool} {z:List V} {parts:Array (Nat×Operand)} {ps:List (Nat×Opd)}
 (ht:P.underlying t=some (.slice el)) (A6:typ P el=some (ag,n)) (hz:zdc P el=some z) (Hr:z.length=n) (Ac:len*n<=2^24)
 (Cd:parts.toList.length=ps.length/\ ∀(i:Nat) (q:Nat×Opd),ps[i]? =some q-> ∃x,parts.toList[i]? =some x/\x.1=q.1/\opd I x.2=some q.2) (ho:o.op= .buildSlice t len parts)
 (hd: ∀x,o.dst=some x->x<ns) (hf:s.free o.dst e) (hk:s.heap (s.bas+p)=none) (hn:s.bas+p<s.nxt) (he:zaj N.G p s (.bslice n len z ps)=some e):zeB P N c ns o a w (s.apply o.dst e):=by
 simp only[zaj,zC,zB,zA]at he;obtain⟨rs,AD,rfl⟩:=he;obtain⟨i,v,hi,hv,hc,Am⟩:=zb4 hz;obtain⟨inf,g1,g2,g3,g4⟩:=zbr A6;have Bk:(parts.map fun(i,x)=>(i,a.eval x)).toList=parts.toList.map fun x=>(x.1,a.eval x.2):=by simp
 have GD: ¬(len*n>2^24):=by omega
 obtain⟨zero,BN,GP⟩: ∃zero:Array Value,zero=(if len*n=0 then #[]else v.cells)/\
  zaJ w A N.nm μ s.heap n ((Array.range (len*n)).map (zero[· % zero.size]!)).toList (List.replicate len z):=by
  by_cases h0:len*n=0
  ·refine⟨#[],by rw[if_pos h0],?_⟩;rcases Nat.mul_eq_zero.1 h0 with h | h
   ·subst h;simp;exact zaJ.nil
   ·subst h;refine⟨by simp,fun i row hr=> ?_,fun i row j x hr hj=> ?_⟩
    ·rw[List.getElem?_replicate]at hr;split at hr
     ·simp at hr;rw[<- hr,Hr]
     ·simp at hr
    ·rw[List.getElem?_replicate]at hr;split at hr
     ·simp at hr;subst hr;have:=List.length_eq_zero_iff.1 Hr;subst this;simp at hj
     ·simp at hr
  ·exact⟨v.cells,by rw[if_neg h0],zaJ.replicate (zbT hc) Hr len _ rfl⟩
 obtain⟨cells',h1,h2,h3⟩:=zhZ hI R n parts.toList ps _ _ rs Cd GP AD;simp only[List.length_replicate]at h3;subst h3;have By:cells'.size=rs.length*n:=by have:=h2.1;simpa using this
 refine⟨_,_,A,_,lam,.inl ?_,zzK R (t:=el) (cap:=rs.length) (d:=o.dst) (cells:=cells') hk hn h2 (by simp) (by rw[By];exact Nat.le_refl _) (Nat.le_refl _) hd hf⟩
 by_cases h0:rs.length*n=0
 ·rw[if_pos h0]at BN;subst BN;simp only[execOp,ho,Instr.buildSlice,Sem.run_bind,zau ht,Result.andThen_ok,zaO g1,g2,GD,if_false,Bk,newRow,Sem.run_pure];rw[if_pos h0];simp only[Sem.run_pure,Result.andThen_ok,h1,Sem.run_bind,run_newObj];rfl
 ·rw[if_neg h0]at BN;subst BN;simp only[execOp,ho,Instr.buildSlice,Sem.run_bind,zau ht,Result.andThen_ok,zaO g1,g2,GD,if_false,h0,Am,Bk,h1,newRow,run_newObj,Sem.run_pure];rfl
theorem zQ5 (hI:I.Ok N) (R:Rel N c ns A μ lam s a w) {t el:TypeId} {n len:Nat} {ag:Bool} {z:List V} {parts:Array (Nat×Operand)} {ps:List (Nat×Opd)}
 (ht:P.underlying t=some (.slice el)) (A6:typ P el=some (ag,n)) (hz:zdc P el=some z) (Hr:z.length=n) (Ac:len*n<=2^24)
 (Cd:parts.toList.length=ps.length/\ ∀(i:Nat) (q:Nat×Opd),ps[i]? =some q-> ∃x,parts.toList[i]? =some x/\x.1=q.1/\opd I x.2=some q.2) (ho:o.op= .buildSlice t len parts)
 (hd: ∀x,o.dst=some x->x<ns) (hf:s.free o.dst e) (he:zaj N.G p s (.lit n len z ps)=some e):zeB P N c ns o a w (s.apply o.dst e):=by
 simp only[zaj,zC,zB,zA]at he;obtain⟨rs,AD,ts,FR,rfl⟩:=he;obtain⟨i,v,hi,hv,hc,Am⟩:=zb4 hz;obtain⟨inf,g1,g2,g3,g4⟩:=zbr A6;have Bk:(parts.map fun(i,x)=>(i,a.eval x)).toList=parts.toList.map fun x=>(x.1,a.eval x.2):=by simp
 have GD: ¬(len*n>2^24):=by omega
 obtain⟨zero,BN,GP⟩: ∃zero:Array Value,zero=(if len*n=0 then #[]else v.cells)/\
  zaJ w A N.nm μ s.heap n ((Array.range (len*n)).map (zero[· % zero.size]!)).toList (List.replicate len z):=by
  by_cases h0:len*n=0
  ·refine⟨#[],by rw[if_pos h0],?_⟩;rcases Nat.mul_eq_zero.1 h0 with h | h
   ·subst h;simp;exact zaJ.nil
   ·subst h;refine⟨by simp,fun i row hr=> ?_,fun i row j x hr hj=> ?_⟩
    ·rw[List.getElem?_replicate]at hr;split at hr
     ·simp at hr;rw[<- hr,Hr]
     ·simp at hr
    ·rw[List.getElem?_replicate]at hr;split at hr
     ·simp at hr;subst hr;have:=List.length_eq_zero_iff.1 Hr;subst this;simp at hj
     ·simp at hr
  ·exact⟨v.cells,by rw[if_neg h0],zaJ.replicate (zbT hc) Hr len _ rfl⟩
 obtain⟨cells',h1,h2,h3⟩:=zhZ hI R n parts.toList ps _ _ rs Cd GP AD;simp only[List.length_replicate]at h3;subst h3;have By:cells'.size=rs.length*n:=by have:=h2.1;simpa using this
 refine⟨_,_,_,_,lam,.inl ?_,zRr R (t:=el) (cap:=rs.length) (d:=o.dst) (cells:=cells') h2 FR (by simp) (Nat.le_refl _) hd hf⟩
 by_cases h0:rs.length*n=0
 ·rw[if_pos h0]at BN;subst BN;simp only[execOp,ho,Instr.buildSlice,Sem.run_bind,zau ht,Result.andThen_ok,zaO g1,g2,GD,if_false,Bk,newRow,Sem.run_pure];rw[if_pos h0];simp only[Sem.run_pure,Result.andThen_ok,h1,Sem.run_bind,run_newObj];rfl
 ·rw[if_neg h0]at BN;subst BN;simp only[execOp,ho,Instr.buildSlice,Sem.run_bind,zau ht,Result.andThen_ok,zaO g1,g2,GD,if_false,h0,Am,Bk,h1,newRow,run_newObj,Sem.run_pure];rfl
theorem zhj {m:Int} (h0:0<=m) (h1:m<=2^32):IntKind.i64.wrap m=m:=by
 unfold IntKind.wrap;have e:m % (2^IntKind.i64.bits:Int)=m:=Int.emod_eq_of_lt h0 (by simp[IntKind.bits];omega);simp only[e];have : ¬(m>=(2^(IntKind.i64.bits-1):Int)):=by simp[IntKind.bits];omega
 simp[this]
theorem zrC (hI:I.Ok N) (R:Rel N c ns A μ lam s a w) {t el:TypeId} {n:Nat} {ag:Bool} {z:List V} {i:TypeInfo} {x y:Operand} {x' y':Opd}
 (hx:opd I x=some x') (hy:opd I y=some y') (ht:P.underlying t=some (.slice el)) (A6:typ P el=some (ag,n)) (hz:zdc P el=some z) (hi:P.info? el=some i) (ho:o.op= .makeSlice t x y) (Cg:0<n)
 (hd: ∀x,o.dst=some x->x<ns) (hf:s.free o.dst e) (hk:s.heap (s.bas+p)=none) (hn:s.bas+p<s.nxt) (he:zaj N.G p s (.mkslice n i.bytes z x' y')=some e):zeB P N c ns o a w (s.apply o.dst e):=by
 simp only[zaj,zC,zB]at he;obtain⟨l,hl,m,hm,he⟩:=he;split at he
 ·rename_i hb;obtain⟨Co,Cx,BM,H9,Hr⟩:=hb;simp only[zA]at he;subst he;obtain⟨kl,hkl⟩:=zc4 hI R hx hl;obtain⟨km,It⟩:=zc4 hI R hy hm;obtain⟨i',v,AK,hv,hc,Am⟩:=zb4 hz;obtain⟨inf,g1,g2,g3,g4⟩:=zbr A6;have Er:=zhj Co (by omega:l<=2^32);have FP:=zhj (by omega:(0:Int)<=m) BM
  have CH: ¬((i.bytes:Int)*m>2^48):=by
   have h1:(i.bytes:Int)*m<=2^12*2^32:=Int.mul_le_mul (by omega) BM (by omega) (by omega);omega
  obtain⟨zero,BN,GP⟩: ∃zero:Array Value,zero=(if m.toNat*n=0 then #[]else v.cells)/\
   zaJ w A N.nm μ s.heap n ((Array.range (m.toNat*n)).map (zero[· % zero.size]!)).toList (List.replicate m.toNat z):=by
   by_cases h0:m.toNat*n=0
   ·refine⟨#[],by rw[if_pos h0],?_⟩;rcases Nat.mul_eq_zero.1 h0 with h | h
    ·rw[h];simp;exact zaJ.nil
    ·omega
   ·exact⟨v.cells,by rw[if_neg h0],zaJ.replicate (zbT hc) Hr m.toNat _ rfl⟩
  have CA:=GP.take l.toNat (by simp;omega)
  have Gr:(List.replicate m.toNat z).take l.toNat=List.replicate l.toNat z:=by
   rw[List.take_replicate];congr 1;omega
  rw[Gr]at CA
  have Ea:=zzK R (t:=el) (cap:=m.toNat) (d:=o.dst) (cells:=(Array.range (m.toNat*n)).map (zero[· % zero.size]!)) hk hn CA (fun q v hq=>by
   rw[zO]at hq;split at hq
   ·rw[<- Array.getElem?_toList];exact hq
   ·simp at hq) (by simp) (by simp;omega) hd hf
  simp only[List.length_replicate]at Ea;refine⟨_,_,A,_,lam,.inl ?_,Ea⟩;have Bw:(decide (m<0)||decide ((i.bytes:Int)*m>2^48))=false:=by simp;omega
  have c1:decide (l<0)=false:=by simp;omega
  have c2:decide (l>m)=false:=by simp;omega
  by_cases h0:m.toNat*n=0
  ·rw[if_pos h0]at BN;subst BN;simp only[execOp,ho,Instr.makeSlice,Sem.run_bind,zau ht,Result.andThen_ok,hkl,It,asInt,asIntOf,Sem.run_pure,zgP hi,Er,FP,Bw,c1,c2,Bool.or_false,zG,if_false,run_askRoom,zaO g1,g2,h0,if_true,newRow,run_newObj];rfl
  ·rw[if_neg h0]at BN;subst BN;simp only[execOp,ho,Instr.makeSlice,Sem.run_bind,zau ht,Result.andThen_ok,hkl,It,asInt,asIntOf,Sem.run_pure,zgP hi,Er,FP,Bw,c1,c2,Bool.or_false,zG,if_false,run_askRoom,zaO g1,g2,h0,Am,newRow,run_newObj];rfl
 ·simp at he
end
end Rg
end
section
namespace Rg
open Go
section
variable {P:Program} {w:World}
theorem zoX {t u el el' ty:TypeId} {i:TypeInfo} {base:Option Addr} {v:Value} {sLen sCap n sz:Nat} {new:Array Value} {w':World} (ht:P.underlying t=some (.slice el)) (hu:P.underlying u=some (.slice el'))
 (hi:P.info? el=some i) (AS:i.size=sz) (hv: ∃ad cap,v= .slice ad n cap) (A5:sLen+n<=sCap) (G3:(Builtin.firstCells sz n v).run P w= .ok new w)
 (AE: ∀ad,base=some ad->(storeCells (ad.add (sLen*sz)) new.toList).run P w= .ok () w') (hb:base=none->w'=w):
 (Builtin.append_ #[t,u] ty #[.slice base sLen sCap,v]).run P w= .ok (.slice base (sLen+n) sCap) w':=by
 obtain⟨ad,cap,rfl⟩:=hv
 cases base with
 | none=>
   have:=hb rfl;subst this
   simp[Builtin.append_,zau ht,zau hu,zaO hi,AS,Builtin.lenOf,A5,G3]
 | some b=>
   simp[Builtin.append_,zau ht,zau hu,zaO hi,AS,Builtin.lenOf,A5,G3,AE b rfl]
end
theorem zjM {α:Type} {as bs rs:List α} {i:Nat} {row:α} (Dt:as=rs.take as.length) (h:(zbU as bs rs)[i]? =some row):
 (i<as.length/\rs[i]? =some row)\/(as.length<=i/\i<as.length+bs.length/\bs[i-as.length]? =some row)\/(as.length+bs.length<=i/\rs[i]? =some row):=by
 have h1:(as++bs)[i]? =some row->(i<as.length/\rs[i]? =some row)\/(as.length<=i/\i<as.length+bs.length/\bs[i-as.length]? =some row):=by
  intro h;rw[List.getElem?_append]at h;split at h
  ·rename_i Ad;left;refine⟨Ad,?_⟩;have e:as[i]? =(rs.take as.length)[i]? :=congrArg (fun l=>l[i]?) Dt;rw[e,zO,if_pos Ad]at h;exact h
  ·rename_i Bv;right;have:=(zH.1 h).1;exact⟨by omega,by omega,h⟩
 unfold zbU at h;split at h
 ·rcases h1 h with h | h
  ·exact .inl h
  ·exact .inr (.inl h)
 ·rw[List.getElem?_append]at h;split at h
  ·rcases h1 h with h | h
   ·exact .inl h
   ·exact .inr (.inl h)
  ·rename_i Bv;rw[zM]at Bv h;rw[List.getElem?_drop]at h;exact .inr (.inr ⟨by omega,by rw[<- h];congr 1;omega⟩)
theorem zoy {α:Type} (as bs rs:List α):as.length+bs.length<=(zbU as bs rs).length/\((zbU as bs rs).length=as.length+bs.length\/(zbU as bs rs).length=rs.length):=by
 unfold zbU;split
 ·rw[zM];exact⟨Nat.le_refl _,.inl rfl⟩
 ·rw[zM,zM,List.length_drop];exact⟨by omega,.inr (by omega)⟩
theorem zly (w:World) (need old:Nat) (e:TypeId):need<=grownCap w need old e:=by
 simp[grownCap,Question.cut]
section
variable {P:Program} {N:Nam} {I:Inv} {c:Ctx} {ns p:Nat} {A:Nat->Prop} {μ lam:Nat->Nat} {s:St} {a:Act} {w:World} {e:Eff} {o:Oper}
theorem zjp {cl:Call} (ho:o.op= .call cl) (hb:cl.callee= .builtin .append):
 (execOp a.eval o).run P w=((Builtin.append_ cl.argTypes o.type (cl.args.map a.eval)).run P w).andThen fun v w'=> .ok (.value v) w':=by
 simp[execOp,ho,resolve,hb,invoke,builtin]
theorem zsP {cl:Call} (ho:o.op= .call cl) (hb:cl.callee= .builtin .copy):
 (execOp a.eval o).run P w=((Builtin.copy_ cl.argTypes o.type (cl.args.map a.eval)).run P w).andThen fun v w'=> .ok (.value v) w':=by
 simp[execOp,ho,resolve,hb,invoke,builtin]
theorem zu4 {cl:Call} (ho:o.op= .call cl) (hb:cl.callee= .builtin .max):
 (execOp a.eval o).run P w=((Builtin.max_ cl.argTypes o.type (cl.args.map a.eval)).run P w).andThen fun v w'=> .ok (.value v) w':=by
 simp[execOp,ho,resolve,hb,invoke,builtin]
theorem zu3 {cl:Call} (ho:o.op= .call cl) (hb:cl.callee= .builtin .min):
 (execOp a.eval o).run P w=((Builtin.min_ cl.argTypes o.type (cl.args.map a.eval)).run P w).andThen fun v w'=> .ok (.value v) w':=by
 simp[execOp,ho,resolve,hb,invoke,builtin]
theorem zu6 {cl:Call} (ho:o.op= .call cl) (hb:cl.callee= .builtin .cap):
 (execOp a.eval o).run P w=((Builtin.cap_ cl.argTypes o.type (cl.args.map a.eval)).run P w).andThen fun v w'=> .ok (.value v) w':=by
 simp[execOp,ho,resolve,hb,invoke,builtin]
theorem zu5 {cl:Call} (ho:o.op= .call cl) (hb:cl.callee= .builtin .len):
 (execOp a.eval o).run P w=((Builtin.len_ cl.argTypes o.type (cl.args.map a.eval)).run P w).andThen fun v w'=> .ok (.value v) w':=by
 simp[execOp,ho,resolve,hb,invoke,builtin]
theorem znc (w:World): ∀ad,w.drew.cell? ad=w.cell? ad:=fun _=>rfl
theorem zlI (w:World) (A:Nat->Prop) (μ:Nat->Nat) (H:Nat->Option O):Evo w A μ H w.drew A μ H:=
 ⟨fun _ _=>rfl,fun _ h=>h,fun _ o h=>⟨o,h,O.le_refl o,fun _=>rfl⟩,fun _ _ h=>h⟩
theorem zt7 (hI:I.Ok N) (R:Rel N c ns A μ lam s a w) {cl:Call} {t u el el':TypeId} {n:Nat} {ag:Bool} {i:TypeInfo} {x y:Operand} {x' y':Opd} {zl:List V}
 (hx:opd I x=some x') (hy:opd I y=some y') (ht:P.underlying t=some (.slice el)) (hu:P.underlying u=some (.slice el')) (A6:typ P el=some (ag,n)) (hi:P.info? el=some i) (hz:zdc P el=some zl) (Hr:zl.length=n) (Cg:0<n)
 (ho:o.op= .call cl) (hb:cl.callee= .builtin .append) (Bj:cl.argTypes= #[t,u]) (Dh:cl.args= #[x,y])
 (hd: ∀x,o.dst=some x->x<ns) (hf:s.free o.dst e) (hk:s.heap (s.bas+p)=none) (hn:s.bas+p<s.nxt) (he:zaj N.G p s (.append n i.bytes x' y')=some e):zeB P N c ns o a w (s.apply o.dst e):=by
 have AP:=zjp (P:=P) (w:=w) (a:=a) ho hb;rw[Bj,Dh]at AP;simp only[List.map_toArray,List.map_cons,List.map_nil]at AP;obtain⟨inf,g1,g2,g3,g4⟩:=zbr A6;rw[hi]at g1;cases g1;obtain⟨i',z,AK,Ip,IO,Gi⟩:=zb4 hz;rw[hi]at AK;cases AK;have Io:z.cells.size=n:=by have:=(zbT (w:=w) (A:=A) (nm:=N.nm) (μ:=μ) (H:=s.heap) IO).1;simp at this;omega
 simp only[zaj,zC,zB]at he;obtain⟨v1,AX,v2,DT,as,Dt,bs,Ay,he⟩:=he;split at he
 ·rename_i hc;obtain⟨⟨Dr,CG⟩,Oi,M5⟩:=hc;have r1:=zat hI R hx AX;have r2:=zat hI R hy DT;obtain⟨ad1,cap1,cs1,e1,l1,rr1,f1⟩:=ze8 (P:=P) R r1 Dt M5;obtain⟨ad2,cap2,cs2,e2,l2,rr2,f2⟩:=ze8 (P:=P) R r2 Ay Oi;have t1: ∀{cs:List Value} {rs:List (List V)},cs.length=rs.length*n->cs.take (rs.length*n)=cs:=fun h=>by rw[<- h,List.take_length]
  rw[e1,e2]at AP;have F2:=f2 w (fun _=>rfl) bs.length (Nat.le_refl _);rw[t1 rr2.1,e2]at F2;have F1':=f1 w.drew (znc w) as.length (Nat.le_refl _);rw[t1 rr1.1,e1]at F1';have F2':=f2 w.drew (znc w) bs.length (Nat.le_refl _);rw[t1 rr2.1,e2]at F2';split at he
  ·rename_i GV;simp only[zA]at he;subst he;have Fv:bs=[]:=by simpa using GV
   subst Fv;have FE:cs2=[]:=List.length_eq_zero_iff.1 (by simpa using rr2.1);subst FE;refine⟨a.eval x,w,A,μ,lam,.inl ?_,R.put o.dst _ _ hd hf rfl rfl rfl r1 (by simp)⟩;rw[AP,zoX (w':=w) ht hu hi g2 ⟨_,_,rfl⟩ (by simpa using l1) F2 (fun ad _=>by simp[storeCells]) (fun _=>rfl),e1];simp
  ·rename_i GV
   have D4:0<bs.length:=by
    cases bs with
    | nil=>simp at GV
    | cons b l=>simp
   -- a new block,whatever was there
   have grow: ¬(as.length+bs.length<=cap1)-> ∀(s1:St) (_:Rel N c ns A μ lam s1 a w),s1.heap (s.bas+p)=none->s.bas+p<s1.nxt->s1.free o.dst {}->
    zaJ w A N.nm μ s1.heap n (cs1++cs2) (as++bs)->
    zeB P N c ns o a w (s1.apply o.dst { val:=.ms (s.bas+p) 0 (as++bs).length,hp:=[(s.bas+p,.rows n (as++bs) false)] }):=by
    intro B5 s1 Gv A3 Fj H6 AH
    have src:Src P i.size u (.slice ad2 bs.length cap2) bs.length cs2 w:=
     ⟨.inl ⟨el',hu⟩,fun _=>rfl,by rw[g2];exact F2,by rw[g2];exact F2',by rw[g2];exact rr2.1,rr2.one Cg⟩
    have GH:as.length+bs.length<=2^32:=Dr
    have AJ:Builtin.nextslicecap (as.length+bs.length) cap1*i.bytes<=281474976710656:=by
     refine growslice_fits (by omega) ?_;have:=Nat.mul_le_mul GH CG;omega
    have Am:=run_append_grow_src (P:=P) w t u o.type el i z ht hi Ip ad1 as.length cap1 cs1 (by rw[g2];exact F1') (.slice ad2 bs.length cap2) bs.length cs2 src (by omega) (by omega) AJ;have Ac:(as++bs).length=as.length+bs.length:=by simp
    have JT:(cs1++cs2).length=(as.length+bs.length)*n:=by rw[AH.1,Ac]
    have Cw:=zly w (as.length+bs.length) cap1 el;rw[Am]at AP
    have Ea:=zzK (Gv.drew) (t:=el) (cap:=grownCap w (as.length+bs.length) cap1 el) (d:=o.dst)
     (cells:=(cs1++cs2).toArray++Builtin.zeroCells z.cells (grownCap w (as.length+bs.length) cap1 el-(as.length+bs.length))) A3 Fj (AH.evo (zlI w A μ s1.heap)) (fun q v hq=>by
       rw[Array.getElem?_append_left (by simpa using(zH.1 hq).1)]
       simpa using hq) (by
       rw[Array.size_append]
       have e3:(Builtin.zeroCells z.cells (grownCap w (as.length+bs.length) cap1 el-(as.length+bs.length))).size=(grownCap w (as.length+bs.length) cap1 el-(as.length+bs.length))*n:=by
        simp[Builtin.zeroCells,Io]
       rw[e3];have e4:(cs1++cs2).toArray.size=(as.length+bs.length)*n:=by simpa using JT
       rw[e4,<- Nat.add_mul]
       exact Nat.mul_le_mul_right _ (by omega)) (by rw[Ac];exact Cw) hd H6
    rw[Ac]at Ea⊢;exact⟨_,_,A,_,lam,.inl AP,Ea⟩
   split at he
   ·simp only[zA]at he;subst he;simp only[zdw,zA]at Dt;subst Dt
    have CM:cap1=0:=by
     rw[e1]at r1;obtain⟨_,h⟩:=r1.t_inv.nils_inv;cases h;rfl
    have:=grow (by simp;omega) s R hk hn hf (rr1.append rr2);simpa using this
   ·-- a clipped slice:a new block that is never written again
    rename_i es;simp only[zB,zA]at he;obtain⟨ts,FR,rfl⟩:=he
    have CM:cap1=as.length:=by
     rw[e1]at r1;simp only[zdw,zA]at Dt;have h2:=RepT.slc_inv r1.t_inv;rw[<- Dt,List.length_map];exact h2.2
    have B5: ¬(as.length+bs.length<=cap1):=by omega
    have AH:=rr1.append rr2
    have src:Src P i.size u (.slice ad2 bs.length cap2) bs.length cs2 w:=
     ⟨.inl ⟨el',hu⟩,fun _=>rfl,by rw[g2];exact F2,by rw[g2];exact F2',by rw[g2];exact rr2.1,rr2.one Cg⟩
    have GH:as.length+bs.length<=2^32:=Dr
    have AJ:Builtin.nextslicecap (as.length+bs.length) cap1*i.bytes<=281474976710656:=by
     refine growslice_fits (by omega) ?_;have:=Nat.mul_le_mul GH CG;omega
    have Am:=run_append_grow_src (P:=P) w t u o.type el i z ht hi Ip ad1 as.length cap1 cs1 (by rw[g2];exact F1') (.slice ad2 bs.length cap2) bs.length cs2 src (by omega) (by omega) AJ;rw[Am]at AP;have Cw:=zly w (as.length+bs.length) cap1 el;have E9:=AH.evo (zlI w A μ s.heap);have Rd:=R.drew
    generalize grownCap w (as.length+bs.length) cap1 el=gc at AP Cw
    generalize Builtin.zeroCells z.cells (gc-(as.length+bs.length))=zc at AP
    have AS:w.drew.heap.size=w.heap.size:=rfl
    generalize w.drew=wd at AP E9 Rd AS
    have hE:=zjq Rd (.cells ((cs1++cs2).toArray++zc) el);have G3:=zdT wd (.cells ((cs1++cs2).toArray++zc) el);have Nb:(wd.alloc (.cells ((cs1++cs2).toArray++zc) el)).heap.size=wd.heap.size+1:=by simp only[World.alloc,Array.size_push]
    have R1:=Rd.alloc (.cells ((cs1++cs2).toArray++zc) el)
    have R2:=R1.growA (fun q=>q=wd.heap.size) (fun q hq t ht=>by have:=Rd.lt_loc ht;omega)
     (fun q hq k o hk hl=>by have:=Rd.lt_live hk hl;omega)
     (fun q hq=> .inr (by have:=Rd.csize;omega)) (fun q hq=>by omega) (Rd.defers.join R1.defers (fun q hq=>by omega))
    obtain⟨m1,m2⟩:=zbb FR;have Oj:0<ts.length:=by rw[<- m1,zM];omega
    have Dd:ts.length=as.length+bs.length:=by rw[<- m1,zM]
    have Cf:zbl (wd.alloc (.cells ((cs1++cs2).toArray++zc) el)) (fun r=>A r\/r=wd.heap.size) N.nm μ s.heap (.slice (some ⟨w.heap.size,0,none⟩) (as.length+bs.length) gc) (.t (.sl ts)):=by
     have JY:=hE.blk;have Ap: ∀(i1:Nat) (tr:List T),ts[i1]? =some tr-> ∃row,(as++bs)[i1]? =some row/\zeF row=some tr:=fun i1 tr h1=>m2 i1 tr h1
     have FS: ∀(row:List V) (tr:List T),zeF row=some tr->tr.length=row.length/\ ∀(j:Nat) (y:T),tr[j]? =some y-> ∃y0,row[j]? =some (.t y0)/\y=y0.norm:=by
      intro row
      induction row with
      | nil=>intro tr h1;simp[zeF]at h1;subst h1;exact⟨rfl,fun j y h=>by simp at h⟩
      | cons v1 row ih=>
        intro tr h1;cases v1<;>simp only[zeF,reduceCtorEq]at h1
        rename_i y0;rw[zE]at h1;obtain⟨tr',h2,rfl⟩:=h1;obtain⟨h3,h4⟩:=ih tr' h2;refine⟨by simp[h3],fun j y hj=> ?_⟩
        cases j with
        | zero=>simp at hj;exact⟨y0,rfl,hj.symm⟩
        | succ j=>simpa using h4 j y (by simpa using hj)
     have Ac: ∀(i1:Nat) (tr:List T),ts[i1]? =some tr->tr.length=n:=fun i1 tr h1=>by
      obtain⟨row,h2,h3⟩:=Ap i1 tr h1;rw[(FS row tr h3).1];exact E9.2.1 i1 row h2
     have Ag: ∀(i1:Nat) (tr:List T) (j:Nat) (y:T),ts[i1]? =some tr->tr[j]? =some y-> ∃v,(cs1++cs2)[i1*n+j]? =some v/\RepT wd A N.nm v y:=fun i1 tr j y h1 h4=>by
      obtain⟨row,h2,h3⟩:=Ap i1 tr h1;obtain⟨y0,h5,rfl⟩:=(FS row tr h3).2 j y h4;obtain⟨v,h6,h7⟩:=E9.2.2 i1 row j _ h2 h5
      cases h7 with
      | t h8=>exact⟨v,h6,h8.norm⟩
     have key:=RepT.sl (w:=wd.alloc (.cells ((cs1++cs2).toArray++zc) el)) (A:=fun r=>A r\/r=wd.heap.size) (nm:=N.nm) wd.heap.size 0 gc n ts
      (fun i1 j=>((cs1++cs2)[i1*n+j]?).getD default) Oj (by rw[Dd];exact Cw) (.inr rfl) Ac ?_ ?_
     ·rw[Dd]at key;rw[<- AS];exact(RepC.t key).toV
     ·intro i1 tr j y h1 h2;obtain⟨v,h3,_⟩:=Ag i1 tr j y h1 h2;rw[h3];simp only[World.cell?,G3,Nat.zero_add,Option.getD_some];rw[Array.getElem?_append_left (by simpa using(zH.1 h3).1)];simpa using h3
     ·intro i1 tr j y h1 h2;obtain⟨v,h3,h4⟩:=Ag i1 tr j y h1 h2;rw[h3,Option.getD_some];exact h4.mono JY (fun _ h=> .inl h)
    exact⟨_,_,_,μ,lam,.inl AP,R2.put o.dst _ _ hd hf rfl rfl rfl Cf (by simp)⟩
   ·rename_i k j ll;split at he
    ·rename_i sz' rs AB;split at he
     ·rename_i Fs;obtain⟨rfl,rfl⟩:=Fs;simp only[zA]at he;subst he;have J4:s.bas+p≠k:=by intro h;rw[h]at hk;simp[AB]at hk
      have hE:Evo w A μ s.heap w A μ (upd s.heap k (some .dead)):=by
       refine⟨fun _ _=>rfl,fun _ h=>h,fun k1 o1 h=> ?_,fun _ _ h=>h⟩
       by_cases e:k1=k
       ·subst e;exact⟨.dead,by simp,by cases o1<;>trivial,fun _=>rfl⟩
       ·exact⟨o1,by rw[zad _ _ e];exact h,O.le_refl o1,fun _=>rfl⟩
      have A3:(upd s.heap k (some .dead)) (s.bas+p)=none:=by rw[zad _ _ J4];exact hk
      have Pr:rs.length<=cap1:=by
       rw[e1]at r1
       cases(r1:RepC w A N.nm μ s.heap _ _)with
       | ms _ _ _ _ sz2 rs2 frz2 _ Ah AK Bz ha=>rw[AB]at Ah;cases Ah;omega
       | dms _ _ _ Ah=>rw[AB]at Ah;cases Ah
      by_cases Dy:as.length+bs.length<=cap1
      ·-- in place
       rw[e1]at r1
       have Eo:as.length=ll/\as=rs.take ll:=by
        simp only[zdw,AB,rd]at Dt;split at Dt
        ·simp only[List.drop_zero,zA]at Dt;subst Dt;exact⟨by simp;omega,rfl⟩
        ·simp at Dt
       obtain⟨cc,e0,zz,h1,h2,h3,h4,h5⟩:=R.heap k _ AB;have FM:=h2 rfl;subst FM
       obtain⟨CI,GY⟩:ad1=some ⟨μ k,0,none⟩/\cap1*sz'<=cc.size:=by
        cases(r1:RepC w A N.nm μ s.heap _ _)with
        | ms _ _ _ _ sz2 rs2 frz2 _ Ah AK Bz ha=>
          rw[AB]at Ah;cases Ah;obtain⟨rfl,e3,n3,OV,N1⟩:=ha.resolve_left (by omega);simp only[World.shape?,h1,zA,Prod.mk.injEq]at OV;obtain⟨_,rfl⟩:=OV
          exact⟨by simp,by simpa using N1⟩
        | dms _ _ _ Ah=>rw[AB]at Ah;cases Ah
       subst CI;have FE:=rr2.1
       have AJ:as.length*sz'+0+cs2.length<=cc.size:=by
        rw[FE,Nat.add_zero,<- Nat.add_mul];exact Nat.le_trans (Nat.mul_le_mul_right _ Dy) GY
       have AE:=run_storeCells_at P (μ k) (as.length*sz') e0 cs2 0 cc w h1 AJ (rr2.one Cg)
       let arr:Array Value:=(cc.toList.take (as.length*sz'+0)++cs2++cc.toList.drop (as.length*sz'+0+cs2.length)).toArray
       have Br:wr cc.toList (as.length*sz') cs2=some arr.toList:=by
        unfold wr;rw[if_pos (by simpa using AJ)];simp[arr]
       obtain⟨j1,j2,j3⟩:=zfn Br;have Dj:arr.size=cc.size:=by simpa using j2
       have R1:=R.kill AB;have orph:=R.orphan_kill AB rfl (by simp);have R2:=R1.setOrphan orph h1 Dj
       have JY:Evo w A μ (upd s.heap k (some .dead)) (w.setRow (μ k) arr) A μ (upd s.heap k (some .dead)):=
        ⟨fun r hr=>setRow_other w _ r _ (fun e=>orph.a (e▸hr)),fun _ h=>h,fun _ o h=>⟨o,h,O.le_refl o,fun _=>rfl⟩,shape?_setRow h1 Dj⟩
       have LS:as=rs.take as.length:=by rw[Eo.1];exact Eo.2
       obtain⟨al1,al2⟩:=zoy as bs rs
       have GA:zq3 (w.setRow (μ k) arr) A N μ (upd s.heap k (some .dead)) (μ k) (.rows sz' (zbU as bs rs) false):=by
        have Ix: ∀(i1:Nat) (row:List V),(zbU as bs rs)[i1]? =some row->row.length=sz':=by
         intro i1 row B8;rcases zjM LS B8 with⟨_,h⟩ | ⟨_,_,h⟩ | ⟨_,h⟩
         ·exact h4 _ row h
         ·exact rr2.2.1 _ row h
         ·exact h4 _ row h
        refine⟨arr,e0,(0,0),setRow_heap w _ cc arr e0 _ h1,fun _=>rfl,?_,Ix,?_⟩
        ·rw[Dj];rcases al2 with al2 | al2
         ·rw[al2];exact Nat.le_trans (Nat.mul_le_mul_right _ Dy) GY
         ·rw[al2];exact h3
        ·intro i1 row j x B8 hj;have Bb:=Ix i1 row B8;have AN:j<sz':=by rw[<- Bb];exact(zH.1 hj).1
         have Ag:arr[i1*sz'+j]? =arr.toList[i1*sz'+j]? :=by rw[Array.getElem?_toList]
         rw[Ag,j3];rcases zjM LS B8 with⟨Ad,Cq⟩ | ⟨Bv,Ad,Cq⟩ | ⟨Bv,Cq⟩
         ·have:=zgg Ad AN;rw[if_neg (by omega)];obtain⟨v,hv,hr⟩:=h5 i1 row j x Cq hj;exact⟨v,by simpa using hv,(hr.evo hE).evo JY⟩
         ·have AV:i1-as.length<bs.length:=(zH.1 Cq).1;have e5:i1*sz'=as.length*sz'+(i1-as.length)*sz':=by rw[<- Nat.add_mul];congr 1;omega
          have:=zgg AV AN;rw[if_pos (by rw[FE];omega)];obtain⟨v,hv,hr⟩:=rr2.2.2 _ row j x Cq hj;refine⟨v,?_,(hr.evo hE).evo JY⟩;have e6:i1*sz'+j-as.length*sz'=(i1-as.length)*sz'+j:=by omega
          rw[e6];exact hv
         ·have:=Nat.mul_le_mul_right sz' Bv;rw[Nat.add_mul]at this;rw[if_neg (by rw[FE];omega)];obtain⟨v,hv,hr⟩:=h5 i1 row j x Cq hj;exact⟨v,by simpa using hv,(hr.evo hE).evo JY⟩
       have R3:=R2.adoptH (k:=s.bas+p) A3 hn orph GA (by simp)
       have Am:=zoX (P:=P) (ty:=o.type) (w':=w.setRow (μ k) arr) ht hu hi g2 ⟨ad2,cap2,rfl⟩ Dy F2 (base:=some ⟨μ k,0,none⟩) (fun ad h=>by
        cases h;rw[zcL,Nat.zero_add]
        exact AE) (fun h=>by simp at h)
       rw[Am]at AP;refine⟨_,_,A,_,lam,.inl AP,R3.put o.dst { val:=.ms (s.bas+p) 0 (as.length+bs.length) } _ hd hf rfl rfl rfl ?_ (by simp)⟩
       have E7:(w.setRow (μ k) arr).shape? (μ k)=some (e0,cc.size):=by
        unfold World.shape?;rw[setRow_heap w _ cc arr e0 _ h1];simp[Dj]
       have:=RepC.ms (w:=w.setRow (μ k) arr) (A:=A) (nm:=N.nm) (μ:=upd μ (s.bas+p) (μ k)) (H:=upd (upd s.heap k (some .dead)) (s.bas+p) (some (.rows sz' (zbU as bs rs) false))) (s.bas+p) 0 (as.length+bs.length) cap1 sz' (zbU as bs rs) false
        (some ⟨μ k,0,none⟩) (by simp) (by omega) (by rcases al2 with al2 | al2<;>omega) (.inr ⟨by simp,e0,cc.size,by simpa using E7,by simpa using GY⟩)
       exact this.toV
      ·have:=grow Dy { s with heap:=upd s.heap k (some .dead) } (R.kill AB) A3 hn hf ((rr1.append rr2).evo hE);rw[zM]at this;rw[show zbU as bs rs=as++bs from if_pos (by omega)];exact this
     ·simp at he
    ·simp at he
   ·simp at he
 ·simp at he
theorem zif (w:World) (t tx ty e:TypeId) (i:TypeInfo) (z:Value) (k k':IntKind) (ht:P.underlying t=some (.slice e)) (hi:P.info? e=some i) (hz:i.zero=some z) (hk:P.underlying tx=some (.int k)) (base:Option Addr) (m:Nat) (hm:1<=m) (hs:0<i.size)
 (hw:IntKind.i64.wrap (m:Int)=m) (MF:(m:Int)<=9223372036854775807) (hb: ¬((m:Int)*i.bytes>2^48)) (AJ:Builtin.nextslicecap m 0*i.bytes<=281474976710656):
 (Builtin.append_ #[t,tx] ty #[.slice base 0 0,.int k' m]).run P w=
   .ok (.slice (some ⟨w.heap.size,0,none⟩) m (grownCap w m 0 e)) (w.drew.alloc (.cells (Builtin.zeroCells z.cells m++Builtin.zeroCells z.cells (grownCap w m 0 e-m)) e)):=by
 have h1: ¬((m:Int)<0):=by omega
 have h3: ¬(9223372036854775807<(m:Int)):=by omega
 have h4: ¬(281474976710656<Builtin.nextslicecap m 0*i.bytes):=by omega
 have h5: ¬(m=0):=by omega
 have h7: ¬(m*i.size=0):=by
  intro h;rcases Nat.mul_eq_zero.1 h with h | h<;>omega
 have h6: ¬(281474976710656<(m:Int)*i.bytes):=by simpa using hb
 have h0:(Builtin.firstCells i.size 0 (.slice base 0 0)).run P w.drew= .ok #[] w.drew:=by
  cases base with
  | none=>exact run_firstCells_none w.drew i.size 0 0 0
  | some ad=>exact run_firstCells_some w.drew i.size 0 ad 0 0 [] (by simp) (by simp)
 simp[Builtin.append_,run_underlying ht,run_underlying hk,Go.sizeOf,typeInfo,zeroValue,hi,hz,asInt,asIntOf,hw,h1,h3,h4,h5,h6,h7,h0,Question.forced,newRow,grownCap]
theorem zya (hI:I.Ok N) (R:Rel N c ns A μ lam s a w) {cl:Call} {t u el:TypeId} {k:IntKind} {n:Nat} {ag:Bool} {i:TypeInfo} {x y:Operand} {x' y':Opd} {zl:List V}
 (hx:opd I x=some x') (hy:opd I y=some y') (ht:P.underlying t=some (.slice el)) (hu:P.underlying u=some (.int k)) (A6:typ P el=some (ag,n)) (hi:P.info? el=some i) (hz:zdc P el=some zl) (Cg:0<n)
 (ho:o.op= .call cl) (hb:cl.callee= .builtin .append) (Bj:cl.argTypes= #[t,u]) (Dh:cl.args= #[x,y])
 (hd: ∀x,o.dst=some x->x<ns) (hf:s.free o.dst e) (hk:s.heap (s.bas+p)=none) (hn:s.bas+p<s.nxt) (he:zaj N.G p s (.appz n i.bytes zl x' y')=some e):zeB P N c ns o a w (s.apply o.dst e):=by
 have AP:=zjp (P:=P) (w:=w) (a:=a) ho hb;rw[Bj,Dh]at AP;simp only[List.map_toArray,List.map_cons,List.map_nil]at AP;obtain⟨inf,g1,g2,g3,g4⟩:=zbr A6;rw[hi]at g1;cases g1;obtain⟨i',z,AK,Ip,IO,Gi⟩:=zb4 hz;rw[hi]at AK;cases AK;simp only[zaj,zC,zB]at he;obtain⟨m,hm,v,hv,he⟩:=he;split at he
 ·split at he
  ·rename_i hc;obtain⟨c1,c2,c3,c4⟩:=hc;simp only[zA]at he;subst he;obtain⟨km,It⟩:=zc4 hI R hy hm
   obtain⟨ad,D7⟩: ∃ad,a.eval x= .slice ad 0 0:=by
    have h:=(zat hI R hx hv).t_inv
    generalize a.eval x=q at h
    cases h;exact⟨_,rfl⟩
   obtain⟨q,rfl⟩: ∃q:Nat,m=q:=⟨m.toNat,by omega⟩
   rw[D7,It]at AP
   have CH: ¬((q:Int)*i.bytes>2^48):=by
    have h1:(q:Int)*i.bytes<=2^32*2^12:=Int.mul_le_mul c2 (by omega) (by omega) (by omega);omega
   have AJ:Builtin.nextslicecap q 0*i.bytes<=281474976710656:=by
    refine growslice_fits (by omega) ?_;have:=Nat.mul_le_mul (show q<=2^32 by omega) c3;omega
   have Am:=zif (P:=P) w t u o.type el i z k km ht hi Ip hu ad q (by omega) (by omega) (zhj (by omega) c2) (by omega) CH AJ;rw[Am]at AP;have Io:z.cells.size=n:=by have:=(zbT (w:=w) (A:=A) (nm:=N.nm) (μ:=μ) (H:=s.heap) IO).1;simp at this;omega
   have AH:zaJ w A N.nm μ s.heap n (Builtin.zeroCells z.cells q).toList (List.replicate q zl):=zaJ.replicate (zbT IO) c4 q _ (by simp[Io]);have Cw:=zly w q 0 el
   have Ea:=zzK R.drew (t:=el) (cap:=grownCap w q 0 el) (d:=o.dst) (cells:=Builtin.zeroCells z.cells q++Builtin.zeroCells z.cells (grownCap w q 0 el-q)) hk hn (AH.evo (zlI w A μ s.heap)) (fun j v hj=>by
    rw[Array.getElem?_toList]at hj;rw[Array.getElem?_append_left (Array.getElem?_eq_some_iff.1 hj).1]
    exact hj) (by
    rw[Array.size_append];simp only[Builtin.zeroCells,Io,Array.size_map,Array.size_range];rw[<- Nat.add_mul]
    exact Nat.mul_le_mul_right _ (by omega)) (by simp;exact Cw) hd hf
   simp only[List.length_replicate,Int.toNat_natCast]at Ea⊢;exact⟨_,_,A,_,lam,.inl AP,Ea⟩
  ·simp at he
 ·simp at he
theorem zx3 (hI:I.Ok N) (R:Rel N c ns A μ lam s a w) {cl:Call} {t u el:TypeId} {n:Nat} {ag:Bool} {x y:Operand} {x' y':Opd}
 (hx:opd I x=some x') (hy:opd I y=some y') (ht:P.underlying t=some (.slice el)) (A6:typ P el=some (ag,n)) (Cg:0<n)
 (ho:o.op= .call cl) (hb:cl.callee= .builtin .copy) (Bj:cl.argTypes= #[t,u]) (Dh:cl.args= #[x,y])
 (hd: ∀x,o.dst=some x->x<ns) (hf:s.free o.dst e) (he:zaj N.G p s (.copy n x' y')=some e):zeB P N c ns o a w (s.apply o.dst e):=by
 have AP:=zsP (P:=P) (w:=w) (a:=a) ho hb;rw[Bj,Dh]at AP;simp only[List.map_toArray,List.map_cons,List.map_nil]at AP;obtain⟨inf,g1,g2,g3,g4⟩:=zbr A6;simp only[zaj,zC,zB]at he;obtain⟨v1,AX,v2,DT,bs,Ay,he⟩:=he;have r1:=zat hI R hx AX;have r2:=zat hI R hy DT
 obtain⟨ad2,cap2,e2⟩: ∃ad cap,a.eval y= .slice ad bs.length cap:=by
  refine r2.len_inv ?_;unfold zdw at Ay;unfold lenOf;split at Ay
  ·simp only[zA]at Ay;subst Ay;rfl
  ·simp only[zA]at Ay;subst Ay;simp
  ·simp only[zA]at Ay;subst Ay;simp
  ·split at Ay
   ·unfold rd at Ay;split at Ay
    ·simp only[zA]at Ay;subst Ay;simp;omega
    ·simp at Ay
   ·simp at Ay
  ·simp at Ay
 have BN: ∀w:World,(Builtin.firstCells n 0 (a.eval y)).run P w= .ok #[] w:=by
  intro w;rw[e2]
  cases ad2 with
  | none=>simp[Builtin.firstCells]
  | some ad=>simp[Builtin.firstCells,loadCells,loadCellsFrom]
 split at he
 ·simp only[zA]at he;subst he;obtain⟨ad1,e1⟩:=r1.t_inv.nils_inv;refine⟨goInt 0,w,A,μ,lam,.inl ?_,R.put o.dst _ _ hd hf rfl rfl rfl (RepC.t (.int _ _)).toV (by simp)⟩;rw[AP];have Mk:=BN w;rw[e2]at Mk;rw[e1,e2]
  cases ad1 with
  | none=>simp[Builtin.copy_,zau ht,Builtin.lenOf,zaO g1,g2,Mk]
  | some ad=>simp[Builtin.copy_,zau ht,Builtin.lenOf,zaO g1,g2,Mk,storeCells]
 ·rename_i k i len;split at he
  ·rename_i sz' rs AB;split at he
   ·rename_i Fs;obtain⟨rfl,Aa⟩:=Fs;simp only[zB,zA]at he;obtain⟨rs',hw,rfl⟩:=he;obtain⟨ad2',cap2',cs2,e2',l2,rr2,f2⟩:=ze8 (P:=P) R r2 Ay Aa;obtain⟨cc,e0,zz,h1,h2,h3,h4,h5⟩:=R.heap k _ AB;have FM:=h2 rfl;subst FM;obtain⟨q1,q2,q3⟩:=zfn hw
    obtain⟨base,cap,e1,Db⟩: ∃base cap,a.eval x= .slice base len cap/\(0<len->base=some ⟨μ k,i*sz',none⟩):=by
     generalize a.eval x=v at r1
     cases(r1:RepC w A N.nm μ s.heap v _)with
     | ms _ _ _ cap sz2 rs2 frz2 ad Ah AK Bz ha=>
       rw[AB]at Ah;cases Ah;refine⟨ad,cap,rfl,fun hl=> ?_⟩
       exact(ha.resolve_left (by omega)).1
     | dms _ _ _ Ah=>rw[AB]at Ah;cases Ah
    have Lk:min bs.length len<=bs.length:=Nat.min_le_left _ _;have F2:=f2 w (fun _=>rfl) (min bs.length len) Lk;have Dd:(bs.take len).length=min bs.length len:=by simp[Nat.min_comm]
    have CA:(cs2.take (min bs.length len*sz')).length=min bs.length len*sz':=by
     rw[List.length_take,rr2.1];exact Nat.min_eq_left (Nat.mul_le_mul_right _ Lk)
    have AJ:i*sz'+0+(cs2.take (min bs.length len*sz')).length<=cc.size:=by
     rw[CA,Nat.add_zero,<- Nat.add_mul];refine Nat.le_trans (Nat.mul_le_mul_right _ ?_) h3;rw[<- Dd];exact q1
    have AE:=run_storeCells_at P (μ k) (i*sz') e0 (cs2.take (min bs.length len*sz')) 0 cc w h1 AJ (fun v hv=>rr2.one Cg v (List.mem_of_mem_take hv))
    let arr:Array Value:=(cc.toList.take (i*sz'+0)++cs2.take (min bs.length len*sz')++cc.toList.drop (i*sz'+0+(cs2.take (min bs.length len*sz')).length)).toArray
    have Br:wr cc.toList (i*sz') (cs2.take (min bs.length len*sz'))=some arr.toList:=by
     unfold wr;rw[if_pos (by simpa using AJ)];simp[arr]
    obtain⟨j1,j2,j3⟩:=zfn Br;have Dj:arr.size=cc.size:=by simpa using j2
    have R1:=R.changeH (o':= .rows sz' rs' false) (w':=w.setRow (μ k) arr) AB ⟨rfl,q2⟩ rfl (by simp) (by simp) rfl (by simp) (fun r hr=>setRow_other w _ r _ hr)
     (shape?_setRow h1 Dj) (fun E=>by
       refine⟨arr,e0,(0,0),setRow_heap w _ cc arr e0 _ h1,fun _=>rfl,by rw[Dj,q2];exact h3,?_,?_⟩
       ·intro i1 row B3;rw[q3 i1]at B3;split at B3
        ·rw[zO]at B3;split at B3
         ·exact rr2.2.1 _ row B3
         ·simp at B3
        ·exact h4 i1 row B3
       ·intro i1 row j x B3 hj;have Ag:arr[i1*sz'+j]? =arr.toList[i1*sz'+j]? :=by rw[Array.getElem?_toList]
        rw[Ag,j3];rw[q3 i1]at B3;split at B3
        ·rename_i Aj;rw[zO]at B3;split at B3
         ·rename_i Ad;have AN:j<sz':=by rw[<- rr2.2.1 _ row B3];exact(zH.1 hj).1
          have Cx:i1-i<min bs.length len:=by rw[Dd]at Aj;omega
          have:=zgg Cx AN;have e5:i1*sz'=i*sz'+(i1-i)*sz':=by rw[<- Nat.add_mul];congr 1;omega
          rw[if_pos (by rw[CA];omega)];obtain⟨v,hv,hr⟩:=rr2.2.2 _ row j x B3 hj;refine⟨v,?_,hr.evo E⟩;have e6:i1*sz'+j-i*sz'=(i1-i)*sz'+j:=by omega
          rw[e6,zO,if_pos this];exact hv
         ·simp at B3
        ·rename_i Aj;have AN:j<sz':=by rw[<- h4 _ row B3];exact(zH.1 hj).1
         obtain⟨v,hv,hr⟩:=h5 i1 row j x B3 hj;rw[if_neg]
         ·exact⟨v,by simpa using hv,hr.evo E⟩
         ·rw[CA];intro hh;rw[Dd]at Aj;rcases Nat.lt_or_ge i1 i with Ad | Bv
          ·have:=Nat.mul_le_mul_right sz' (Nat.succ_le_of_lt Ad);rw[Nat.succ_mul]at this;omega
          ·have JJ:i+min bs.length len<=i1:=by omega
           have:=Nat.mul_le_mul_right sz' JJ
           rw[Nat.add_mul]at this;omega)
    have Ld:base=none->w.setRow (μ k) arr=w:=by
     intro Co
     have SF:len=0:=by
      rcases Nat.eq_zero_or_pos len with h | h
      ·exact h
      ·rw[Db h]at Co;simp at Co
     subst SF
     have:arr=cc:=by
      apply Array.ext';simp[arr]
     rw[this];exact setRow_self w _ cc e0 _ h1
    refine⟨goInt (min bs.length len:Nat),w.setRow (μ k) arr,A,μ,lam,.inl ?_,R1.put o.dst { val:=.t (.int .i64 (min bs.length len:Nat)) } _ hd hf rfl rfl rfl (RepC.t (.int _ _)).toV (by simp)⟩;rw[AP,e1];rw[e2]at F2⊢
    cases base with
    | none=>
      rw[Ld rfl];simp only[Builtin.copy_,List.getElem?_toArray,List.getElem?_cons_zero,List.getElem?_cons_succ,Sem.run_bind,zau ht,Result.andThen_ok,Builtin.lenOf,Sem.run_pure,zaO g1,g2];rw[show Nat.min bs.length len=min bs.length len from rfl,F2]
      rfl
    | some ad=>
      rcases Nat.eq_zero_or_pos len with hl | hl
      ·subst hl
       have Hg:w.setRow (μ k) arr=w:=by
        have:arr=cc:=by
         apply Array.ext';simp[arr]
        rw[this];exact setRow_self w _ cc e0 _ h1
       rw[Hg];simp only[Builtin.copy_,List.getElem?_toArray,List.getElem?_cons_zero,List.getElem?_cons_succ,Sem.run_bind,zau ht,Result.andThen_ok,Builtin.lenOf,Sem.run_pure,zaO g1,g2];rw[show Nat.min bs.length 0=min bs.length 0 from rfl,F2];simp[storeCells]
      ·have:=Db hl;cases this;simp only[Builtin.copy_,List.getElem?_toArray,List.getElem?_cons_zero,List.getElem?_cons_succ,Sem.run_bind,zau ht,Result.andThen_ok,Builtin.lenOf,Sem.run_pure,zaO g1,g2];rw[show Nat.min bs.length len=min bs.length len from rfl,F2];simp only[Result.andThen_ok];rw[AE];rfl
   ·simp at he
  ·simp at he
 ·simp at he
theorem zqI {cl:Call} (ho:o.op= .call cl) (hb:cl.callee= .builtin .clear):
 (execOp a.eval o).run P w=((Builtin.clear_ cl.argTypes o.type (cl.args.map a.eval)).run P w).andThen fun v w'=> .ok (.value v) w':=by
 simp[execOp,ho,resolve,hb,invoke,builtin]
theorem zwm (hI:I.Ok N) (R:Rel N c ns A μ lam s a w) {cl:Call} {t el:TypeId} {n:Nat} {ag:Bool} {x:Operand} {x':Opd} {z:List V}
 (hx:opd I x=some x') (ht:P.underlying t=some (.slice el)) (A6:typ P el=some (ag,n)) (Cg:0<n) (hz:zdc P el=some z) (Hr:z.length=n)
 (ho:o.op= .call cl) (hb:cl.callee= .builtin .clear) (Bj:cl.argTypes= #[t]) (Dh:cl.args= #[x])
 (hd: ∀x,o.dst=some x->x<ns) (hf:s.free o.dst e) (he:zaj N.G p s (.clear n z x')=some e):zeB P N c ns o a w (s.apply o.dst e):=by
 have AP:=zqI (P:=P) (w:=w) (a:=a) ho hb;rw[Bj,Dh]at AP;simp only[List.map_toArray,List.map_cons,List.map_nil]at AP;obtain⟨i',zv,AK,Ip,IO,Gi⟩:=zb4 hz;have Io:zv.cells.size=n:=by have:=(zbT (w:=w) (A:=A) (nm:=N.nm) (μ:=μ) (H:=s.heap) IO).1;simp at this;omega
 simp only[zaj,zC,zB]at he;obtain⟨v1,AX,he⟩:=he;have r1:=zat hI R hx AX;split at he
 ·simp only[zA]at he;subst he;obtain⟨ad1,e1⟩:=r1.t_inv.nils_inv;refine⟨.tuple #[],w,A,μ,lam,.inl ?_,R.put o.dst _ _ hd hf rfl rfl rfl ⟨#[],rfl,rfl,by simp⟩ (by simp)⟩;rw[AP,e1];cases ad1<;>simp[Builtin.clear_,zau ht]
 ·rename_i k i len;split at he
  ·rename_i sz' rs AB;split at he
   ·rename_i Fs;obtain⟨IX,_⟩:=Fs;subst IX;simp only[zB,zA]at he;obtain⟨rs',hw,rfl⟩:=he;obtain⟨cc,e0,zz,h1,h2,h3,h4,h5⟩:=R.heap k _ AB;have FM:=h2 rfl;subst FM;obtain⟨q1,q2,q3⟩:=zfn hw
    obtain⟨base,cap,e1,Db⟩: ∃base cap,a.eval x= .slice base len cap/\(0<len->base=some ⟨μ k,i*sz',none⟩):=by
     generalize a.eval x=v at r1
     cases(r1:RepC w A N.nm μ s.heap v _)with
     | ms _ _ _ cap sz2 rs2 frz2 ad Ah AK Bz ha=>
       rw[AB]at Ah;cases Ah;refine⟨ad,cap,rfl,fun hl=> ?_⟩
       exact(ha.resolve_left (by omega)).1
     | dms _ _ _ Ah=>rw[AB]at Ah;cases Ah
    have rr2:zaJ w A N.nm μ s.heap sz' (Builtin.zeroCells zv.cells len).toList (List.replicate len z):=zaJ.replicate (zbT IO) Hr len _ (by rw[Io])
    generalize AL:(Builtin.zeroCells zv.cells len).toList=cs2 at rr2
    have By:cs2.length=len*sz':=by rw[rr2.1];simp
    simp only[List.length_replicate]at q1 q3
    have AJ:i*sz'+0+cs2.length<=cc.size:=by
     rw[By,Nat.add_zero,<- Nat.add_mul];exact Nat.le_trans (Nat.mul_le_mul_right _ q1) h3
    have AE:=run_storeCells_at P (μ k) (i*sz') e0 cs2 0 cc w h1 AJ (rr2.one Cg)
    let arr:Array Value:=(cc.toList.take (i*sz'+0)++cs2++cc.toList.drop (i*sz'+0+cs2.length)).toArray
    have Br:wr cc.toList (i*sz') cs2=some arr.toList:=by
     unfold wr;rw[if_pos (by simpa using AJ)];simp[arr]
    obtain⟨j1,j2,j3⟩:=zfn Br;have Dj:arr.size=cc.size:=by simpa using j2
    have R1:=R.changeH (o':= .rows sz' rs' false) (w':=w.setRow (μ k) arr) AB ⟨rfl,q2⟩ rfl (by simp) (by simp) rfl (by simp) (fun r hr=>setRow_other w _ r _ hr)
     (shape?_setRow h1 Dj) (fun E=>by
       refine⟨arr,e0,(0,0),setRow_heap w _ cc arr e0 _ h1,fun _=>rfl,by rw[Dj,q2];exact h3,?_,?_⟩
       ·intro i1 row B3;rw[q3 i1]at B3;split at B3
        ·exact rr2.2.1 _ row B3
        ·exact h4 i1 row B3
       ·intro i1 row j x B3 hj;have Ag:arr[i1*sz'+j]? =arr.toList[i1*sz'+j]? :=by rw[Array.getElem?_toList]
        rw[Ag,j3];rw[q3 i1]at B3;split at B3
        ·rename_i Aj;have AN:j<sz':=by rw[<- rr2.2.1 _ row B3];exact(zH.1 hj).1
         have Cx:i1-i<len:=by omega
         have:=zgg Cx AN;have e5:i1*sz'=i*sz'+(i1-i)*sz':=by rw[<- Nat.add_mul];congr 1;omega
         rw[if_pos (by rw[By];omega)];obtain⟨v,hv,hr⟩:=rr2.2.2 _ row j x B3 hj;refine⟨v,?_,hr.evo E⟩;have e6:i1*sz'+j-i*sz'=(i1-i)*sz'+j:=by omega
         rw[e6];exact hv
        ·rename_i Aj;have AN:j<sz':=by rw[<- h4 _ row B3];exact(zH.1 hj).1
         obtain⟨v,hv,hr⟩:=h5 i1 row j x B3 hj;rw[if_neg]
         ·exact⟨v,by simpa using hv,hr.evo E⟩
         ·rw[By];intro hh;rcases Nat.lt_or_ge i1 i with Ad | Bv
          ·have:=Nat.mul_le_mul_right sz' (Nat.succ_le_of_lt Ad);rw[Nat.succ_mul]at this;omega
          ·have JJ:i+len<=i1:=by omega
           have:=Nat.mul_le_mul_right sz' JJ
           rw[Nat.add_mul]at this;omega)
    refine⟨.tuple #[],w.setRow (μ k) arr,A,μ,lam,.inl ?_,R1.put o.dst { val:=.tup [] } _ hd hf rfl rfl rfl ⟨#[],rfl,rfl,by simp⟩ (by simp)⟩;rw[AP,e1];rcases Nat.eq_zero_or_pos len with hl | hl
    ·subst hl;have CM:cs2=[]:=List.length_eq_zero_iff.1 (by simpa using By)
     have Hg:w.setRow (μ k) arr=w:=by
      have:arr=cc:=by
       apply Array.ext';simp[arr,CM]
      rw[this];exact setRow_self w _ cc e0 _ h1
     rw[Hg];cases base<;>simp[Builtin.clear_,zau ht]
    ·have:=Db hl;subst this;obtain⟨m,rfl⟩:=Nat.exists_eq_succ_of_ne_zero (Nat.ne_of_gt hl);simp only[Builtin.clear_,List.getElem?_toArray,List.getElem?_cons_zero,Sem.run_bind,zau ht,Result.andThen_ok,Gi,Sem.run_pure,Nat.succ_eq_add_one];rw[show(Builtin.zeroCells zv.cells (m+1)).toList=cs2 from AL];rw[AE];rfl
   ·simp at he
  ·simp at he
 ·simp at he
end
end Rg
end
