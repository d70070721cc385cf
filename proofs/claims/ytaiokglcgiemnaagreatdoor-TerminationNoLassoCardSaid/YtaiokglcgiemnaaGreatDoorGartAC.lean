/- Part of the proof of laws of relyguardlaw36. No condition. -/
import Derived.Test.YtaiokglcgiemnaaGreatDoorGartAB
import Derived.Laws.IdiomStrings
import Derived.Deep.AppendSrc
set_option linter.unusedVariables false
set_option linter.defProp false
set_option linter.unusedSimpArgs false
section
namespace Rg
open Go
def eT (P:Program) (N:Nam) (c:Ctx) (ns:Nat) (o:Oper) (a:Act) (w:World) (b:St):Prop:=
 ∃v w' A' μ' lam',((execOp a.eval o).run P w= .ok (.value v) w'\/((execOp a.eval o).run P w= .ok .skip w'/\v=undef))/\Rel N c ns A' μ' lam' b (a.put o.dst v) w'
section
variable {P:Program} {N:Nam} {I:Inv} {c:Ctx} {ns p:Nat} {A:Nat->Prop} {μ lam:Nat->Nat} {s:St} {a:Act} {w:World} {e:Eff} {o:Oper}
theorem dq.sound (R:Rel N c ns A μ lam s a w) {r:Result Value} (h:dq N A μ s w r e) (k:(execOp a.eval o).run P w=r.andThen fun v w'=> .ok (.value v) w')
 (i: ∀x,o.dst=some x->x<ns) (j:s.free o.dst e):eT P N c ns o a w (s.apply o.dst e):=by
 obtain⟨v,rfl,l,b,d,f,g⟩:=h;exact⟨v,w,A,μ,lam,.inl (by rw[k];rfl),R.put o.dst e v i j d f g l (by simp[b])⟩
theorem xp (R:Rel N c ns A μ lam s a w) (ob:Go.Obj):Evo w A μ s.heap (w.alloc ob) A μ s.heap:=by
 refine⟨fun r h=> ?_,fun _ h=>h,fun _ o h=>⟨o,h,O.le_refl o,fun _=>rfl⟩,fun r x h=>shape?_push w ob r x h⟩;have:=R.alt r h;simp only[World.alloc,pZ];simp[qp this]
theorem qj (w:World) (ob:Go.Obj):(w.alloc ob).heap[w.heap.size]? =some ob:=by
 simp only[World.alloc,pZ];simp
theorem HB (R:Rel N c ns A μ lam s a w) {d:Nat} {cells:Array Value} {cs:List V} {t:TypeId} (f:d<ns) (g:s.used d=false) (b:co w A N.nm μ s.heap cells.toList cs):
 Rel N c ns A μ (upd lam d w.heap.size) (s.apply (some d) { val:=.lb,loc:=some cs }) (a.put (some d) (.pointer (some ⟨w.heap.size,0,none⟩))) (w.alloc (.cells cells t)):=
 (R.alloc _).adoptL d f g R.orphan_new ⟨cells,t,qj w _,b.evo (xp R _)⟩
theorem wV (R:Rel N c ns A μ lam s a w) {k sz:Nat} {cells:Array Value} {rs:List (List V)} {t:TypeId} (l:s.heap k=none) (m:k<s.nxt)
 (f:rs.length*sz<=cells.size) (g: ∀(i:Nat) (row:List V),rs[i]? =some row->row.length=sz)
 (h: ∀(i:Nat) (row:List V) (j:Nat) (x:V),rs[i]? =some row->row[j]? =some x-> ∃v,cells[i*sz+j]? =some v/\RepC w A N.nm μ s.heap v x):
 Rel N c ns A (upd μ k w.heap.size) lam { s with heap:=upd s.heap k (some (.rows sz rs false)) } a (w.alloc (.cells cells t)):=
 (R.alloc _).adoptH (o:=.rows sz rs false) l m R.orphan_new ⟨cells,t,(0,0),qj w _,fun _=>rfl,f,g,fun i row j x b d=>let⟨v,hv,hr⟩:=h i row j x b d;⟨v,hv,hr.evo (xp R _)⟩⟩ af
theorem Sy {cells:Array Value} {cs:List V} (d:co w A N.nm μ s.heap cells.toList cs):
 [cs].length*cs.length<=cells.size/\(∀(i:Nat) (row:List V),[cs][i]? =some row->row.length=cs.length)/\
 ∀(i:Nat) (row:List V) (j:Nat) (x:V),[cs][i]? =some row->row[j]? =some x-> ∃v,cells[i*cs.length+j]? =some v/\RepC w A N.nm μ s.heap v x:=by
 have f:=d.1;simp only[qX]at f;refine⟨by simp[f],fun i row h=> ?_,fun i row j x b g=> ?_⟩
 ·cases i with
  | zero=>simp at h;rw[h]
  | succ i=>simp at h
 ·cases i with
  | zero=>
    simp at b;subst b;obtain⟨v,l,k⟩:=d.2 j x g
    exact⟨v,al l,k⟩
  | succ i=>simp at b
theorem Z' (R:Rel N c ns A μ lam s a w) {t:TypeId} {z:List V} {d:Nat} (m:gg P t=some z) (l:o.op= .alloc t) (b:o.dst=some d)
 (j: ∀x,o.dst=some x->x<ns) (k:s.free o.dst e) (f:ao N.G p s (.allocL z)=some e):eT P N c ns o a w (s.apply o.dst e):=by
 simp only[ao,zA]at f;subst f;obtain⟨i,v,hi,n,h,g⟩:=mq m;refine⟨_,_,A,μ,_,.inl ?_,by rw[b];exact HB R (t:=t) (j d b) (k d b).1 (lF h)⟩;simp[execOp,l,Instr.alloc,g,newVar,newRow]
theorem kaa (R:Rel N c ns A μ lam s a w) {t:TypeId} {z:List V} (u:gg P t=some z) (r:o.op= .alloc t)
 (l: ∀x,o.dst=some x->x<ns) (m:s.free o.dst e) (n:s.heap (s.bas+p)=none) (q:s.bas+p<s.nxt) (b:ao N.G p s (.allocH z)=some e):eT P N c ns o a w (s.apply o.dst e):=by
 simp only[ao,zA]at b;subst b;obtain⟨i,v,hi,y,k,d⟩:=mq u;obtain⟨g,h,j⟩:=Sy (w:=w) (A:=A) (N:=N) (μ:=μ) (s:=s) (cells:=v.cells) (lF k);have f:=wV R (t:=t) n q g h j;refine⟨.pointer (some ⟨w.heap.size,0,none⟩),_,A,_,lam,.inl ?_,f.put o.dst { val:=.mp (s.bas+p) 0 0 } _ l m rfl rfl rfl ?_ af⟩
 ·simp[execOp,r,Instr.alloc,d,newVar,newRow]
 ·have:=RepC.mp (w:=w.alloc (.cells v.cells t)) (A:=A) (nm:=N.nm) (μ:=upd μ (s.bas+p) w.heap.size) (H:=upd s.heap (s.bas+p) (some (.rows z.length [z] false))) (s.bas+p) 0 0 z.length [z] false af af;simpa using this.toV
theorem kaY (R:Rel N c ns A μ lam s a w) {t:TypeId} {z:List V} (C:gg P t=some z) (b:yJ P t=true) (j:N.tB=t) (y:o.op= .alloc t)
 (m: ∀x,o.dst=some x->x<ns) (n:s.free o.dst e) (q:s.heap (s.bas+p)=none) (u:s.bas+p<s.nxt) (d:ao N.G p s .allocB=some e):eT P N c ns o a w (s.apply o.dst e):=by
 simp only[ao,zA]at d;subst d;obtain⟨i,v,hi,B,D,g⟩:=mq C
 have h:v.cells= #[.pointer none,.slice none 0 0]:=by
  unfold yJ at b;rw[hi]at b;simp only[zD,B]at b;split at b
  ·rename_i cs f;cases f;split at b
   ·rename_i r;show cs=_;apply qa;simpa using r
   ·cases b
  ·cases b
 have l:=(R.alloc (.cells v.cells t)).adoptH (k:=s.bas+p) (o:=.raw (.bld none)) q u R.orphan_new ⟨.pointer none,by rw[<- h,j];exact qj w _,.inl rfl⟩ af;refine⟨.pointer (some ⟨w.heap.size,0,none⟩),_,A,_,lam,.inl ?_,l.put o.dst { val:=.mp (s.bas+p) 0 0 } _ m n rfl rfl rfl ?_ af⟩
 ·simp[execOp,y,Instr.alloc,g,newVar,newRow]
 ·have:=RepC.mb (w:=w.alloc (.cells v.cells t)) (A:=A) (nm:=N.nm) (μ:=upd μ (s.bas+p) w.heap.size) (H:=upd s.heap (s.bas+p) (some (.raw (.bld none)))) (s.bas+p) (.bld none) af;simpa using this.toV
theorem kbD (i:I.Ok N) (R:Rel N c ns A μ lam s a w) {t:TypeId} {x:Operand} {g:Opd} {n d:Nat} (r:opd I x=some g) (l:o.op= .box t x) (f:o.dst=some d)
 (j: ∀x,o.dst=some x->x<ns) (k:s.free o.dst e) (b:ao N.G p s (.boxL n g)=some e):eT P N c ns o a w (s.apply o.dst e):=by
 simp only[ao,zC,zB]at b;obtain⟨u,q,cs,h,b⟩:=b;split at b
 ·simp only[zA]at b;subst b;have m:=(bx i R r q).cells h;refine⟨_,_,A,μ,_,.inl ?_,by rw[f];exact HB R (t:=t) (j d f) (k d f).1 m⟩;simp[execOp,l,Instr.box,newVar,newRow]
 ·simp at b
theorem kbE (l:I.Ok N) (R:Rel N c ns A μ lam s a w) {t:TypeId} {x:Operand} {d:Opd} {n:Nat} (C:opd I x=some d) (y:o.op= .box t x)
 (m: ∀x,o.dst=some x->x<ns) (q:s.free o.dst e) (r:s.heap (s.bas+p)=none) (v:s.bas+p<s.nxt) (b:ao N.G p s (.boxH n d)=some e):eT P N c ns o a w (s.apply o.dst e):=by
 simp only[ao,zC,zB]at b;obtain⟨u,B,cs,f,b⟩:=b;split at b
 ·rename_i g;subst g;simp only[zA]at b;subst b;have z:=(bx l R C B).cells f;obtain⟨i,j,k⟩:=Sy (w:=w) (A:=A) (N:=N) (μ:=μ) (s:=s) (cells:=(a.eval x).cells) z;have h:=wV R (t:=t) r v i j k;refine⟨.pointer (some ⟨w.heap.size,0,none⟩),_,A,_,lam,.inl ?_,h.put o.dst { val:=.mp (s.bas+p) 0 0 } _ m q rfl rfl rfl ?_ af⟩
  ·simp[execOp,y,Instr.box,newVar,newRow]
  ·have:=RepC.mp (w:=w.alloc (.cells (a.eval x).cells t)) (A:=A) (nm:=N.nm) (μ:=upd μ (s.bas+p) w.heap.size) (H:=upd s.heap (s.bas+p) (some (.rows cs.length [cs] false))) (s.bas+p) 0 0 cs.length [cs] false af af;simpa using this.toV
 ·simp at b
theorem co.one {w:World} {A:Nat->Prop} {nm μ:Nat->Nat} {H:ae} {vs:List Value} {cs:List V} (h:co w A nm μ H vs cs): ∀v∈vs,v.oneCell'=true:=by
 intro v g;obtain⟨i,hi,d⟩:=pY g;have:i<cs.length:=by rw[<- h.1];exact hi
 obtain⟨u,b,f⟩:=h.2 i cs[i] (zI this);rw[zI hi,d]at b;cases b;exact f.one
theorem Z3 (X:I.Ok N) (R:Rel N c ns A μ lam s a w) {t:TypeId} {x y:Operand} {F G:Opd} {n:Nat} {ag:Bool} (hx:opd I x=some F) (hy:opd I y=some G) (J:typ P t=some (ag,n)) (Y:o.op= .store t x y)
 (h:ao N.G p s (.storeL n F G)=some e) (S:o.dst=none):eT P N c ns o a w (s.apply o.dst e):=by
 simp only[ao,zC,zB,cw]at h;obtain⟨b,f,q,cs,m,u,Z,v,M,h⟩:=h;split at h
 ·rename_i Ac;simp only[zB,zA]at h;obtain⟨cs',C,rfl⟩:=h;obtain⟨_,g,l,i,B⟩:=R.loc b cs m;have j:=(bx X R hy Z).cells M;obtain⟨inf,V,W,g3,g4⟩:=fE J;obtain⟨k1,k2,k3⟩:=jW C;have AL:g.size=cs.length:=by have:=B.1;simpa using this
  have T:(a.eval y).cells.toList.length=v.length:=j.1;have z:f+0+(a.eval y).cells.toList.length<=g.size:=aa
  have K:=run_storeCells_at P (lam b) f l (a.eval y).cells.toList 0 g w i z j.one
  let d:Array Value:=(g.toList.take (f+0)++(a.eval y).cells.toList++g.toList.drop (f+0+(a.eval y).cells.toList.length)).toArray
  have Q:wr g.toList f (a.eval y).cells.toList=some d.toList:=by
   unfold wr;rw[ah (al z)];simp[d]
  obtain⟨j1,D,j3⟩:=jW Q
  have U:=R.changeL (cs':=cs') (w':=w.setRow (lam b) d) m af (fun r q=>setRow_other w _ r _ q) (shape?_setRow i (al D))
   (fun E=>⟨d,l,setRow_heap w _ g d l _ i,(B.splice j C d.toList (al D) (fun k _=>j3 k)).evo E⟩)
  refine⟨undef,w.setRow (lam b) d,A,μ,lam,.inr ⟨?_,rfl⟩,?_⟩
  ·have L:(a.eval y).cells.size=n:=by simp at T;omega
   simp only[execOp,Y,Instr.storeAt,Sem.run_bind,tN R hx q m,Instr.sureAddr,Sem.run_pure,Result.andThen_ok,storeVar,dw V,W,L,ne_eq,not_true_eq_false,aX];rw[K];rfl
  ·rw[S];exact U
 ·simp at h
theorem sp {α:Type} {l:List α} {i j:Nat} {x y:α} (h:(l.set i x)[j]? =some y):(j=i/\y=x)\/(j≠i/\l[j]? =some y):=by
 rw[cx]at h
 by_cases e:i=j
 ·subst e;left
  by_cases b:i<l.length
  ·simp[b]at h;exact⟨rfl,h.symm⟩
  ·simp[b]at h
 ·simp[e]at h;exact .inr ⟨fun e'=>e e'.symm,h⟩
theorem kb3 (U:I.Ok N) (R:Rel N c ns A μ lam s a w) {t:TypeId} {x y:Operand} {W X:Opd} {n:Nat} {ag:Bool} (hx:opd I x=some W) (hy:opd I y=some X) (Y:typ P t=some (ag,n)) (ho:o.op= .store t x y)
 (f:ao N.G p s (.store n W X)=some e) (Bt:o.dst=none):eT P N c ns o a w (s.apply o.dst e):=by
 simp only[ao,zC,zB]at f;obtain⟨u,hu,f⟩:=f;have Ae:=bx U R hx hu;split at f
 ·rename_i k i d;split at f
  ·rename_i sz rs L;simp only[zB]at f;obtain⟨row,S,v,hv,M,B2,f⟩:=f;split at f
   ·rename_i Ac;simp only[zB,zA]at f;obtain⟨row',hw,rfl⟩:=f;obtain⟨Ji,hi⟩:=Ae.mp_inv L;obtain⟨l,G,z,J,h2,h3,K,T⟩:=R.heap k _ L;have hz:=h2 rfl;subst hz;have F:=(bx U R hy hv).cells B2;obtain⟨inf,g1,g2,g3,g4⟩:=fE Y;obtain⟨k1,k2,k3⟩:=jW hw;have Bb:=K i row S;have Hx:(a.eval y).cells.toList.length=M.length:=F.1
    have hrow_le:i*sz+sz<=l.size:=by
     have:(i+1)*sz<=rs.length*sz:=dT _ hi;rw[lD]at this;omega
    have Q:(i*sz+d)+0+(a.eval y).cells.toList.length<=l.size:=aa
    have Z:=run_storeCells_at P (μ k) (i*sz+d) G (a.eval y).cells.toList 0 l w J Q F.one
    let b:Array Value:=(l.toList.take (i*sz+d+0)++(a.eval y).cells.toList++l.toList.drop (i*sz+d+0+(a.eval y).cells.toList.length)).toArray
    have Br:wr l.toList (i*sz+d) (a.eval y).cells.toList=some b.toList:=by
     unfold wr;rw[ah (al Q)];simp[b]
    obtain⟨j1,V,j3⟩:=jW Br
    have R1:=R.changeH (o':= .rows sz (rs.set i row') false) (w':=w.setRow (μ k) b) L ⟨rfl,af⟩ rfl af af rfl af (fun r hr=>setRow_other w _ r _ hr)
     (shape?_setRow J (al V)) (fun E=>by
       refine⟨b,G,(0,0),setRow_heap w _ l b G _ J,fun _=>rfl,?_,?_,?_⟩
       ·have:b.size=l.size:=al V
        simp;omega
       ·intro g row1 h;rcases sp h with⟨rfl,rfl⟩ | ⟨_,h⟩
        ·omega
        ·exact K g row1 h
       ·intro g row1 j x h m;have Ag: ∀q,b[q]? =b.toList[q]? :=fun q=>by rw[eu]
        rw[Ag,j3];rcases sp h with⟨rfl,rfl⟩ | ⟨Kr,h⟩
        ·have AN:j<sz:=by have:=(zH.1 m).1;omega
         rw[k3 j]at m;split at m
         ·rename_i Aj;rw[ah aa];obtain⟨q,C,B⟩:=F.2 _ x m;refine⟨q,?_,B.evo E⟩;have:g*sz+j-(g*sz+d)=j-d:=aa
          rw[this];exact C
         ·rename_i Aj;rw[ac aa];obtain⟨q,C,B⟩:=T g row j x S m;exact⟨q,al C,B.evo E⟩
        ·have AN:j<sz:=by have:=(zH.1 m).1;have:=K g row1 h;omega
         have Az: ¬(i*sz+d<=g*sz+j/\g*sz+j<i*sz+d+(a.eval y).cells.toList.length):=by
          intro hh;rcases Nat.lt_or_gt_of_ne Kr with D | D
          ·have:(g+1)*sz<=i*sz:=dT _ D;rw[lD]at this;omega
          ·have:(i+1)*sz<=g*sz:=dT _ D;rw[lD]at this;omega
         rw[ac Az];obtain⟨q,C,B⟩:=T g row1 j x h m
         exact⟨q,al C,B.evo E⟩)
    refine⟨undef,w.setRow (μ k) b,A,μ,lam,.inr ⟨?_,rfl⟩,?_⟩
    ·have AS:(a.eval y).cells.size=n:=by simp at Hx;omega
     simp only[execOp,ho,Instr.storeAt,Sem.run_bind,Ji,Instr.sureAddr,Sem.run_pure,Result.andThen_ok,storeVar,dw g1,g2,AS,ne_eq,not_true_eq_false,aX];rw[Z];rfl
    ·rw[Bt];exact R1
   ·simp at f
  ·simp at f
 ·simp at f
end
section
variable {N:Nam} {c:Ctx} {ns:Nat} {A:Nat->Prop} {μ lam:Nat->Nat} {s:St} {a:Act} {w:World}
theorem Rel.growA (R:Rel N c ns A μ lam s a w) (B:Nat->Prop) (y: ∀r,B r-> ∀t,(s.loc t).isSome=true->lam t≠r) (u: ∀r,B r-> ∀k o,s.heap k=some o->o.live=true->μ k≠r)
 (D: ∀r,B r->c.X r\/c.w0.heap.size<=r) (i: ∀r,B r->r<w.heap.size) (m:d7 c (fun r=>A r\/B r) w a.defers):Rel N c ns (fun r=>A r\/B r) μ lam s a w:=by
 have E:Evo w A μ s.heap w (fun r=>A r\/B r) μ s.heap:=⟨fun _ _=>rfl,fun _ h=> .inl h,fun _ o h=>⟨o,h,O.le_refl o,fun _=>rfl⟩,fun _ _ h=>h⟩
 refine{ R with defers:=m,env:=fun t=>(R.env t).evo E,loc:= ?_,heap:= ?_,aH:= ?_,aL:= ?_,alt:= ?_,afz:=fun k sz rs h=> .inl (R.afz k sz rs h),glob:= ?_,csub:= ?_,canew:= ?_ }
 ·intro t cs h;obtain⟨b,f⟩:=R.loc t cs h;exact⟨b,f.evo E rfl⟩
 ·intro k o h;exact(R.heap k o h).evo E rfl
 ·rintro r (h | h) d
  ·exact R.aH r h d
  ·obtain⟨k,o,b,f,n,q⟩:=d;exact u r h k o b n q
 ·rintro r (h | h) d
  ·exact R.aL r h d
  ·obtain⟨t,b,f⟩:=d;exact y r h t b f
 ·rintro r (h | h)
  ·exact R.alt r h
  ·exact i r h
 ·intro g j x h;obtain⟨b,l,v,C,z⟩:=R.glob g j x h;exact⟨.inl b,l,v,C,z.mono E.blk E.sub⟩
 ·intro r h;exact .inl (R.csub r h)
 ·rintro r (h | h)
  ·exact R.canew r h
  ·exact .inr (D r h)
end
def cm (w:World) (A:Nat->Prop) (nm μ:Nat->Nat) (H:ae) (sz:Nat) (cs:List Value) (rs:List (List V)):Prop:=
 cs.length=rs.length*sz/\(∀(i:Nat) (row:List V),rs[i]? =some row->row.length=sz)/\
  ∀(i:Nat) (row:List V) (j:Nat) (x:V),rs[i]? =some row->row[j]? =some x-> ∃v,cs[i*sz+j]? =some v/\RepC w A nm μ H v x
section
variable {w w' : World} {A A' : Nat->Prop} {nm μ μ' : Nat->Nat} {H H' : Nat->Option O} {sz:Nat}
theorem cm.evo {cs:List Value} {rs:List (List V)} (h:cm w A nm μ H sz cs rs) (E:Evo w A μ H w' A' μ' H'):cm w' A' nm μ' H' sz cs rs:=
 ⟨h.1,h.2.1,fun i row j x b d=>let⟨v,hv,hr⟩:=h.2.2 i row j x b d;⟨v,hv,hr.evo E⟩⟩
theorem lj {i j n sz:Nat} (hi:i<n) (b:j<sz):i*sz+j<n*sz:=by
 have:(i+1)*sz<=n*sz:=dT _ hi;rw[lD]at this;omega
theorem cm.append {cs f:List Value} {rs k:List (List V)} (h:cm w A nm μ H sz cs rs) (h':cm w A nm μ H sz f k):cm w A nm μ H sz (cs++f) (rs++k):=by
 refine⟨by simp[h.1,h'.1,fA],fun i row hi=> ?_,fun i row j x hi g=> ?_⟩
 ·rw[mK]at hi;split at hi
  ·exact h.2.1 i row hi
  ·exact h'.2.1 _ row hi
 ·rw[mK]at hi;split at hi
  ·rename_i l;obtain⟨v,b,d⟩:=h.2.2 i row j x hi g;refine⟨v,?_,d⟩;rw[bU (zH.1 b).1];exact b
  ·rename_i m;obtain⟨v,b,d⟩:=h'.2.2 _ row j x hi g;refine⟨v,?_,d⟩;have e:i*sz=rs.length*sz+(i-rs.length)*sz:=by rw[<- fA];congr 1;omega
   rw[eJ (by rw[h.1];omega)];have:i*sz+j-cs.length=(i-rs.length)*sz+j:=by rw[h.1];omega
   rw[this];exact b
theorem cm.take {cs:List Value} {rs:List (List V)} (h:cm w A nm μ H sz cs rs) (m:Nat) (d:m<=rs.length):cm w A nm μ H sz (cs.take (m*sz)) (rs.take m):=by
 have f:m*sz<=rs.length*sz:=dT _ d;refine⟨by simp[h.1,jb d,jb f],fun i row hi=> ?_,fun i row j x hi b=> ?_⟩
 ·rw[zO]at hi;split at hi
  ·exact h.2.1 i row hi
  ·simp at hi
 ·rw[zO]at hi;split at hi
  ·rename_i k;obtain⟨v,n,l⟩:=h.2.2 i row j x hi b;have g:j<sz:=by rw[<- h.2.1 i row hi];exact(zH.1 b).1
   refine⟨v,?_,l⟩;rw[zO,ah (lj k g)];exact n
  ·simp at hi
theorem cm.nil:cm w A nm μ H sz [] []:=⟨af,af,af⟩
theorem cm.one {cs:List Value} {rs:List (List V)} (h:cm w A nm μ H sz cs rs) (f:0<sz): ∀v∈cs,v.oneCell'=true:=by
 intro v m;obtain⟨q,b,j⟩:=pY m;have g:q<rs.length*sz:=by rw[<- h.1];exact b
 have hi:q/ sz<rs.length:=Ib (by rw[o7];exact g);have i:=h.2.1 (q/ sz) _ (zI hi);have k:q % sz<(rs[q/ sz]).length:=by rw[i];exact Nat.mod_lt _ f
 obtain⟨u,d,l⟩:=h.2.2 (q/ sz) _ (q % sz) _ (zI hi) (zI k);have e:q/ sz*sz+q % sz=q:=by rw[o7];exact Nat.div_add_mod q sz
 rw[e,zI b,j]at d;cases d;exact l.one
end
section
variable {P:Program} {N:Nam} {I:Inv} {c:Ctx} {ns p:Nat} {A:Nat->Prop} {μ lam:Nat->Nat} {s:St} {a:Act} {w:World} {e:Eff} {o:Oper}
theorem Jk (R:Rel N c ns A μ lam s a w) {v:Value} {x:V} {rs:List (List V)} {sz:Nat} (Lb: ∀es,x≠ .t (.slc es)) (T:aO w A N.nm μ s.heap v x) (g:gJ s x=some rs) (Aa:rs.all (·.length=sz)=true):
 ∃d cap cs,v= .slice d rs.length cap/\rs.length<=cap/\cm w A N.nm μ s.heap sz cs rs/\
  (∀w':World,(∀d,w'.cell? d=w.cell? d)-> ∀m,m<=rs.length->(Builtin.firstCells sz m v).run P w'= .ok (cs.take (m*sz)).toArray w'):=by
 have G: ∀(i:Nat) (row:List V),rs[i]? =some row->row.length=sz:=by
  intro i row hi;have:=zN.1 Aa row (zL hi);simpa using this
 have X: ∀d cap,rs=[]->v= .slice d 0 cap-> ∃d cap cs,v= .slice d rs.length cap/\rs.length<=cap/\cm w A N.nm μ s.heap sz cs rs/\
  (∀w':World,(∀d,w'.cell? d=w.cell? d)-> ∀m,m<=rs.length->(Builtin.firstCells sz m v).run P w'= .ok (cs.take (m*sz)).toArray w'):=by
  rintro d cap rfl rfl;refine⟨d,cap,[],rfl,af,cm.nil,fun w' _ m t=> ?_⟩;have:m=0:=al t
  subst this
  cases d with
  | none=>simp[Builtin.firstCells]
  | some d=>simp[Builtin.firstCells,loadCells,loadCellsFrom]
 unfold gJ at g;split at g
 ·simp only[zA]at g;subst g;obtain⟨d,rfl⟩:=T.t_inv.nils_inv;exact X d 0 rfl rfl
 ·rename_i es;simp only[zA]at g;subst g;rcases T.t_inv.sl_inv with⟨rfl,d,cap,rfl⟩ | ⟨r,l,cap,b,Q,rfl,h0,hc,hA,hs,Bs,hr⟩
  ·exact X d cap rfl rfl
  ·have S:b=sz:=by
    have L:=hs 0 es[0] (zI h0);have M:=G 0 (es[0].map V.t) (by simp[zJ,zI h0]);simp at M;omega
   subst S;refine⟨some ⟨r,l,none⟩,cap,(List.range (es.length*b)).map (fun q=>Q (q/ b) (q % b)),af,al hc,⟨af,G,?_⟩,?_⟩
   ·intro i row j x hi n;simp only[zJ,zE]at hi;obtain⟨Z,W,rfl⟩:=hi;simp only[zJ,zE]at n;obtain⟨y,hy,rfl⟩:=n;have F:i<es.length:=(zH.1 W).1;have C:j<b:=by rw[<- hs i Z W];exact(zH.1 hy).1
    have f:=lj F C;refine⟨Q i j,?_,.t (hr i Z j y W hy)⟩;rw[zJ,jt f];have L:(i*b+j)/ b=i:=by rw[o7,Nat.mul_add_div aa];simp[Nat.div_eq_of_lt C]
    have M:(i*b+j) % b=j:=by rw[o7,Nat.mul_add_mod];exact sT C
    simp[L,M]
   ·intro w' U m t;simp only[cP]at t;have A5:m*b<=es.length*b:=dT _ t;have hl:(((List.range (es.length*b)).map (fun q=>Q (q/ b) (q % b))).take (m*b)).length=m*b:=by rw[bJ,cP,p9];omega
    have:=run_loadCells_list (P:=P) (w:=w') ⟨r,l,none⟩ (((List.range (es.length*b)).map (fun q=>Q (q/ b) (q % b))).take (m*b)) (fun q v f=>by
     rw[zO]at f;split at f
     ·rename_i Ed;have K:q<es.length*b:=aa
      rw[zJ,jt K]at f;simp only[cZ,zA]at f;subst f
      have Na:0<b:=by
       rcases nh b with h | h
       ·rw[h]at K;simp at K
       ·exact h
      have hi:q/ b<es.length:=Ib (by rw[o7];exact K);have Ap:=hs (q/ b) _ (zI hi);have n:q % b<(es[q/ b]).length:=by rw[Ap];exact Nat.mod_lt _ Na
      have:=Bs (q/ b) _ (q % b) _ (zI hi) (zI n);rw[jB,U];have e:l+q/ b*b+q % b=l+q:=by rw[nr,o7,Nat.div_add_mod]
      rw[e]at this;exact this
     ·simp at f)
    rw[hl]at this;simp[Builtin.firstCells,this]
 ·rename_i es;exact absurd rfl (Lb es)
 ·rename_i k i len;split at g
  ·rename_i b u frz hk;unfold rd at g;split at g
   ·rename_i A5;simp only[zA]at g;subst g;have J:((u.drop i).take len).length=len:=by simp;omega
    cases(T:RepC w A N.nm μ s.heap v _)with
    | ms _ _ _ cap sz2 rs2 frz2 d D AK hc ha=>
      rw[hk]at D;cases D;rcases nh len with Y | Y
      ·subst Y;exact X d cap af rfl
      ·obtain⟨rfl,_⟩:=ha.resolve_left aa;obtain⟨E,Z,z,L,M,h3,h4,h5⟩:=R.heap k _ hk
       have S:b=sz:=by
        have F:i<u.length:=aa
        have h6:=h4 i _ (zI F);have h7:=G 0 u[i] (by rw[zO,ah Y,fx];simp[zI F]);omega
       subst S;have JW:(i+len)*b<=E.size:=cU (dT _ A5) h3
       have LJ:((E.toList.drop (i*b)).take (len*b)).length=len*b:=by
        rw[fA]at JW;simp;omega
       refine⟨_,cap,(E.toList.drop (i*b)).take (len*b),by rw[J],by rw[J];omega,⟨by rw[LJ,J],G,?_⟩,?_⟩
       ·intro i1 row j x B n;rw[zO]at B;split at B
        ·rename_i Ad;rw[fx]at B;have C:j<b:=by rw[<- h4 _ row B];exact(zH.1 n).1
         obtain⟨v,hv,hr⟩:=h5 _ row j x B n;refine⟨v,?_,hr⟩;rw[zO,ah (lj Ad C),fx,eu];rw[fA]at hv;rw[<- nr];exact hv
        ·simp at B
       ·intro w' U m t;rw[J]at t;have HV:m*b<=len*b:=dT _ t;have hl:(((E.toList.drop (i*b)).take (len*b)).take (m*b)).length=m*b:=by rw[bJ,LJ];omega
        have:=run_loadCells_list (P:=P) (w:=w') ⟨μ k,i*b,none⟩ (((E.toList.drop (i*b)).take (len*b)).take (m*b)) (fun q v f=>by
         rw[zO]at f;split at f
         ·rw[zO]at f;split at f
          ·rw[fx,eu]at f;rw[jB,U];simp[World.cell?,L,f]
          ·simp at f
         ·simp at f)
        rw[hl]at this
        simp[Builtin.firstCells,this]
    | dms _ _ _ D=>rw[hk]at D;cases D
   ·simp at g
  ·simp at g
 ·simp at g
theorem tz (R:Rel N c ns A μ lam s a w) {v:Value} {x:V} {rs:List (List V)} {sz:Nat} (i:aO w A N.nm μ s.heap v x) (f:gJ s x=some rs) (g:rs.all (·.length=sz)=true):
 ∃b cap cs,v= .slice b rs.length cap/\rs.length<=cap/\cm w A N.nm μ s.heap sz cs rs/\
  (∀w':World,(∀b,w'.cell? b=w.cell? b)-> ∀m,m<=rs.length->(Builtin.firstCells sz m v).run P w'= .ok (cs.take (m*sz)).toArray w'):=by
 by_cases h: ∃es,x= .t (.slc es)
 ·obtain⟨es,rfl⟩:=h
  have k:aO w A N.nm μ s.heap v (.t (.sl es)):=by
   have l:=i.t_inv
   cases l with
   | slc a _ n=>exact(RepC.t n).toV
  exact Jk R (fun j d=>by cases d) k f g
 ·exact Jk R (fun es d=>h ⟨es,d⟩) i f g
theorem KP: ∀{rs:List (List V)} {l:List UInt8},bytesOf rs=some l->l.length=rs.length/\ ∀(i:Nat) (b:UInt8),l[i]? =some b->rs[i]? =some [.t (.int .u8 b.toNat)]
 | [],l,h=>by simp only[bytesOf,zA]at h;subst h;simp
 | r::rs,l,h=>by
   unfold bytesOf at h;split at h
   ·rename_i d;cases d
   ·rename_i z m d;cases d;split at h
    ·rename_i k;simp only[zE]at h;obtain⟨l',f,rfl⟩:=h;obtain⟨g,j⟩:=KP f;refine⟨by simp[g],fun i b hi=> ?_⟩
     cases i with
     | zero=>
       simp only[dv,zA]at hi;subst hi
       have:((UInt8.ofNat z.toNat).toNat:Int)=z:=by
        rw[p5,sT aa];omega
       rw[this];rfl
     | succ i=>simpa using j i b (al hi)
    ·cases h
   ·cases h
theorem kbC (Q:I.Ok N) (R:Rel N c ns A μ lam s a w) {f d t:TypeId} {x:Operand} {E:Opd} (V:opd I x=some E) (D:ao N.G p s (.bstr E)=some e)
 (y:P.underlying f=some (.slice t)) (z:P.underlying d=some .string) (B:P.underlying t=some (.int .u8)):dq N A μ s w ((convert f d (a.eval x)).run P w) e:=by
 simp only[ao,zC,zB,zA]at D;obtain⟨u,U,rs,F,l,S,rfl⟩:=D;obtain⟨M,b2⟩:=KP S
 have K:rs.all (·.length=1)=true:=by
  rw[zN];intro row L;obtain⟨i,hi,rfl⟩:=pY L;have J:i<l.length:=aa
  have:=b2 i l[i] (zI J);rw[zI hi,zA]at this;rw[this];rfl
 obtain⟨j,cap,cs,m,W,h,q⟩:=tz (P:=P) R (bx Q R V U) F K
 have G:cs=(l.map fun b=>(b.toNat:Int)).map (Value.int .u8):=by
  apply p_;intro i
  by_cases hi:i<l.length
  ·obtain⟨v,n,T⟩:=h.2.2 i _ 0 _ (b2 i l[i] (zI hi)) rfl;rw[jF,gV]at n;cases T.toV.int_inv;rw[n];simp[hi]
  ·rw[gq (by have:=h.1;omega),gq (by simp;omega)]
 refine⟨.string ⟨l.toArray⟩,?_,(RepC.t (.str _)).toV,rfl,rfl,rfl,rfl⟩;rw[m]
 cases j with
 | none=>
   have g:=q w (fun _=>rfl) rs.length (ay _);rw[m]at g;simp only[Builtin.firstCells,Sem.run_pure]at g
   have:l=[]:=by
    have k:=bz (fun r=>match r with | Result.ok (x:Array Value) _=>x.size | _=>0) g;simp only[jF,List.size_toArray,bJ]at k;have C:=h.1;simp only[jF]at C;rw[C,Nat.min_self]at k;exact fu (by rw[M];exact k.symm)
   subst this;rw[run_convert_bytes_string w f d t none rs.length cap y B z];simp only[Conv.bytesToString,Sem.run_pure]
   congr 1
 | some j=>
   have g:=q w (fun _=>rfl) rs.length (ay _);rw[m]at g;simp only[Builtin.firstCells]at g;rw[run_convert_bytes_string w f d t (some j) rs.length cap y B z,run_bytesToString w j rs.length cap (l.map fun b=>(b.toNat:Int)),foldl_push_byteCells]
   ·simp
   ·rw[<- G];have e:cs.take (rs.length*1)=cs:=by rw[c6];rw[h.1];exact ay _
    rw[e,jF]at g;exact g
end
section
variable {w:World} {A:Nat->Prop} {nm μ:Nat->Nat} {H:Nat->Option O} {sz:Nat}
theorem cm.set {cs l cs':List Value} {rs:List (List V)} {f:List V} {i:Nat} (h:cm w A nm μ H sz cs rs) (y:co w A nm μ H l f) (r:f.length=sz) (hi:i<rs.length)
 (C:cs'.length=cs.length) (u: ∀k,k<cs.length->cs'[k]? =if i*sz<=k/\k<i*sz+l.length then l[k-i*sz]? else cs[k]?):cm w A nm μ H sz cs' (rs.set i f):=by
 refine⟨by simp[C,h.1],fun d row b=> ?_,fun d row j x b g=> ?_⟩
 ·rcases sp b with⟨rfl,rfl⟩ | ⟨_,b⟩
  ·exact r
  ·exact h.2.1 d row b
 ·have D:l.length=sz:=by rw[y.1,r]
  rcases sp b with⟨rfl,rfl⟩ | ⟨B,b⟩
  ·have m:j<sz:=by rw[<- r];exact(zH.1 g).1
   obtain⟨v,t,q⟩:=y.2 j x g;refine⟨v,?_,q⟩;rw[u _ (by rw[h.1];exact lj hi m),ah aa];have:d*sz+j-d*sz=j:=aa
   rw[this];exact t
  ·have m:j<sz:=by rw[<- h.2.1 d row b];exact(zH.1 g).1
   have z:d<rs.length:=(zH.1 b).1;obtain⟨v,t,q⟩:=h.2.2 d row j x b g;refine⟨v,?_,q⟩;rw[u _ (by rw[h.1];exact lj z m),ac]
   ·exact t
   ·intro E;rcases Nat.lt_or_gt_of_ne B with n | n
    ·have:=dT sz (rH n);rw[lD]at this;omega
    ·have:=dT sz (rH n);rw[lD]at this;omega
theorem cm.replicate {d:Array Value} {z:List V} (h:co w A nm μ H d.toList z) (m:z.length=sz) (len n:Nat) (y:n=len*sz):
 cm w A nm μ H sz ((Array.range n).map (d[· % d.size]!)).toList (List.replicate len z):=by
 subst y;have q:d.size=sz:=by have:=h.1;simp at this;omega
 refine⟨af,fun i row b=> ?_,fun i row j x b l=> ?_⟩
 ·rw[nk]at b;split at b
  ·simp at b;rw[<- b,m]
  ·simp at b
 ·rw[nk]at b;split at b
  ·rename_i r;simp only[zA]at b;subst b;have g:j<sz:=by rw[<- m];exact(zH.1 l).1
   obtain⟨v,f,t⟩:=h.2 j x l;refine⟨v,?_,t⟩;have B:=lj r g;have u:(i*sz+j) % sz=j:=by rw[o7,Nat.mul_add_mod];exact sT g
   simp only[eu]at f;have k:j<d.size:=aa
   simp only[Array.toList_map,Array.toList_range,zJ,jt B,cZ,q,u];rw[iA k]at f;simp only[zA]at f;simp[k,f]
  ·simp at b
end
section
variable {P:Program} {N:Nam} {I:Inv} {c:Ctx} {ns p:Nat} {A:Nat->Prop} {μ lam:Nat->Nat} {s:St} {a:Act} {w:World} {e:Eff} {o:Oper}
theorem Jl (B:I.Ok N) (R:Rel N c ns A μ lam s a w) (sz:Nat): ∀(parts:List (Nat×Operand)) (f:List (Nat×Opd)) (cells:Array Value) (rs b:List (List V)),
 (parts.length=f.length/\ ∀(i:Nat) (q:Nat×Opd),f[i]? =some q-> ∃x,parts[i]? =some x/\x.1=q.1/\opd I x.2=some q.2)->
 cm w A N.nm μ s.heap sz cells.toList rs->jx N.G rs sz s f=some b->
 ∃cells',Instr.fill (fun i=>some (i*sz,sz)) cells (parts.map fun x=>(x.1,a.eval x.2))=some cells'/\cm w A N.nm μ s.heap sz cells'.toList b/\b.length=rs.length
 | [],f,cells,rs,b,Cd,Ae,d=>by
   obtain⟨m,_⟩:=Cd;have:f=[]:=lx.1 (al m.symm);subst this;simp only[jx,zA]at d;subst d
   exact⟨cells,rfl,Ae,rfl⟩
 | (i,x)::parts,[],cells,rs,b,Cd,Ae,d=>by simp at Cd
 | (i,x)::parts,(i',y)::f,cells,rs,b,Cd,Ae,d=>by
   obtain⟨m,D⟩:=Cd;obtain⟨Z,u,t,r⟩:=D 0 _ rfl;simp only[dv,zA]at u;subst u;simp only at t r;subst t;simp only[jx,zC,zB]at d;obtain⟨v,W,g,G,d⟩:=d;split at d
   ·rename_i l;obtain⟨l,n⟩:=l;have E:=(bx B R r W).cells G;have F:(a.eval x).cells.size=sz:=by have:=E.1;simp at this;omega
    have J:cells.size=rs.length*sz:=by have:=Ae.1;simpa using this
    obtain⟨M,Q⟩:=xz (i*sz) (a.eval x).cells.toList 0 cells
    have L:cm w A N.nm μ s.heap sz (((a.eval x).cells.toList.zipIdx 0).foldl (fun cs (x:Value×Nat)=>match x with | (c,j)=>cs.setIfInBounds (i*sz+j) c) cells).toList (rs.set i g):=by
     refine Ae.set E l n (al M) (fun k C=> ?_);simp only[eu];rw[Q k];simp only[gV,qX]at C⊢
     by_cases h:i*sz<=k/\k<i*sz+(a.eval x).cells.size
     ·rw[ah ⟨h.1,h.2,C⟩,ah h];simp
     ·rw[ac aa,ac h]
    obtain⟨cells',S,T,U⟩:=Jl B R sz parts f _ (rs.set i g) b ⟨al m,fun i q hi=>by
     obtain⟨z,X,K⟩:=D (i+1) q (al hi)
     exact⟨z,al X,K⟩⟩ L d
    refine⟨cells',?_,T,al U⟩
    have Y:i*sz+sz<=cells.size:=by
     rw[J];have:=dT sz (rH n);rw[lD]at this;exact this
    simp only[aT,Instr.fill,F];rw[<- S];have:(decide (sz≠sz)||decide (i*sz+sz>cells.size))=false:=by simp;omega
    simp only[this,zG,aX]
    congr 1
    rw[<- we];simp
   ·simp at d
theorem vt (R:Rel N c ns A μ lam s a w) {k sz cap:Nat} {cells:Array Value} {cs:List Value} {rs:List (List V)} {t:TypeId} {d:Option Nat} (y:s.heap k=none) (z:k<s.nxt)
 (b:cm w A N.nm μ s.heap sz cs rs) (g: ∀(q:Nat) (v:Value),cs[q]? =some v->cells[q]? =some v) (f:cap*sz<=cells.size) (h:rs.length<=cap)
 (r: ∀x,d=some x->x<ns) (u:s.free d {}):
 Rel N c ns A (upd μ k w.heap.size) lam (s.apply d { val:=.ms k 0 rs.length,hp:=[(k,.rows sz rs false)] }) (a.put d (.slice (some ⟨w.heap.size,0,none⟩) rs.length cap)) (w.alloc (.cells cells t)):=by
 have l:=wV R (t:=t) (cells:=cells) y z (cU (dT _ h) f) b.2.1 (fun i row j x m n=>by
  obtain⟨v,C,B⟩:=b.2.2 i row j x m n
  exact⟨v,g _ v C,B⟩)
 refine l.put d { val:=.ms k 0 rs.length } _ r u rfl rfl rfl ?_ af
 have:=RepC.ms (w:=w.alloc (.cells cells t)) (A:=A) (nm:=N.nm) (μ:=upd μ k w.heap.size) (H:=upd s.heap k (some (.rows sz rs false))) k 0 rs.length cap sz rs false (some ⟨w.heap.size,0,none⟩) af af aa
  (.inr ⟨af,t,cells.size,by rw[cV];unfold World.shape?;rw[qj],al f⟩)
 exact this.toV
theorem Z9 (U:I.Ok N) (R:Rel N c ns A μ lam s a w) {t k:TypeId} {n len:Nat} {ag:Bool} {z:List V} {parts:Array (Nat×Operand)} {l:List (Nat×Opd)}
 (J:P.underlying t=some (.slice k)) (K:typ P k=some (ag,n)) (hz:gg P k=some z) (m:z.length=n) (Ac:len*n<=2^24)
 (S:parts.toList.length=l.length/\ ∀(i:Nat) (q:Nat×Opd),l[i]? =some q-> ∃x,parts.toList[i]? =some x/\x.1=q.1/\opd I x.2=some q.2) (G:o.op= .buildSlice t len parts)
 (X: ∀x,o.dst=some x->x<ns) (Y:s.free o.dst e) (hk:s.heap (s.bas+p)=none) (hn:s.bas+p<s.nxt) (F:ao N.G p s (.bslice n len z l)=some e):eT P N c ns o a w (s.apply o.dst e):=by
 simp only[ao,zC,zB,zA]at F;obtain⟨rs,L,rfl⟩:=F;obtain⟨i,v,hi,hv,W,M⟩:=mq hz;obtain⟨inf,y,B,g3,g4⟩:=fE K;have r:(parts.map fun(i,x)=>(i,a.eval x)).toList=parts.toList.map fun x=>(x.1,a.eval x.2):=af
 have u: ¬(len*n>2^24):=aa
 obtain⟨zero,g,T⟩: ∃zero:Array Value,zero=(if len*n=0 then #[]else v.cells)/\
  cm w A N.nm μ s.heap n ((Array.range (len*n)).map (zero[· % zero.size]!)).toList (List.replicate len z):=by
  by_cases f:len*n=0
  ·refine⟨#[],by rw[ah f],?_⟩;rcases vK.1 f with h | h
   ·subst h;simp;exact cm.nil
   ·subst h;refine⟨af,fun i row b=> ?_,fun i row j x b Z=> ?_⟩
    ·rw[nk]at b;split at b
     ·simp at b;rw[<- b,m]
     ·simp at b
    ·rw[nk]at b;split at b
     ·simp at b;subst b;have:=lx.1 m;subst this;simp at Z
     ·simp at b
  ·exact⟨v.cells,by rw[ac f],cm.replicate (lF W) m len _ rfl⟩
 obtain⟨cells',C,D,E⟩:=Jl U R n parts.toList l _ _ rs S T L;simp only[iB]at E;subst E;have Q:cells'.size=rs.length*n:=by have:=D.1;simpa using this
 refine⟨_,_,A,_,lam,.inl ?_,vt R (t:=k) (cap:=rs.length) (d:=o.dst) (cells:=cells') hk hn D af (by rw[Q];exact ay _) (ay _) X Y⟩
 by_cases f:rs.length*n=0
 ·rw[ah f]at g;subst g;simp only[execOp,G,Instr.buildSlice,Sem.run_bind,bi J,Result.andThen_ok,dw y,B,u,aX,r,newRow,Sem.run_pure];rw[ah f];simp only[Sem.run_pure,Result.andThen_ok,C,Sem.run_bind,run_newObj];rfl
 ·rw[ac f]at g;subst g;simp only[execOp,G,Instr.buildSlice,Sem.run_bind,bi J,Result.andThen_ok,dw y,B,u,aX,f,M,r,C,newRow,run_newObj,Sem.run_pure];rfl
theorem wH {m:Int} (b:0<=m) (d:m<=2^32):IntKind.i64.wrap m=m:=by
 unfold IntKind.wrap;have e:m % (2^IntKind.i64.bits:Int)=m:=mi b (by simp[IntKind.bits];omega);simp only[e];have : ¬(m>=(2^(IntKind.i64.bits-1):Int)):=by simp[IntKind.bits];omega
 simp[this]
theorem Zf (Q:I.Ok N) (R:Rel N c ns A μ lam s a w) {t g:TypeId} {n:Nat} {ag:Bool} {z:List V} {i:TypeInfo} {x y:Operand} {U W:Opd}
 (hx:opd I x=some U) (hy:opd I y=some W) (T:P.underlying t=some (.slice g)) (X:typ P g=some (ag,n)) (hz:gg P g=some z) (hi:P.info? g=some i) (S:o.op= .makeSlice t x y) (Cg:0<n)
 (hd: ∀x,o.dst=some x->x<ns) (hf:s.free o.dst e) (hk:s.heap (s.bas+p)=none) (hn:s.bas+p<s.nxt) (f:ao N.G p s (.mkslice n i.bytes z U W)=some e):eT P N c ns o a w (s.apply o.dst e):=by
 simp only[ao,zC,zB]at f;obtain⟨l,hl,m,hm,f⟩:=f;split at f
 ·rename_i hb;obtain⟨Z,Cx,r,H9,Hr⟩:=hb;simp only[zA]at f;subst f;obtain⟨kl,G⟩:=kH Q R hx hl;obtain⟨km,F⟩:=kH Q R hy hm;obtain⟨i',v,AK,hv,hc,Y⟩:=mq hz;obtain⟨inf,L,M,g3,g4⟩:=fE X;have D:=wH Z (by omega:l<=2^32);have E:=wH (by omega:(0:Int)<=m) r
  have CH: ¬((i.bytes:Int)*m>2^48):=by
   have h1:(i.bytes:Int)*m<=2^12*2^32:=Int.mul_le_mul aa r aa aa;omega
  obtain⟨zero,j,GP⟩: ∃zero:Array Value,zero=(if m.toNat*n=0 then #[]else v.cells)/\
   cm w A N.nm μ s.heap n ((Array.range (m.toNat*n)).map (zero[· % zero.size]!)).toList (List.replicate m.toNat z):=by
   by_cases b:m.toNat*n=0
   ·refine⟨#[],by rw[ah b],?_⟩;rcases vK.1 b with h | h
    ·rw[h];simp;exact cm.nil
    ·omega
   ·exact⟨v.cells,by rw[ac b],cm.replicate (lF hc) Hr m.toNat _ rfl⟩
  have B:=GP.take l.toNat (by simp;omega)
  have Gr:(List.replicate m.toNat z).take l.toNat=List.replicate l.toNat z:=by
   rw[List.take_replicate];congr 1;omega
  rw[Gr]at B
  have C:=vt R (t:=g) (cap:=m.toNat) (d:=o.dst) (cells:=(Array.range (m.toNat*n)).map (zero[· % zero.size]!)) hk hn B (fun q v k=>by
   rw[zO]at k;split at k
   ·rw[<- eu];exact k
   ·simp at k) af (by simp;omega) hd hf
  simp only[iB]at C;refine⟨_,_,A,_,lam,.inl ?_,C⟩;have u:(decide (m<0)||decide ((i.bytes:Int)*m>2^48))=false:=by simp;omega
  have J:decide (l<0)=false:=by simp;omega
  have K:decide (l>m)=false:=by simp;omega
  by_cases b:m.toNat*n=0
  ·rw[ah b]at j;subst j;simp only[execOp,S,Instr.makeSlice,Sem.run_bind,bi T,Result.andThen_ok,G,F,asInt,asIntOf,Sem.run_pure,se hi,D,E,u,J,K,Bool.or_false,zG,aX,run_askRoom,dw L,M,b,aU,newRow,run_newObj];rfl
  ·rw[ac b]at j;subst j;simp only[execOp,S,Instr.makeSlice,Sem.run_bind,bi T,Result.andThen_ok,G,F,asInt,asIntOf,Sem.run_pure,se hi,D,E,u,J,K,Bool.or_false,zG,aX,run_askRoom,dw L,M,b,Y,newRow,run_newObj];rfl
 ·simp at f
end
section
variable {P:Program} {w:World}
theorem Ql {t u l g ty:TypeId} {i:TypeInfo} {base:Option Addr} {v:Value} {sLen sCap n sz:Nat} {f:Array Value} {w':World} (m:P.underlying t=some (.slice l)) (q:P.underlying u=some (.slice g))
 (hi:P.info? l=some i) (j:i.size=sz) (y: ∃d cap,v= .slice d n cap) (h:sLen+n<=sCap) (k:(Builtin.firstCells sz n v).run P w= .ok f w)
 (r: ∀d,base=some d->(storeCells (d.add (sLen*sz)) f.toList).run P w= .ok () w') (x:base=none->w'=w):
 (Builtin.append_ #[t,u] ty #[.slice base sLen sCap,v]).run P w= .ok (.slice base (sLen+n) sCap) w':=by
 obtain⟨d,cap,rfl⟩:=y
 cases base with
 | none=>
   have:=x rfl;subst this
   simp[Builtin.append_,bi m,bi q,dw hi,j,Builtin.lenOf,h,k]
 | some b=>
   simp[Builtin.append_,bi m,bi q,dw hi,j,Builtin.lenOf,h,k,r b rfl]
end
theorem KQ {α:Type} {as bs rs:List α} {i:Nat} {row:α} (g:as=rs.take as.length) (h:(fq as bs rs)[i]? =some row):
 (i<as.length/\rs[i]? =some row)\/(as.length<=i/\i<as.length+bs.length/\bs[i-as.length]? =some row)\/(as.length+bs.length<=i/\rs[i]? =some row):=by
 have f:(as++bs)[i]? =some row->(i<as.length/\rs[i]? =some row)\/(as.length<=i/\i<as.length+bs.length/\bs[i-as.length]? =some row):=by
  intro h;rw[mK]at h;split at h
  ·rename_i b;left;refine⟨b,?_⟩;have e:as[i]? =(rs.take as.length)[i]? :=bz (fun l=>l[i]?) g;rw[e,zO,ah b]at h;exact h
  ·rename_i d;right;have:=(zH.1 h).1;exact⟨aa,aa,h⟩
 unfold fq at h;split at h
 ·rcases f h with h | h
  ·exact .inl h
  ·exact .inr (.inl h)
 ·rw[mK]at h;split at h
  ·rcases f h with h | h
   ·exact .inl h
   ·exact .inr (.inl h)
  ·rename_i d;rw[zM]at d h;rw[fx]at h;exact .inr (.inr ⟨aa,by rw[<- h];congr 1;omega⟩)
theorem Yc {α:Type} (as bs rs:List α):as.length+bs.length<=(fq as bs rs).length/\((fq as bs rs).length=as.length+bs.length\/(fq as bs rs).length=rs.length):=by
 unfold fq;split
 ·rw[zM];exact⟨ay _,.inl rfl⟩
 ·rw[zM,zM,pn];exact⟨aa,.inr aa⟩
theorem yO (w:World) (need b:Nat) (e:TypeId):need<=grownCap w need b e:=by
 simp[grownCap,Question.cut]
section
variable {P:Program} {N:Nam} {I:Inv} {c:Ctx} {ns p:Nat} {A:Nat->Prop} {μ lam:Nat->Nat} {s:St} {a:Act} {w:World} {e:Eff} {o:Oper}
theorem J' {b:Call} (f:o.op= .call b) (d:b.callee= .builtin .append):
 (execOp a.eval o).run P w=((Builtin.append_ b.argTypes o.type (b.args.map a.eval)).run P w).andThen fun v w'=> .ok (.value v) w':=by
 simp[execOp,f,resolve,d,invoke,builtin]
theorem kaj {b:Call} (f:o.op= .call b) (d:b.callee= .builtin .copy):
 (execOp a.eval o).run P w=((Builtin.copy_ b.argTypes o.type (b.args.map a.eval)).run P w).andThen fun v w'=> .ok (.value v) w':=by
 simp[execOp,f,resolve,d,invoke,builtin]
theorem ZM {b:Call} (f:o.op= .call b) (d:b.callee= .builtin .max):
 (execOp a.eval o).run P w=((Builtin.max_ b.argTypes o.type (b.args.map a.eval)).run P w).andThen fun v w'=> .ok (.value v) w':=by
 simp[execOp,f,resolve,d,invoke,builtin]
theorem ZL {b:Call} (f:o.op= .call b) (d:b.callee= .builtin .min):
 (execOp a.eval o).run P w=((Builtin.min_ b.argTypes o.type (b.args.map a.eval)).run P w).andThen fun v w'=> .ok (.value v) w':=by
 simp[execOp,f,resolve,d,invoke,builtin]
theorem ZO {b:Call} (f:o.op= .call b) (d:b.callee= .builtin .cap):
 (execOp a.eval o).run P w=((Builtin.cap_ b.argTypes o.type (b.args.map a.eval)).run P w).andThen fun v w'=> .ok (.value v) w':=by
 simp[execOp,f,resolve,d,invoke,builtin]
theorem ZN {b:Call} (f:o.op= .call b) (d:b.callee= .builtin .len):
 (execOp a.eval o).run P w=((Builtin.len_ b.argTypes o.type (b.args.map a.eval)).run P w).andThen fun v w'=> .ok (.value v) w':=by
 simp[execOp,f,resolve,d,invoke,builtin]
theorem N_ (w:World): ∀b,w.drew.cell? b=w.cell? b:=fun _=>rfl
theorem xA (w:World) (A:Nat->Prop) (μ:Nat->Nat) (H:ae):Evo w A μ H w.drew A μ H:=
 ⟨fun _ _=>rfl,fun _ h=>h,fun _ o h=>⟨o,h,O.le_refl o,fun _=>rfl⟩,fun _ _ h=>h⟩
theorem Z_ (hI:I.Ok N) (R:Rel N c ns A μ lam s a w) {cl:Call} {t u G el':TypeId} {n:Nat} {ag:Bool} {i:TypeInfo} {x y:Operand} {x' y':Opd} {zl:List V}
 (hx:opd I x=some x') (hy:opd I y=some y') (ht:P.underlying t=some (.slice G)) (hu:P.underlying u=some (.slice el')) (A6:typ P G=some (ag,n)) (hi:P.info? G=some i) (hz:gg P G=some zl) (Hr:zl.length=n) (Cg:0<n)
 (ho:o.op= .call cl) (hb:cl.callee= .builtin .append) (Bj:cl.argTypes= #[t,u]) (Dh:cl.args= #[x,y])
 (hd: ∀x,o.dst=some x->x<ns) (hf:s.free o.dst e) (hk:s.heap (s.bas+p)=none) (hn:s.bas+p<s.nxt) (J:ao N.G p s (.append n i.bytes x' y')=some e):eT P N c ns o a w (s.apply o.dst e):=by
 have L:=J' (P:=P) (w:=w) (a:=a) ho hb;rw[Bj,Dh]at L;simp only[mR,aT,bc]at L;obtain⟨inf,g1,Z,g3,g4⟩:=fE A6;rw[hi]at g1;cases g1;obtain⟨i',z,AK,Ip,IO,Gi⟩:=mq hz;rw[hi]at AK;cases AK;have Io:z.cells.size=n:=by have:=(lF (w:=w) (A:=A) (nm:=N.nm) (μ:=μ) (H:=s.heap) IO).1;simp at this;omega
 simp only[ao,zC,zB]at J;obtain⟨v1,AX,v2,DT,as,Y,bs,Ay,J⟩:=J;split at J
 ·rename_i hc;obtain⟨⟨Dr,CG⟩,Oi,M5⟩:=hc;have r1:=bx hI R hx AX;have r2:=bx hI R hy DT;obtain⟨ad1,cap1,B,e1,l1,rr1,f1⟩:=tz (P:=P) R r1 Y M5;obtain⟨U,cap2,f,e2,l2,C,f2⟩:=tz (P:=P) R r2 Ay Oi;have t1: ∀{cs:List Value} {rs:List (List V)},cs.length=rs.length*n->cs.take (rs.length*n)=cs:=fun h=>by rw[<- h,be]
  rw[e1,e2]at L;have F2:=f2 w (fun _=>rfl) bs.length (ay _);rw[t1 C.1,e2]at F2;have F1':=f1 w.drew (N_ w) as.length (ay _);rw[t1 rr1.1,e1]at F1';have F2':=f2 w.drew (N_ w) bs.length (ay _);rw[t1 C.1,e2]at F2';split at J
  ·rename_i GV;simp only[zA]at J;subst J;have Fv:bs=[]:=al GV
   subst Fv;have FE:f=[]:=lx.1 (al C.1);subst FE;refine⟨a.eval x,w,A,μ,lam,.inl ?_,R.put o.dst _ _ hd hf rfl rfl rfl r1 af⟩;rw[L,Ql (w':=w) ht hu hi Z ⟨_,_,rfl⟩ (al l1) F2 (fun ad _=>by simp[storeCells]) (fun _=>rfl),e1];simp
  ·rename_i GV
   have D4:0<bs.length:=by
    cases bs with
    | nil=>simp at GV
    | cons b l=>simp
   -- a new block,whatever was there
   have grow: ¬(as.length+bs.length<=cap1)-> ∀(s1:St) (_:Rel N c ns A μ lam s1 a w),s1.heap (s.bas+p)=none->s.bas+p<s1.nxt->s1.free o.dst {}->
    cm w A N.nm μ s1.heap n (B++f) (as++bs)->
    eT P N c ns o a w (s1.apply o.dst { val:=.ms (s.bas+p) 0 (as++bs).length,hp:=[(s.bas+p,.rows n (as++bs) false)] }):=by
    intro B5 s1 Gv AT Fj H6 AH
    have src:Src P i.size u (.slice U bs.length cap2) bs.length f w:=
     ⟨.inl ⟨el',hu⟩,fun _=>rfl,by rw[Z];exact F2,by rw[Z];exact F2',by rw[Z];exact C.1,C.one Cg⟩
    have GH:as.length+bs.length<=2^32:=Dr
    have AJ:Builtin.nextslicecap (as.length+bs.length) cap1*i.bytes<=281474976710656:=by
     refine growslice_fits aa ?_;have:=tj GH CG;omega
    have Am:=run_append_grow_src (P:=P) w t u o.type G i z ht hi Ip ad1 as.length cap1 B (by rw[Z];exact F1') (.slice U bs.length cap2) bs.length f src aa aa AJ;have Ac:(as++bs).length=as.length+bs.length:=af
    have JT:(B++f).length=(as.length+bs.length)*n:=by rw[AH.1,Ac]
    have Cw:=yO w (as.length+bs.length) cap1 G;rw[Am]at L
    have Ea:=vt (Gv.drew) (t:=G) (cap:=grownCap w (as.length+bs.length) cap1 G) (d:=o.dst)
     (cells:=(B++f).toArray++Builtin.zeroCells z.cells (grownCap w (as.length+bs.length) cap1 G-(as.length+bs.length))) AT Fj (AH.evo (xA w A μ s1.heap)) (fun q v hq=>by
       rw[rK (by simpa using(zH.1 hq).1)]
       simpa using hq) (by
       rw[Array.size_append]
       have e3:(Builtin.zeroCells z.cells (grownCap w (as.length+bs.length) cap1 G-(as.length+bs.length))).size=(grownCap w (as.length+bs.length) cap1 G-(as.length+bs.length))*n:=by
        simp[Builtin.zeroCells,Io]
       rw[e3];have e4:(B++f).toArray.size=(as.length+bs.length)*n:=al JT
       rw[e4,<- fA]
       exact dT _ aa) (by rw[Ac];exact Cw) hd H6
    rw[Ac]at Ea⊢;exact⟨_,_,A,_,lam,.inl L,Ea⟩
   split at J
   ·simp only[zA]at J;subst J;simp only[gJ,zA]at Y;subst Y
    have CM:cap1=0:=by
     rw[e1]at r1;obtain⟨_,h⟩:=r1.t_inv.nils_inv;cases h;rfl
    have:=grow (by simp;omega) s R hk hn hf (rr1.append C);simpa using this
   ·-- a clipped slice:a new block that is never written again
    rename_i es;simp only[zB,zA]at J;obtain⟨ts,FR,rfl⟩:=J
    have CM:cap1=as.length:=by
     rw[e1]at r1;simp only[gJ,zA]at Y;have M:=RepT.slc_inv r1.t_inv;rw[<- Y,cP];exact M.2
    have B5: ¬(as.length+bs.length<=cap1):=aa
    have AH:=rr1.append C
    have src:Src P i.size u (.slice U bs.length cap2) bs.length f w:=
     ⟨.inl ⟨el',hu⟩,fun _=>rfl,by rw[Z];exact F2,by rw[Z];exact F2',by rw[Z];exact C.1,C.one Cg⟩
    have GH:as.length+bs.length<=2^32:=Dr
    have AJ:Builtin.nextslicecap (as.length+bs.length) cap1*i.bytes<=281474976710656:=by
     refine growslice_fits aa ?_;have:=tj GH CG;omega
    have Am:=run_append_grow_src (P:=P) w t u o.type G i z ht hi Ip ad1 as.length cap1 B (by rw[Z];exact F1') (.slice U bs.length cap2) bs.length f src aa aa AJ;rw[Am]at L;have Cw:=yO w (as.length+bs.length) cap1 G;have E9:=AH.evo (xA w A μ s.heap);have Rd:=R.drew
    generalize grownCap w (as.length+bs.length) cap1 G=gc at L Cw
    generalize Builtin.zeroCells z.cells (gc-(as.length+bs.length))=zc at L
    have AS:w.drew.heap.size=w.heap.size:=rfl
    generalize w.drew=wd at L E9 Rd AS
    have hE:=xp Rd (.cells ((B++f).toArray++zc) G);have B2:=qj wd (.cells ((B++f).toArray++zc) G);have Nb:(wd.alloc (.cells ((B++f).toArray++zc) G)).heap.size=wd.heap.size+1:=by simp only[World.alloc,vR]
    have R1:=Rd.alloc (.cells ((B++f).toArray++zc) G)
    have R2:=R1.growA (fun q=>q=wd.heap.size) (fun q hq t ht=>by have:=Rd.lt_loc ht;omega)
     (fun q hq k o hk hl=>by have:=Rd.lt_live hk hl;omega)
     (fun q hq=> .inr (by have:=Rd.csize;omega)) (fun q hq=>aa) (Rd.defers.join R1.defers (fun q hq=>aa))
    obtain⟨m1,m2⟩:=fU FR;have Oj:0<ts.length:=by rw[<- m1,zM];omega
    have Dd:ts.length=as.length+bs.length:=by rw[<- m1,zM]
    have Cf:aO (wd.alloc (.cells ((B++f).toArray++zc) G)) (fun r=>A r\/r=wd.heap.size) N.nm μ s.heap (.slice (some ⟨w.heap.size,0,none⟩) (as.length+bs.length) gc) (.t (.sl ts)):=by
     have JY:=hE.blk;have Ap: ∀(m:Nat) (E:List T),ts[m]? =some E-> ∃row,(as++bs)[m]? =some row/\fJ row=some E:=fun m E F=>m2 m E F
     have FS: ∀(row:List V) (E:List T),fJ row=some E->E.length=row.length/\ ∀(j:Nat) (y:T),E[j]? =some y-> ∃y0,row[j]? =some (.t y0)/\y=y0.norm:=by
      intro row
      induction row with
      | nil=>intro E F;simp[fJ]at F;subst F;exact⟨rfl,fun j y h=>by simp at h⟩
      | cons v1 row ih=>
        intro E F;cases v1<;>simp only[fJ,reduceCtorEq]at F
        rename_i y0;rw[zE]at F;obtain⟨tr',M,rfl⟩:=F;obtain⟨Q,h4⟩:=ih tr' M;refine⟨by simp[Q],fun j y hj=> ?_⟩
        cases j with
        | zero=>simp at hj;exact⟨y0,rfl,hj.symm⟩
        | succ j=>simpa using h4 j y (al hj)
     have Ac: ∀(m:Nat) (E:List T),ts[m]? =some E->E.length=n:=fun m E F=>by
      obtain⟨row,M,Q⟩:=Ap m E F;rw[(FS row E Q).1];exact E9.2.1 m row M
     have Ag: ∀(m:Nat) (E:List T) (j:Nat) (y:T),ts[m]? =some E->E[j]? =some y-> ∃v,(B++f)[m*n+j]? =some v/\RepT wd A N.nm v y:=fun m E j y F h4=>by
      obtain⟨row,M,Q⟩:=Ap m E F;obtain⟨y0,h5,rfl⟩:=(FS row E Q).2 j y h4;obtain⟨v,h6,h7⟩:=E9.2.2 m row j _ M h5
      cases h7 with
      | t h8=>exact⟨v,h6,h8.norm⟩
     have key:=RepT.sl (w:=wd.alloc (.cells ((B++f).toArray++zc) G)) (A:=fun r=>A r\/r=wd.heap.size) (nm:=N.nm) wd.heap.size 0 gc n ts
      (fun m j=>((B++f)[m*n+j]?).getD default) Oj (by rw[Dd];exact Cw) (.inr rfl) Ac ?_ ?_
     ·rw[Dd]at key;rw[<- AS];exact(RepC.t key).toV
     ·intro m E j y F M;obtain⟨v,Q,_⟩:=Ag m E j y F M;rw[Q];simp only[World.cell?,B2,gy,gx];rw[rK (by simpa using(zH.1 Q).1)];simpa using Q
     ·intro m E j y F M;obtain⟨v,Q,h4⟩:=Ag m E j y F M;rw[Q,gx];exact h4.mono JY (fun _ h=> .inl h)
    exact⟨_,_,_,μ,lam,.inl L,R2.put o.dst _ _ hd hf rfl rfl rfl Cf af⟩
   ·rename_i k j ll;split at J
    ·rename_i g rs X;split at J
     ·rename_i Fs;obtain⟨rfl,rfl⟩:=Fs;simp only[zA]at J;subst J;have J4:s.bas+p≠k:=by intro h;rw[h]at hk;simp[X]at hk
      have hE:Evo w A μ s.heap w A μ (upd s.heap k (some .dead)):=by
       refine⟨fun _ _=>rfl,fun _ h=>h,fun k1 o1 h=> ?_,fun _ _ h=>h⟩
       by_cases e:k1=k
       ·subst e;exact⟨.dead,af,by cases o1<;>trivial,fun _=>rfl⟩
       ·exact⟨o1,by rw[aP _ _ e];exact h,O.le_refl o1,fun _=>rfl⟩
      have AT:(upd s.heap k (some .dead)) (s.bas+p)=none:=by rw[aP _ _ J4];exact hk
      have Pr:rs.length<=cap1:=by
       rw[e1]at r1
       cases(r1:RepC w A N.nm μ s.heap _ _)with
       | ms _ _ _ _ sz2 rs2 frz2 _ S AK Bz ha=>rw[X]at S;cases S;omega
       | dms _ _ _ S=>rw[X]at S;cases S
      by_cases Dy:as.length+bs.length<=cap1
      ·-- in place
       rw[e1]at r1
       have Eo:as.length=ll/\as=rs.take ll:=by
        simp only[gJ,X,rd]at Y;split at Y
        ·simp only[ij,zA]at Y;subst Y;exact⟨by simp;omega,rfl⟩
        ·simp at Y
       obtain⟨W,e0,zz,F,M,Q,h4,h5⟩:=R.heap k _ X;have FM:=M rfl;subst FM
       obtain⟨CI,GY⟩:ad1=some ⟨μ k,0,none⟩/\cap1*g<=W.size:=by
        cases(r1:RepC w A N.nm μ s.heap _ _)with
        | ms _ _ _ _ sz2 rs2 frz2 _ S AK Bz ha=>
          rw[X]at S;cases S;obtain⟨rfl,e3,n3,OV,N1⟩:=ha.resolve_left aa;simp only[World.shape?,F,zA,dx]at OV;obtain⟨_,rfl⟩:=OV
          exact⟨af,al N1⟩
        | dms _ _ _ S=>rw[X]at S;cases S
       subst CI;have FE:=C.1
       have AJ:as.length*g+0+f.length<=W.size:=by
        rw[FE,gV,<- fA];exact cU (dT _ Dy) GY
       have AE:=run_storeCells_at P (μ k) (as.length*g) e0 f 0 W w F AJ (C.one Cg)
       let D:Array Value:=(W.toList.take (as.length*g+0)++f++W.toList.drop (as.length*g+0+f.length)).toArray
       have Br:wr W.toList (as.length*g) f=some D.toList:=by
        unfold wr;rw[ah (al AJ)];simp[D]
       obtain⟨j1,j2,j3⟩:=jW Br;have Dj:D.size=W.size:=al j2
       have R1:=R.kill X;have orph:=R.orphan_kill X rfl af;have R2:=R1.setOrphan orph F Dj
       have JY:Evo w A μ (upd s.heap k (some .dead)) (w.setRow (μ k) D) A μ (upd s.heap k (some .dead)):=
        ⟨fun r hr=>setRow_other w _ r _ (fun e=>orph.a (e▸hr)),fun _ h=>h,fun _ o h=>⟨o,h,O.le_refl o,fun _=>rfl⟩,shape?_setRow F Dj⟩
       have LS:as=rs.take as.length:=by rw[Eo.1];exact Eo.2
       obtain⟨al1,K⟩:=Yc as bs rs
       have GA:i7 (w.setRow (μ k) D) A N μ (upd s.heap k (some .dead)) (μ k) (.rows g (fq as bs rs) false):=by
        have Ix: ∀(m:Nat) (row:List V),(fq as bs rs)[m]? =some row->row.length=g:=by
         intro m row B8;rcases KQ LS B8 with⟨_,h⟩ | ⟨_,_,h⟩ | ⟨_,h⟩
         ·exact h4 _ row h
         ·exact C.2.1 _ row h
         ·exact h4 _ row h
        refine⟨D,e0,(0,0),setRow_heap w _ W D e0 _ F,fun _=>rfl,?_,Ix,?_⟩
        ·rw[Dj];rcases K with K | K
         ·rw[K];exact cU (dT _ Dy) GY
         ·rw[K];exact Q
        ·intro m row j x B8 hj;have Bb:=Ix m row B8;have AN:j<g:=by rw[<- Bb];exact(zH.1 hj).1
         have Ag:D[m*g+j]? =D.toList[m*g+j]? :=by rw[eu]
         rw[Ag,j3];rcases KQ LS B8 with⟨Ad,Cq⟩ | ⟨Bv,Ad,Cq⟩ | ⟨Bv,Cq⟩
         ·have:=lj Ad AN;rw[ac aa];obtain⟨v,hv,hr⟩:=h5 m row j x Cq hj;exact⟨v,al hv,(hr.evo hE).evo JY⟩
         ·have AV:m-as.length<bs.length:=(zH.1 Cq).1;have e5:m*g=as.length*g+(m-as.length)*g:=by rw[<- fA];congr 1;omega
          have:=lj AV AN;rw[ah (by rw[FE];omega)];obtain⟨v,hv,hr⟩:=C.2.2 _ row j x Cq hj;refine⟨v,?_,(hr.evo hE).evo JY⟩;have e6:m*g+j-as.length*g=(m-as.length)*g+j:=aa
          rw[e6];exact hv
         ·have:=dT g Bv;rw[fA]at this;rw[ac (by rw[FE];omega)];obtain⟨v,hv,hr⟩:=h5 m row j x Cq hj;exact⟨v,al hv,(hr.evo hE).evo JY⟩
       have R3:=R2.adoptH (k:=s.bas+p) AT hn orph GA af
       have Am:=Ql (P:=P) (ty:=o.type) (w':=w.setRow (μ k) D) ht hu hi Z ⟨U,cap2,rfl⟩ Dy F2 (base:=some ⟨μ k,0,none⟩) (fun ad h=>by
        cases h;rw[jB,gy]
        exact AE) (fun h=>by simp at h)
       rw[Am]at L;refine⟨_,_,A,_,lam,.inl L,R3.put o.dst { val:=.ms (s.bas+p) 0 (as.length+bs.length) } _ hd hf rfl rfl rfl ?_ af⟩
       have E7:(w.setRow (μ k) D).shape? (μ k)=some (e0,W.size):=by
        unfold World.shape?;rw[setRow_heap w _ W D e0 _ F];simp[Dj]
       have:=RepC.ms (w:=w.setRow (μ k) D) (A:=A) (nm:=N.nm) (μ:=upd μ (s.bas+p) (μ k)) (H:=upd (upd s.heap k (some .dead)) (s.bas+p) (some (.rows g (fq as bs rs) false))) (s.bas+p) 0 (as.length+bs.length) cap1 g (fq as bs rs) false
        (some ⟨μ k,0,none⟩) af aa (by rcases K with K | K<;>omega) (.inr ⟨af,e0,W.size,al E7,al GY⟩)
       exact this.toV
      ·have:=grow Dy { s with heap:=upd s.heap k (some .dead) } (R.kill X) AT hn hf ((rr1.append C).evo hE);rw[zM]at this;rw[show fq as bs rs=as++bs from ah aa];exact this
     ·simp at J
    ·simp at J
   ·simp at J
 ·simp at J
theorem VV (w:World) (t b ty e:TypeId) (i:TypeInfo) (z:Value) (k C:IntKind) (x:P.underlying t=some (.slice e)) (hi:P.info? e=some i) (B:i.zero=some z) (v:P.underlying b=some (.int k)) (base:Option Addr) (m:Nat) (F:1<=m) (G:0<i.size)
 (y:IntKind.i64.wrap (m:Int)=m) (E:(m:Int)<=9223372036854775807) (u: ¬((m:Int)*i.bytes>2^48)) (D:Builtin.nextslicecap m 0*i.bytes<=281474976710656):
 (Builtin.append_ #[t,b] ty #[.slice base 0 0,.int C m]).run P w=
   .ok (.slice (some ⟨w.heap.size,0,none⟩) m (grownCap w m 0 e)) (w.drew.alloc (.cells (Builtin.zeroCells z.cells m++Builtin.zeroCells z.cells (grownCap w m 0 e-m)) e)):=by
 have g: ¬((m:Int)<0):=aa
 have j: ¬(9223372036854775807<(m:Int)):=aa
 have l: ¬(281474976710656<Builtin.nextslicecap m 0*i.bytes):=aa
 have n: ¬(m=0):=aa
 have r: ¬(m*i.size=0):=by
  intro h;rcases vK.1 h with h | h<;>omega
 have q: ¬(281474976710656<(m:Int)*i.bytes):=al u
 have f:(Builtin.firstCells i.size 0 (.slice base 0 0)).run P w.drew= .ok #[] w.drew:=by
  cases base with
  | none=>exact run_firstCells_none w.drew i.size 0 0 0
  | some d=>exact run_firstCells_some w.drew i.size 0 d 0 0 [] af af
 simp[Builtin.append_,run_underlying x,run_underlying v,Go.sizeOf,typeInfo,zeroValue,hi,B,asInt,asIntOf,y,g,j,l,n,q,r,f,Question.forced,newRow,grownCap]
theorem kcO (L:I.Ok N) (R:Rel N c ns A μ lam s a w) {l:Call} {t u b:TypeId} {k:IntKind} {n:Nat} {ag:Bool} {i:TypeInfo} {x y:Operand} {M Q:Opd} {C:List V}
 (hx:opd I x=some M) (hy:opd I y=some Q) (ht:P.underlying t=some (.slice b)) (hu:P.underlying u=some (.int k)) (S:typ P b=some (ag,n)) (hi:P.info? b=some i) (hz:gg P b=some C) (Cg:0<n)
 (ho:o.op= .call l) (hb:l.callee= .builtin .append) (X:l.argTypes= #[t,u]) (Dh:l.args= #[x,y])
 (hd: ∀x,o.dst=some x->x<ns) (hf:s.free o.dst e) (hk:s.heap (s.bas+p)=none) (hn:s.bas+p<s.nxt) (f:ao N.G p s (.appz n i.bytes C M Q)=some e):eT P N c ns o a w (s.apply o.dst e):=by
 have g:=J' (P:=P) (w:=w) (a:=a) ho hb;rw[X,Dh]at g;simp only[mR,aT,bc]at g;obtain⟨inf,K,g2,g3,g4⟩:=fE S;rw[hi]at K;cases K;obtain⟨i',z,D,Ip,F,Gi⟩:=mq hz;rw[hi]at D;cases D;simp only[ao,zC,zB]at f;obtain⟨m,hm,v,hv,f⟩:=f;split at f
 ·split at f
  ·rename_i hc;obtain⟨c1,J,c3,c4⟩:=hc;simp only[zA]at f;subst f;obtain⟨km,GL⟩:=kH L R hy hm
   obtain⟨r,D7⟩: ∃r,a.eval x= .slice r 0 0:=by
    have h:=(bx L R hx hv).t_inv
    generalize a.eval x=q at h
    cases h;exact⟨_,rfl⟩
   obtain⟨q,rfl⟩: ∃q:Nat,m=q:=⟨m.toNat,aa⟩
   rw[D7,GL]at g
   have Y: ¬((q:Int)*i.bytes>2^48):=by
    have h1:(q:Int)*i.bytes<=2^32*2^12:=Int.mul_le_mul J aa aa aa;omega
   have U:Builtin.nextslicecap q 0*i.bytes<=281474976710656:=by
    refine growslice_fits aa ?_;have:=tj (show q<=2^32 from aa) c3;omega
   have W:=VV (P:=P) w t u o.type b i z k km ht hi Ip hu r q aa aa (wH aa J) aa Y U;rw[W]at g;have G:z.cells.size=n:=by have:=(lF (w:=w) (A:=A) (nm:=N.nm) (μ:=μ) (H:=s.heap) F).1;simp at this;omega
   have T:cm w A N.nm μ s.heap n (Builtin.zeroCells z.cells q).toList (List.replicate q C):=cm.replicate (lF F) c4 q _ (by simp[G]);have Z:=yO w q 0 b
   have E:=vt R.drew (t:=b) (cap:=grownCap w q 0 b) (d:=o.dst) (cells:=Builtin.zeroCells z.cells q++Builtin.zeroCells z.cells (grownCap w q 0 b-q)) hk hn (T.evo (xA w A μ s.heap)) (fun j v B=>by
    rw[eu]at B;rw[rK (gQ.1 B).1]
    exact B) (by
    rw[Array.size_append];simp only[Builtin.zeroCells,G,Array.size_map,Array.size_range];rw[<- fA]
    exact dT _ aa) (by simp;exact Z) hd hf
   simp only[iB,kW]at E⊢;exact⟨_,_,A,_,lam,.inl g,E⟩
  ·simp at f
 ·simp at f
theorem kbz (hI:I.Ok N) (R:Rel N c ns A μ lam s a w) {V:Call} {t u el:TypeId} {n:Nat} {ag:Bool} {x y:Operand} {x' y':Opd}
 (hx:opd I x=some x') (hy:opd I y=some y') (M:P.underlying t=some (.slice el)) (A6:typ P el=some (ag,n)) (Cg:0<n)
 (ho:o.op= .call V) (hb:V.callee= .builtin .copy) (Bj:V.argTypes= #[t,u]) (Dh:V.args= #[x,y])
 (hd: ∀x,o.dst=some x->x<ns) (hf:s.free o.dst e) (q:ao N.G p s (.copy n x' y')=some e):eT P N c ns o a w (s.apply o.dst e):=by
 have T:=kaj (P:=P) (w:=w) (a:=a) ho hb;rw[Bj,Dh]at T;simp only[mR,aT,bc]at T;obtain⟨inf,G,J,g3,g4⟩:=fE A6;simp only[ao,zC,zB]at q;obtain⟨v1,AX,v2,DT,bs,f,q⟩:=q;have r1:=bx hI R hx AX;have r2:=bx hI R hy DT
 obtain⟨ad2,cap2,W⟩: ∃C cap,a.eval y= .slice C bs.length cap:=by
  refine r2.len_inv ?_;unfold gJ at f;unfold lenOf;split at f
  ·simp only[zA]at f;subst f;rfl
  ·simp only[zA]at f;subst f;simp
  ·simp only[zA]at f;subst f;simp
  ·split at f
   ·unfold rd at f;split at f
    ·simp only[zA]at f;subst f;simp;omega
    ·simp at f
   ·simp at f
  ·simp at f
 have BN: ∀w:World,(Builtin.firstCells n 0 (a.eval y)).run P w= .ok #[] w:=by
  intro w;rw[W]
  cases ad2 with
  | none=>simp[Builtin.firstCells]
  | some C=>simp[Builtin.firstCells,loadCells,loadCellsFrom]
 split at q
 ·simp only[zA]at q;subst q;obtain⟨ad1,e1⟩:=r1.t_inv.nils_inv;refine⟨goInt 0,w,A,μ,lam,.inl ?_,R.put o.dst _ _ hd hf rfl rfl rfl (RepC.t (.int _ _)).toV af⟩;rw[T];have Mk:=BN w;rw[W]at Mk;rw[e1,W]
  cases ad1 with
  | none=>simp[Builtin.copy_,bi M,Builtin.lenOf,dw G,J,Mk]
  | some C=>simp[Builtin.copy_,bi M,Builtin.lenOf,dw G,J,Mk,storeCells]
 ·rename_i k i len;split at q
  ·rename_i b rs S;split at q
   ·rename_i Fs;obtain⟨rfl,Aa⟩:=Fs;simp only[zB,zA]at q;obtain⟨rs',hw,rfl⟩:=q;obtain⟨ad2',cap2',m,e2',l2,B,f2⟩:=tz (P:=P) R r2 f Aa;obtain⟨z,F,zz,K,h2,h3,h4,h5⟩:=R.heap k _ S;have FM:=h2 rfl;subst FM;obtain⟨q1,q2,q3⟩:=jW hw
    obtain⟨base,cap,e1,Db⟩: ∃base cap,a.eval x= .slice base len cap/\(0<len->base=some ⟨μ k,i*b,none⟩):=by
     generalize a.eval x=v at r1
     cases(r1:RepC w A N.nm μ s.heap v _)with
     | ms _ _ _ cap sz2 rs2 frz2 C D AK Bz ha=>
       rw[S]at D;cases D;refine⟨C,cap,rfl,fun Y=> ?_⟩
       exact(ha.resolve_left aa).1
     | dms _ _ _ D=>rw[S]at D;cases D
    have Lk:min bs.length len<=bs.length:=Nat.min_le_left _ _;have U:=f2 w (fun _=>rfl) (min bs.length len) Lk;have Dd:(bs.take len).length=min bs.length len:=by simp[Nat.min_comm]
    have CA:(m.take (min bs.length len*b)).length=min bs.length len*b:=by
     rw[bJ,B.1];exact jb (dT _ Lk)
    have AJ:i*b+0+(m.take (min bs.length len*b)).length<=z.size:=by
     rw[CA,gV,<- fA];refine cU (dT _ ?_) h3;rw[<- Dd];exact q1
    have AE:=run_storeCells_at P (μ k) (i*b) F (m.take (min bs.length len*b)) 0 z w K AJ (fun v Q=>B.one Cg v (lB Q))
    let d:Array Value:=(z.toList.take (i*b+0)++m.take (min bs.length len*b)++z.toList.drop (i*b+0+(m.take (min bs.length len*b)).length)).toArray
    have Br:wr z.toList (i*b) (m.take (min bs.length len*b))=some d.toList:=by
     unfold wr;rw[ah (al AJ)];simp[d]
    obtain⟨j1,j2,j3⟩:=jW Br;have Dj:d.size=z.size:=al j2
    have R1:=R.changeH (o':= .rows b rs' false) (w':=w.setRow (μ k) d) S ⟨rfl,q2⟩ rfl af af rfl af (fun r L=>setRow_other w _ r _ L)
     (shape?_setRow K Dj) (fun E=>by
       refine⟨d,F,(0,0),setRow_heap w _ z d F _ K,fun _=>rfl,by rw[Dj,q2];exact h3,?_,?_⟩
       ·intro l row g;rw[q3 l]at g;split at g
        ·rw[zO]at g;split at g
         ·exact B.2.1 _ row g
         ·simp at g
        ·exact h4 l row g
       ·intro l row j x g X;have Ag:d[l*b+j]? =d.toList[l*b+j]? :=by rw[eu]
        rw[Ag,j3];rw[q3 l]at g;split at g
        ·rename_i Z;rw[zO]at g;split at g
         ·rename_i Ad;have AN:j<b:=by rw[<- B.2.1 _ row g];exact(zH.1 X).1
          have Cx:l-i<min bs.length len:=by rw[Dd]at Z;omega
          have:=lj Cx AN;have e5:l*b=i*b+(l-i)*b:=by rw[<- fA];congr 1;omega
          rw[ah (by rw[CA];omega)];obtain⟨v,Q,L⟩:=B.2.2 _ row j x g X;refine⟨v,?_,L.evo E⟩;have e6:l*b+j-i*b=(l-i)*b+j:=aa
          rw[e6,zO,ah this];exact Q
         ·simp at g
        ·rename_i Z;have AN:j<b:=by rw[<- h4 _ row g];exact(zH.1 X).1
         obtain⟨v,Q,L⟩:=h5 l row j x g X;rw[ac]
         ·exact⟨v,al Q,L.evo E⟩
         ·rw[CA];intro hh;rw[Dd]at Z;rcases bw l i with Ad | Bv
          ·have:=dT b (rH Ad);rw[lD]at this;omega
          ·have JJ:i+min bs.length len<=l:=aa
           have:=dT b JJ
           rw[fA]at this;omega)
    have Ld:base=none->w.setRow (μ k) d=w:=by
     intro Co
     have Fn:len=0:=by
      rcases nh len with h | h
      ·exact h
      ·rw[Db h]at Co;simp at Co
     subst Fn
     have:d=z:=by
      apply qa;simp[d]
     rw[this];exact setRow_self w _ z F _ K
    refine⟨goInt (min bs.length len:Nat),w.setRow (μ k) d,A,μ,lam,.inl ?_,R1.put o.dst { val:=.t (.int .i64 (min bs.length len:Nat)) } _ hd hf rfl rfl rfl (RepC.t (.int _ _)).toV af⟩;rw[T,e1];rw[W]at U⊢
    cases base with
    | none=>
      rw[Ld rfl];simp only[Builtin.copy_,td,dv,lz,Sem.run_bind,bi M,Result.andThen_ok,Builtin.lenOf,Sem.run_pure,dw G,J];rw[show Nat.min bs.length len=min bs.length len from rfl,U]
      rfl
    | some C=>
      rcases nh len with Y | Y
      ·subst Y
       have Hg:w.setRow (μ k) d=w:=by
        have:d=z:=by
         apply qa;simp[d]
        rw[this];exact setRow_self w _ z F _ K
       rw[Hg];simp only[Builtin.copy_,td,dv,lz,Sem.run_bind,bi M,Result.andThen_ok,Builtin.lenOf,Sem.run_pure,dw G,J];rw[show Nat.min bs.length 0=min bs.length 0 from rfl,U];simp[storeCells]
      ·have:=Db Y;cases this;simp only[Builtin.copy_,td,dv,lz,Sem.run_bind,bi M,Result.andThen_ok,Builtin.lenOf,Sem.run_pure,dw G,J];rw[show Nat.min bs.length len=min bs.length len from rfl,U];simp only[Result.andThen_ok];rw[AE];rfl
   ·simp at q
  ·simp at q
 ·simp at q
theorem XM {b:Call} (f:o.op= .call b) (d:b.callee= .builtin .clear):
 (execOp a.eval o).run P w=((Builtin.clear_ b.argTypes o.type (b.args.map a.eval)).run P w).andThen fun v w'=> .ok (.value v) w':=by
 simp[execOp,f,resolve,d,invoke,builtin]
theorem kca (hI:I.Ok N) (R:Rel N c ns A μ lam s a w) {J:Call} {t U:TypeId} {n:Nat} {ag:Bool} {x:Operand} {x':Opd} {z:List V}
 (hx:opd I x=some x') (W:P.underlying t=some (.slice U)) (A6:typ P U=some (ag,n)) (Cg:0<n) (hz:gg P U=some z) (Hr:z.length=n)
 (ho:o.op= .call J) (hb:J.callee= .builtin .clear) (Bj:J.argTypes= #[t]) (Dh:J.args= #[x])
 (hd: ∀x,o.dst=some x->x<ns) (hf:s.free o.dst e) (h:ao N.G p s (.clear n z x')=some e):eT P N c ns o a w (s.apply o.dst e):=by
 have F:=XM (P:=P) (w:=w) (a:=a) ho hb;rw[Bj,Dh]at F;simp only[mR,aT,bc]at F;obtain⟨i',Q,AK,Ip,IO,Gi⟩:=mq hz;have Io:Q.cells.size=n:=by have:=(lF (w:=w) (A:=A) (nm:=N.nm) (μ:=μ) (H:=s.heap) IO).1;simp at this;omega
 simp only[ao,zC,zB]at h;obtain⟨v1,AX,h⟩:=h;have Z:=bx hI R hx AX;split at h
 ·simp only[zA]at h;subst h;obtain⟨S,T⟩:=Z.t_inv.nils_inv;refine⟨.tuple #[],w,A,μ,lam,.inl ?_,R.put o.dst _ _ hd hf rfl rfl rfl ⟨#[],rfl,rfl,af⟩ af⟩;rw[F,T];cases S<;>simp[Builtin.clear_,bi W]
 ·rename_i k i len;split at h
  ·rename_i b rs D;split at h
   ·rename_i Fs;obtain⟨IX,_⟩:=Fs;subst IX;simp only[zB,zA]at h;obtain⟨rs',hw,rfl⟩:=h;obtain⟨u,K,zz,L,h2,h3,h4,h5⟩:=R.heap k _ D;have FM:=h2 rfl;subst FM;obtain⟨q1,q2,Y⟩:=jW hw
    obtain⟨base,cap,T,Db⟩: ∃base cap,a.eval x= .slice base len cap/\(0<len->base=some ⟨μ k,i*b,none⟩):=by
     generalize a.eval x=v at Z
     cases(Z:RepC w A N.nm μ s.heap v _)with
     | ms _ _ _ cap sz2 rs2 frz2 ad y AK Bz ha=>
       rw[D]at y;cases y;refine⟨ad,cap,rfl,fun B=> ?_⟩
       exact(ha.resolve_left aa).1
     | dms _ _ _ y=>rw[D]at y;cases y
    have l:cm w A N.nm μ s.heap b (Builtin.zeroCells Q.cells len).toList (List.replicate len z):=cm.replicate (lF IO) Hr len _ (by rw[Io])
    generalize AL:(Builtin.zeroCells Q.cells len).toList=f at l
    have G:f.length=len*b:=by rw[l.1];simp
    simp only[iB]at q1 Y
    have AJ:i*b+0+f.length<=u.size:=by
     rw[G,gV,<- fA];exact cU (dT _ q1) h3
    have AE:=run_storeCells_at P (μ k) (i*b) K f 0 u w L AJ (l.one Cg)
    let d:Array Value:=(u.toList.take (i*b+0)++f++u.toList.drop (i*b+0+f.length)).toArray
    have Br:wr u.toList (i*b) f=some d.toList:=by
     unfold wr;rw[ah (al AJ)];simp[d]
    obtain⟨j1,j2,j3⟩:=jW Br;have Dj:d.size=u.size:=al j2
    have R1:=R.changeH (o':= .rows b rs' false) (w':=w.setRow (μ k) d) D ⟨rfl,q2⟩ rfl af af rfl af (fun r C=>setRow_other w _ r _ C)
     (shape?_setRow L Dj) (fun E=>by
       refine⟨d,K,(0,0),setRow_heap w _ u d K _ L,fun _=>rfl,by rw[Dj,q2];exact h3,?_,?_⟩
       ·intro g row q;rw[Y g]at q;split at q
        ·exact l.2.1 _ row q
        ·exact h4 g row q
       ·intro g row j x q M;have Ag:d[g*b+j]? =d.toList[g*b+j]? :=by rw[eu]
        rw[Ag,j3];rw[Y g]at q;split at q
        ·rename_i Aj;have AN:j<b:=by rw[<- l.2.1 _ row q];exact(zH.1 M).1
         have Cx:g-i<len:=aa
         have:=lj Cx AN;have e5:g*b=i*b+(g-i)*b:=by rw[<- fA];congr 1;omega
         rw[ah (by rw[G];omega)];obtain⟨v,X,C⟩:=l.2.2 _ row j x q M;refine⟨v,?_,C.evo E⟩;have e6:g*b+j-i*b=(g-i)*b+j:=aa
         rw[e6];exact X
        ·rename_i Aj;have AN:j<b:=by rw[<- h4 _ row q];exact(zH.1 M).1
         obtain⟨v,X,C⟩:=h5 g row j x q M;rw[ac]
         ·exact⟨v,al X,C.evo E⟩
         ·rw[G];intro hh;rcases bw g i with Ad | Bv
          ·have:=dT b (rH Ad);rw[lD]at this;omega
          ·have JJ:i+len<=g:=aa
           have:=dT b JJ
           rw[fA]at this;omega)
    refine⟨.tuple #[],w.setRow (μ k) d,A,μ,lam,.inl ?_,R1.put o.dst { val:=.tup [] } _ hd hf rfl rfl rfl ⟨#[],rfl,rfl,af⟩ af⟩;rw[F,T];rcases nh len with B | B
    ·subst B;have CM:f=[]:=lx.1 (al G)
     have Hg:w.setRow (μ k) d=w:=by
      have:d=u:=by
       apply qa;simp[d,CM]
      rw[this];exact setRow_self w _ u K _ L
     rw[Hg];cases base<;>simp[Builtin.clear_,bi W]
    ·have:=Db B;subst this;obtain⟨m,rfl⟩:=Nat.exists_eq_succ_of_ne_zero (Nat.ne_of_gt B);simp only[Builtin.clear_,td,dv,Sem.run_bind,bi W,Result.andThen_ok,Gi,Sem.run_pure,Nat.succ_eq_add_one];rw[show(Builtin.zeroCells Q.cells (m+1)).toList=f from AL];rw[AE];rfl
   ·simp at h
  ·simp at h
 ·simp at h
end
end Rg
end
