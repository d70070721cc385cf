/- Part of the proof of the laws of the package relyguardlaw07: an abstract machine for the program's functions, what they compute, and that the machine is the program's. No condition. (H10h H30v H30d H30e H30f) -/
import Derived.Test.YtamaecmfhphpeaaGreatDoorPartBA
import Derived.Test.YtamaecmfhphpeaaGreatDoorPartAX
set_option linter.unusedSimpArgs false
set_option linter.unusedVariables false
section
namespace Rg
open Go
@[go_sem] theorem fnK_fa (g:Nat) (c:List T) (K:Nat->List V->List V->Prop) (w:WK K):fnK (some (.t (.fa g c))) K w=K g [.agg (c.map V.t)] []:=rfl
theorem validP7_den (p:Prog) (hs:p.sane):Den Γ G 64 [(.agg [.t (.sl ((p).cells.map (Cell.enc))), .t (.sl ((p).modules.map (Contract.enc))), .t (.sl ((p).locks.map (Lock.enc))), .t (.sl ((p).threads.map (Thread.enc)))])]=some (.tup [vi (validM p).1,vi (validM p).2.1,vi (validM p).2.2]):=by
 (refine den_ofY Γ64 rfl ?_; dsimp only [f64])
 have h1:=limitsP_den p hs
 simp -dsimp -implicitDefEqProofs only [go_sem,seval,h1]
 refine csplit (fun h => ?_) (fun h => ?_) <;> (try rw [h]) <;> (try simp only [bools] at h) <;> (try simp -dsimp -implicitDefEqProofs only [go_sem,seval])
 ·have h0 : ¬ (limitsM p).1=0:=by simpa using h
  have:validM p=((limitsM p).1,(limitsM p).2, -1):=by rw [validM,if_pos h0]
  rw [this]; simp
 ·have h0:(limitsM p).1=0:=by simpa using h
  obtain ⟨⟨l1,l2,l3,l4⟩,l5⟩:=limits_points h0
  have hv1:validM p=if ¬ cellsM p=0 then (cellsM p, -1, -1) else if ¬ modulesM p=0 then (modulesM p, -1, -1) else if ¬ locksM p=0 then (locksM p, -1, -1) else thrGo p 0 p.threads:=by
   rw [validM,if_neg (by simpa using h0)]
  have c1:=cellsP_den p hs
  have c2:=modulesP_den p hs
  have c3:=locksP_den p hs
  refine wL_step ?_
  simp -dsimp -implicitDefEqProofs only [go_sem,seval,c1]
  refine csplit (fun h => ?_) (fun h => ?_) <;> (try rw [h]) <;> (try simp only [bools] at h) <;> (try simp -dsimp -implicitDefEqProofs only [go_sem,seval])
  ·have:validM p=(cellsM p, -1, -1):=by rw [hv1,if_pos (by simpa using h)]
   rw [this]; simp
  ·have h2:cellsM p=0:=by simpa using h
   rw [if_neg (by simpa using h2)] at hv1
   refine wL_step ?_
   simp -dsimp -implicitDefEqProofs only [go_sem,seval,c2]
   refine csplit (fun h => ?_) (fun h => ?_) <;> (try rw [h]) <;> (try simp only [bools] at h) <;> (try simp -dsimp -implicitDefEqProofs only [go_sem,seval])
   ·have:validM p=(modulesM p, -1, -1):=by rw [hv1,if_pos (by simpa using h)]
    rw [this]; simp
   ·have h3:modulesM p=0:=by simpa using h
    rw [if_neg (by simpa using h3)] at hv1
    refine wL_step ?_
    simp -dsimp -implicitDefEqProofs only [go_sem,seval,c3]
    refine csplit (fun h => ?_) (fun h => ?_) <;> (try rw [h]) <;> (try simp only [bools] at h) <;> (try simp -dsimp -implicitDefEqProofs only [go_sem,seval])
    ·have:validM p=(locksM p, -1, -1):=by rw [hv1,if_pos (by simpa using h)]
     rw [this]; simp
    ·have h4:locksM p=0:=by simpa using h
     rw [if_neg (by simpa using h4)] at hv1
     refine wL_step ?_
     simp -dsimp -implicitDefEqProofs only [go_sem,seval]
     refine loopYH 73786835557349912604 p.threads.length (fun i f h y=>(f 47).v=vi i/\56<y/\h 56=some (.map (setS ((p.threads.take i).map Thread.name)))/\validM p=thrGo p i (p.threads.drop i)) rfl ⟨by simp -dsimp -implicitDefEqProofs only [go_sem,seval],by simp -dsimp -implicitDefEqProofs only [go_sem,seval],by simp -dsimp -implicitDefEqProofs only [go_sem,seval]; rfl,hv1⟩ ?_
     rintro i f u hh y bs hi ⟨h47,hy,hmap,hm⟩
     have hw:=wrapS i (by omega)
     simp -dsimp -implicitDefEqProofs only [go_sem,seval,h47]
     refine csplit (fun h => ?_) (fun h => ?_) <;> (try rw [h]) <;> (try simp only [bools] at h) <;> (try simp -dsimp -implicitDefEqProofs only [go_sem,seval,h47])
     ·obtain ⟨x,hx,hxm⟩:=get_of ‹i<p.threads.length›
      simp -dsimp -implicitDefEqProofs only [go_sem,seval,h47,hx]
      refine rawK_of (threadP_den p hs i x hx (by have:=(l5 x hxm).1; omega) hh _ 56 (by omega) hmap) ?_
      rintro r h' n' ⟨⟨hn,rfl⟩,hk⟩
      simp -dsimp -implicitDefEqProofs only [go_sem,seval,h47]
      refine csplit (fun h => ?_) (fun h => ?_) <;> (try rw [h]) <;> (try simp only [bools] at h) <;> (try simp -dsimp -implicitDefEqProofs only [go_sem,seval,h47])
      ·rw [hm,thr_stop hx (by simpa using h)]; simp
      ·have hk' := hk (by simpa using h)
       refine ⟨by omega,by simp -dsimp -implicitDefEqProofs only [go_sem,seval,hw],by simp -dsimp -implicitDefEqProofs only [go_sem,seval]; omega,by simp -dsimp -implicitDefEqProofs only [go_sem,seval,hk'], ?_⟩
       rw [hm,thr_step hx (by simpa using h)]
     ·have:i=p.threads.length:=by omega
      subst this
      rw [hm,thr_end]; simp
end Rg
end
section
namespace Rg
open Go
theorem fe_all {α:Type} {f:Nat->α->Int} : ∀ {l:List α} {i:Nat},(feGo f i l).1=0 <-> ∀ (j:Nat) (x:α),l[j]? = some x->f (i+j) x=0
 | [],i=>by simp [feGo]
 | y::r,i=>by
  rw [feGo]
  constructor
  ·intro h j x hj
   split at h
   ·rename_i h0
    cases j with
    | zero=>simp at hj; subst hj; exact h0
    | succ j =>
     have:=(fe_all (l:=r) (i:=i+1)).1 h j x (by simpa using hj)
     rwa [show i+1+j=i+(j+1) by omega] at this
   ·rename_i h0; exact absurd h h0
  ·intro h
   have h0:f i y=0:=h 0 y rfl
   rw [if_pos h0]
   refine (fe_all (l:=r) (i:=i+1)).2 fun j x hj => ?_
   have:=h (j+1) x (by simpa using hj)
   rwa [show i+(j+1)=i+1+j by omega] at this
theorem thr_all {p:Prog} : ∀ {l:List Thread} {i:Nat},(thrGo p i l).1=0 <-> ∀ (j:Nat) (x:Thread),l[j]? = some x->(threadErr p (i+j) x).1=0
 | [],i=>by simp [thrGo]
 | y::r,i=>by
  rw [thrGo]
  constructor
  ·intro h j x hj
   split at h
   ·rename_i h0
    cases j with
    | zero=>simp at hj; subst hj; exact h0
    | succ j =>
     have:=(thr_all (l:=r) (i:=i+1)).1 h j x (by simpa using hj)
     rwa [show i+1+j=i+(j+1) by omega] at this
   ·rename_i h0; exact absurd h h0
  ·intro h
   have h0:(threadErr p i y).1=0:=h 0 y rfl
   rw [if_pos h0]
   refine (thr_all (l:=r) (i:=i+1)).2 fun j x hj => ?_
   have:=h (j+1) x (by simpa using hj)
   rwa [show i+(j+1)=i+1+j by omega] at this
abbrev Prog.ok (p:Prog):Prop:=(validM p).1=0
structure Rules (p:Prog):Prop where
 lim:(limitsM p).1=0
 cells : ∀ (i:Nat) (c:Cell),p.cells[i]? = some c->cellErr p i c=0
 modules : ∀ (i:Nat) (m:Contract),p.modules[i]? = some m->modErr p i m=0
 locks : ∀ (i:Nat) (l:Lock),p.locks[i]? = some l->lockErr p i l=0
 threads : ∀ (i:Nat) (x:Thread),p.threads[i]? = some x->(threadErr p i x).1=0
theorem ok_iff {p:Prog}:p.ok<->Rules p:=by
 unfold Prog.ok validM
 constructor
 ·intro h
  split at h
  ·rename_i h0; exact absurd h h0
  ·rename_i h0
   split at h
   ·rename_i h1; exact absurd h h1
   ·rename_i h1
    split at h
    ·rename_i h2; exact absurd h h2
    ·rename_i h2
     split at h
     ·rename_i h3; exact absurd h h3
     ·rename_i h3
      simp only [Decidable.not_not] at h0 h1 h2 h3
      exact ⟨h0,by simpa [cellsM,fe_all] using h1,by simpa [modulesM,fe_all] using h2,by simpa [locksM,fe_all] using h3,by simpa [thr_all] using h⟩
 ·rintro ⟨h0,h1,h2,h3,h4⟩
  have g1:cellsM p=0:=by unfold cellsM; rw [fe_all]; simpa using h1
  have g2:modulesM p=0:=by unfold modulesM; rw [fe_all]; simpa using h2
  have g3:locksM p=0:=by unfold locksM; rw [fe_all]; simpa using h3
  rw [if_neg (by simpa using h0),if_neg (by simpa using g1),if_neg (by simpa using g2),if_neg (by simpa using g3),thr_all]
  simpa using h4
theorem cellErr_iff {p:Prog} {i:Nat} {c:Cell}:cellErr p i c=0<->cellBad p c=false/\(p.cells.take i).any (fun d=>d.name.toList==c.name.toList)=false:=by
 unfold cellErr
 cases cellBad p c <;> cases (p.cells.take i).any (fun d=>d.name.toList==c.name.toList) <;> simp
theorem modErr_iff {p:Prog} {i:Nat} {m:Contract}:modErr p i m=0<->(isLabel m.name=true/\isLabel m.owner=true)/\(p.modules.take i).any (fun d=>d.name.toList==m.name.toList)=false /\
 ((m.rely.absent=true\/truthOk p m.rely true (-1)=true)/\truthOk p m.guar true (-1)=true)/\rising m.frame=true/\m.frame.all (ofThread p (-1))=true:=by
 unfold modErr
 cases isLabel m.name <;> cases isLabel m.owner <;> cases (p.modules.take i).any (fun d=>d.name.toList==m.name.toList) <;> cases m.rely.absent <;> cases truthOk p m.rely true (-1) <;> cases truthOk p m.guar true (-1) <;>
  cases rising m.frame <;> cases m.frame.all (ofThread p (-1)) <;> simp
theorem lockErr_iff {p:Prog} {i:Nat} {l:Lock}:lockErr p i l=0<->(ofThread p (-1) l.cell=true/\cellIs p l.cell (fun x=>decide (x.w=1))=true/\cellIs p l.cell Cell.ghost=false/\inR l.module p.modules.length=true) /\
 (p.locks.take i).any (fun d=>decide (d.cell=l.cell))=false/\truthOk p l.inv false (-1)=true:=by
 unfold lockErr
 cases ofThread p (-1) l.cell <;> cases cellIs p l.cell (fun x=>decide (x.w=1)) <;> cases cellIs p l.cell Cell.ghost <;> cases inR l.module p.modules.length <;> cases (p.locks.take i).any (fun d=>decide (d.cell=l.cell)) <;>
  cases truthOk p l.inv false (-1) <;> simp
theorem setErr_iff {p:Prog} {set:List Assign} {i:Nat} {a:Assign}:setErr p set i a=0<->(inR a.cell p.cells.length=true/\(set.take i).any (fun b=>decide (b.cell=a.cell))=false)/\a.to.valid p.cells false=true/\cellIs p a.cell (fun x=>decide (a.to.w=x.w))=true:=by
 unfold setErr
 cases inR a.cell p.cells.length <;> cases (set.take i).any (fun b=>decide (b.cell=a.cell)) <;> cases a.to.valid p.cells false <;> cases cellIs p a.cell (fun x=>decide (a.to.w=x.w)) <;> simp
theorem stepErr_iff {p:Prog} {t n:Int} {s:Step}:stepErr p t n s=0<->stepBad p n s=false/\(s.guard.valid p.cells false=true/\s.guard.w=1)/\(∀ (j:Nat) (a:Assign),s.set[j]? = some a->setErr p s.set j a=0)/\kindOk p t s=true:=by
 unfold stepErr
 have hfe:(feGo (setErr p s.set) 0 s.set).1=0 <-> ∀ (j:Nat) (a:Assign),s.set[j]? = some a->setErr p s.set j a=0:=by rw [fe_all]; simp
 cases stepBad p n s
 ·cases s.guard.valid p.cells false
  ·simp
  ·by_cases hw:s.guard.w=1
   ·simp only [hw,ne_eq,not_true_eq_false,decide_false,Bool.not_true,Bool.or_false,Bool.false_eq_true,if_false,true_and]
    by_cases h0:(feGo (setErr p s.set) 0 s.set).1=0
    ·rw [if_neg (by simpa using h0)]
     have:=hfe.1 h0
     cases kindOk p t s <;> simp_all
    ·rw [if_pos h0]
     constructor
     ·intro h; exact absurd h h0
     ·intro h; exact absurd (hfe.2 h.1) h0
   ·simp [hw]
 ·simp
theorem loopErr_iff {p:Prog} {t n:Int} {l:Loop}:loopErr p t n l=0<->(inR l.head n=true/\rising l.body=true/\l.body.all (fun k=>inR k n&&decide (k≠l.head))=true)/\l.variant.valid p.cells false=true/\overOk p l.variant true t=true:=by
 unfold loopErr
 cases inR l.head n <;> cases rising l.body <;> cases l.body.all (fun k=>inR k n&&decide (k≠l.head)) <;> cases l.variant.valid p.cells false <;> cases overOk p l.variant true t <;> simp
theorem threadErr_iff {p:Prog} {i:Nat} {x:Thread}:(threadErr p i x).1=0<->isLabel x.name=true/\(p.threads.take i).any (fun d=>d.name.toList==x.name.toList)=false/\(1<=x.points/\(x.asserts.length:Int)=x.points/\(x.modules.length:Int)=x.points) /\
 x.modules.all (fun m=>inR m p.modules.length)=true/\x.asserts.all (fun e=>truthOk p e false i)=true/\(∀ (j:Nat) (s:Step),x.steps[j]? = some s->stepErr p i x.points s=0)/\(∀ (j:Nat) (l:Loop),x.loops[j]? = some l->loopErr p i x.points l=0):=by
 unfold threadErr
 have hs:(feGo (fun _ s=>stepErr p i x.points s) 0 x.steps).1=0 <-> ∀ (j:Nat) (s:Step),x.steps[j]? = some s->stepErr p i x.points s=0:=by rw [fe_all]
 have hl:(feGo (fun _ l=>loopErr p i x.points l) 0 x.loops).1=0 <-> ∀ (j:Nat) (l:Loop),x.loops[j]? = some l->loopErr p i x.points l=0:=by rw [fe_all]
 rw [<- hs, <- hl]
 cases isLabel x.name
 ·simp
 ·cases (p.threads.take i).any (fun d=>d.name.toList==x.name.toList)
  ·by_cases h1:x.points<1 \/ ¬ (x.asserts.length:Int)=x.points \/ ¬ (x.modules.length:Int)=x.points
   ·simp only [Bool.not_true,Bool.false_eq_true,if_false,if_pos h1]
    constructor
    ·intro h; cases h
    ·rintro ⟨_,_,h,_⟩; omega
   ·have h1' : 1<=x.points/\(x.asserts.length:Int)=x.points/\(x.modules.length:Int)=x.points:=by omega
    simp only [Bool.not_true,Bool.false_eq_true,if_false,if_neg h1]
    cases x.modules.all (fun m=>inR m p.modules.length)
    ·simp
    ·cases x.asserts.all (fun e=>truthOk p e false i)
     ·simp
     ·by_cases h0:(feGo (fun _ s=>stepErr p i x.points s) 0 x.steps).1=0
      ·simp [h0,h1']
      ·simp [h0,h1']
  ·simp
theorem limits_iff {p:Prog}:(limitsM p).1=0<->(p.cells.length<=32/\p.modules.length<=6/\p.locks.length<=4/\p.threads.length<=4) /\ ∀ x∈p.threads,x.points<=48/\x.steps.length<=64/\x.loops.length<=8:=by
 unfold limitsM
 split
 ·rename_i h
  constructor
  ·intro h; cases h
  ·rintro ⟨h',_⟩; omega
 ·rename_i h
  rw [fe_all]
  constructor
  ·intro h2
   refine ⟨by omega,fun x hx => ?_⟩
   obtain ⟨j,hj,rfl⟩:=List.mem_iff_getElem.1 hx
   have:=h2 j _ (List.getElem?_eq_getElem hj)
   cases hb:threadBad p.threads[j]
   ·simp only [threadBad,Bool.or_eq_false_iff,decide_eq_false_iff_not] at hb
    omega
   ·simp [hb] at this
  ·rintro ⟨_,h2⟩ j x hx
   have:=h2 x (List.mem_of_getElem? hx)
   have hb:threadBad x=false:=by
    simp only [threadBad,Bool.or_eq_false_iff,decide_eq_false_iff_not]; omega
   simp [hb]
end Rg
end
section
set_option maxRecDepth 100000
namespace Rg
open Go
def lineT (ws:List (List UInt8)):List UInt8:=Go.Lib.join ws [32]++[10]
theorem join_len (ws:List (List UInt8)):(Go.Lib.join ws [32]).length<=(ws.map List.length).sum+ws.length:=by
 cases ws with
 | nil=>simp [Go.Lib.join_nil]
 | cons x r =>
  rw [Go.Lib.join_length]
  have:Go.Lib.lens (x::r)=((x::r).map List.length).sum:=rfl
  rw [this]
  simp only [List.length_cons,List.length_nil]
  omega
theorem lineT_len (ws:List (List UInt8)):(lineT ws).length<=(ws.map List.length).sum+ws.length+1:=by
 have:=join_len ws
 simp only [lineT,List.length_append,List.length_cons,List.length_nil]; omega
def rowsW (ws:List (List UInt8)):List (List V):=ws.map fun x=>[.t (.str (bs x))]
theorem rowsW_len (ws:List (List UInt8)):(rowsW ws).length=ws.length:=by simp [rowsW]
theorem rowsW_app (a b:List (List UInt8)):rowsW (a++b)=rowsW a++rowsW b:=by simp [rowsW]
theorem rowsW_all (ws:List (List UInt8)):((rowsW ws).all fun r=>decide (r.length=1))=true:=by simp [rowsW]
theorem rowsW_mapM (h:Nat->Option O) (d:Nat) (ws:List (List UInt8)):(rowsW ws).mapM (fun row=>row.mapM (toT h d))=some (ws.map fun x=>[.str (bs x)]):=by
 have e:rowsW ws=(ws.map fun x=>[T.str (bs x)]).map (·.map V.t):=by simp [rowsW]
 rw [e,rows_toT h d _ (by
  intro e he t ht
  obtain ⟨x,_,rfl⟩:=List.mem_map.1 he
  simp at ht; subst ht; rfl)]
theorem rowsW_take (ws:List (List UInt8)):List.take ws.length (rowsW ws)=rowsW ws:=List.take_of_length_le (by rw [rowsW_len]; exact Nat.le_refl _)
theorem strsOf_map (ws:List (List UInt8)):strsOf (ws.map fun x=>[T.str (bs x)])=some (ws.map bs):=by
 induction ws with
 | nil=>rfl
 | cons x r ih=>simp only [List.map_cons,strsOf,ih,Option.map_some]
theorem join_den (ws:List (List UInt8)) (h:(Go.Lib.join ws [32]).length<=140737488355328) (h2:ws.length<=140737488355328) :
 Den Γ G 259 [.t (.sl (ws.map fun x=>[.str (bs x)])), .t (.str (bs [32]))]=some (.t (.str (bs (Go.Lib.join ws [32])))):=by
 refine den_ext (e:=.joinS) Γ259 rfl rfl ?_
 have e:joinB (ws.map bs) (bs [32])=bs (Go.Lib.join ws [32]):=by
  unfold joinB
  rw [List.map_map]
  have:(fun x:ByteArray=>x.data.toList) ∘ bs=id:=by funext x; exact bs_list x
  rw [this,List.map_id]
  rfl
 show (strsOf _).bind _=_
 rw [strsOf_map]
 simp only [Option.bind_some,e]
 rw [if_pos ⟨by simpa using h2,by rw [bs_size]; exact h⟩]
theorem line_den {h:Nat->Option O} {n kb kw:Nat} {l:List UInt8} {ws:List (List UInt8)} {fz:Bool} (hk:h kw=some (.rows 1 (rowsW ws) fz)) (hb:Bld h kb l) (hn:Fresh h n)
 (hl:l.length+(ws.map List.length).sum+ws.length+1<=1099511627776) :
 ∃ r h' n',DenR Γ G 241 [.mp kb 0 0, .ms kw 0 ws.length] h n=some (r,h',n')/\(r = .tup []/\Bld h' kb (l++lineT ws)/\KeepR h h' /\ n<=n' /\ Fresh h' n'):=by
 have hj:=join_len ws
 have h1:=join_den ws (by omega) (by omega)
 have h2:=fun d=>rowsW_mapM h d ws
 (refine denR_ofY Γ241 rfl ?_; dsimp only [f241])
 simp -dsimp -implicitDefEqProofs only [go_sem,seval,hk,rowsW_len,Nat.le_refl,rowsW_take,h2,h1]
 refine rawK_of (bldS_den (s:=bs (Go.Lib.join ws [32])) hb (hn.mono (by first | omega | (simp only [addC_eq]; omega))) (by rw [bs_size]; omega)) ?_
 rintro r h3 n3 ⟨hb3,hk3,hn3,hf3⟩
 rw [bs_list] at hb3
 simp -dsimp -implicitDefEqProofs only [go_sem,seval]
 refine rawK_of (bldB_den (z:=10) hb3 (hf3.mono (by first | omega | (simp only [addC_eq]; omega) | exact addC_le _ _)) (by omega) (by rw [List.length_append]; omega)) ?_
 rintro r h4 n4 ⟨hb4,hk4,hn4,hf4⟩
 simp -dsimp -implicitDefEqProofs only [go_sem,seval]
 refine ⟨rfl, ?_,hk3.trans hk4,by (try simp only [addC_eq] at hn3); (try simp only [addC_eq] at hn4); omega,hf4⟩
 have e10:UInt8.ofNat (Int.toNat 10)=10:=rfl
 rw [e10] at hb4
 simpa only [lineT,List.append_assoc] using hb4
theorem flagT_den (b:Bool):Den Γ G 242 [vb b]=some (.t (.str (bs (if b then [49] else [48])))):=by
 (refine den_ofY Γ242 rfl ?_; dsimp only [f242])
 cases b <;> simp -dsimp -implicitDefEqProofs only [go_sem,seval]
theorem putA_appC {h:Nat->Option O} {q sz bytes k0 n0:Nat} {a b:List (List V)} {K:V->List (Nat×O)->Prop} {w:WK K}
 (hh:h k0=some (.rows sz a false)) (hn:n0=a.length) (hlen:a.length+b.length<=2^32) (hby:bytes<=2^12) (hb:(b.all fun r=>decide (r.length=sz))=true) (ha:(a.all fun r=>decide (r.length=sz))=true) (hne:b≠[])
 (hK : ∀ hp,hpC h hp=updC (updC h k0 (some .dead)) q (some (.rows sz (a++b) false))->K (.ms q 0 (a++b).length) hp) :
 putA false (appS h q sz bytes (.ms k0 0 n0) a b) K w:=by
 subst hn
 unfold appS
 rw [if_pos ⟨⟨hlen,hby⟩,hb,ha⟩]
 cases b with
 | nil=>exact absurd rfl hne
 | cons r b =>
  simp only [List.isEmpty_cons,Bool.false_eq_true,if_false,hh,and_self,if_true,putA_some,appRows_self]
  have:=hK [(k0, .dead),(q, .rows sz (a++r::b) false)] (by simp [hpC_cons,hpC_nil])
  simpa only [List.length_append] using this
def inI (z:Int):Prop := -9223372036854775808<=z/\z<=9223372036854775807
theorem with_den {h:Nat->Option O} {n kw:Nat} {ws:List (List UInt8)} {fl:List Int} (hk:h kw=some (.rows 1 (rowsW ws) false)) (hn:Fresh h n) (hi : ∀ z∈fl,inI z) (hl:ws.length+fl.length<2^30) :
 ∃ r h' n',DenR Γ G 244 [.ms kw 0 ws.length, .t (ints fl)] h n=some (r,h',n')/\(∃ k,r = .ms k 0 (ws++fl.map num).length/\h' k=some (.rows 1 (rowsW (ws++fl.map num)) false)/\(∀ j,j<n->j≠kw->h' j=h j)/\n<=n' /\ Fresh h' n'):=by
 (refine denR_ofY Γ244 rfl ?_; dsimp only [f244])
 simp -dsimp -implicitDefEqProofs only [go_sem,seval]
 have hkn:kw<n:=by
  rcases Nat.lt_or_ge kw n with h0 | h0
  ·exact h0
  ·have:=hn kw h0; rw [hk] at this; cases this
 refine loopYH 523841 fl.length (fun i f hh x=>(f 9).v=vi i/\(∃ k,(f 0).v = .ms k 0 (rowsW (ws++(fl.take i).map num)).length/\k<x/\hh k=some (.rows 1 (rowsW (ws++(fl.take i).map num)) false)/\(k=kw\/n<=k))/\(∀ j,j<n->j≠kw->hh j=h j)/\n<=x/\Fresh hh x) rfl ?_ ?_
 ·refine ⟨by simp -dsimp -implicitDefEqProofs only [go_sem,seval],⟨kw, ?_, ?_, ?_, .inl rfl⟩,fun _ _ _=>rfl, ?_, ?_⟩
  ·simp -dsimp -implicitDefEqProofs only [go_sem,seval,List.take_zero,List.map_nil,List.append_nil,rowsW_len]
  ·simp only [addC_eq]; omega
  ·simpa using hk
  ·simp only [addC_eq]; omega
  ·exact hn.mono (by simp only [addC_eq]; omega)
 rintro i f u hh x bq hi2 ⟨h9,⟨k,h0,hkx,hkk,hor⟩,hkeep,hnx,hfx⟩
 have hw:=wrapS i (by omega)
 simp -dsimp -implicitDefEqProofs only [go_sem,seval,h9]
 refine csplit (fun h => ?_) (fun h => ?_) <;> (try simp only [bools] at h) <;> (try simp -dsimp -implicitDefEqProofs only [go_sem,seval,h9, *])
 ·obtain ⟨z,hz,hzm⟩:=get_of ‹i<fl.length›
  have hi3:=itoa_den z (hi z hzm)
  have hx1:=take_succ_of hz
  have hll:(fl.take i).length<=fl.length:=by simp; omega
  simp -dsimp -implicitDefEqProofs only [go_sem,seval,h9,h0,hz,hi3,hkk,ne_add hkx,ne_add2 hkx,ne_add3 hkx,List.take_length,Nat.le_refl]
  have hne7:k≠x+1+3+3:=by omega
  have hup:updC hh (x+1+3+3) (some (O.rows 1 [[V.t (T.str (bs (num z)))]] false)) k=some (.rows 1 (rowsW (ws++(fl.take i).map num)) false):=by rw [updC_at,if_neg hne7]; exact hkk
  refine putA_appC hup rfl (by rw [rowsW_len,List.length_append,List.length_map]; simp; omega) (by decide) rfl (rowsW_all _) (by simp) ?_
  intro hp hph
  have he:rowsW (ws++(fl.take i).map num)++[[V.t (T.str (bs (num z)))]]=rowsW (ws++(fl.take (i+1)).map num):=by
   rw [hx1,List.map_append, <- List.append_assoc,rowsW_app (ws++_)]; rfl
  rw [he] at hph ⊢
  simp -dsimp -implicitDefEqProofs only [go_sem,seval,h9,hw]
  refine ⟨by omega,by simp -dsimp -implicitDefEqProofs only [go_sem,seval,hw],⟨x+1+3+4,by simp -dsimp -implicitDefEqProofs only [go_sem,seval], ?_,by simp -dsimp -implicitDefEqProofs only [go_sem,seval,hph],by omega⟩,fun j hj hjk => ?_, ?_,fun q hq => ?_⟩
  ·simp only [addC_eq,List.length_cons,List.length_nil]; omega
  ·simp -dsimp -implicitDefEqProofs only [go_sem,seval,hph]
   have hjk2:j≠k:=by rintro rfl; rcases hor with rfl | h0 <;> first | exact hjk rfl | omega
   rw [if_neg (by omega),if_neg hjk2,if_neg (by omega)]
   exact hkeep j hj hjk
  ·simp only [addC_eq]; omega
  ·simp -dsimp -implicitDefEqProofs only [go_sem,seval,hph]
   simp only [addC_eq,List.length_cons,List.length_nil] at hq
   rw [if_neg (by omega),if_neg (by omega),if_neg (by omega)]
   exact hfx q (by omega)
 ·have:i=fl.length:=by omega
  subst this
  rw [List.take_length] at h0 hkk
  refine ⟨k, ?_,hkk,hkeep,by simp only [addC_eq]; omega,hfx.mono (by simp only [addC_eq]; omega)⟩
  simp -dsimp -implicitDefEqProofs only [go_sem,seval,h0,rowsW_len]
  rw [List.take_length]
end Rg
end
section
set_option maxRecDepth 100000
namespace Rg
open Go
def flagT (b:Bool):List UInt8:=if b then [49] else [48]
abbrev byt (s:ByteArray):List UInt8:=s.data.toList
def relyT (e:Expr):List UInt8:=if e.absent then [110,111,110,101] else e.text
def cellW (c:Cell):List (List UInt8):=[[99,101,108,108],byt c.name,num c.w,num c.init,num c.thread,flagT c.ghost,num c.module]
def modW (m:Contract):List (List UInt8):=[[109,111,100,117,108,101],byt m.name,byt m.owner,relyT m.rely,m.guar.text]
def lockW (l:Lock):List (List UInt8):=[[108,111,99,107],num l.cell,l.inv.text,num l.module]
def headW (x:Thread):List (List UInt8):=[[116,104,114,101,97,100],byt x.name,flagT x.asleep]
def pointW (q:Int×Expr):List (List UInt8):=[[112,111,105,110,116],num q.1,q.2.text]
def setW (a:Assign):List (List UInt8):=[num a.cell,a.to.text]
def stepW (s:Step):List (List UInt8):=[[115,116,101,112],num s.kind,num s.fr,num s.to,s.guard.text,flagT s.release,num s.target,num s.module]
def loopW (l:Loop):List (List UInt8):=[[108,111,111,112],num l.head,l.variant.text]
def cellT (c:Cell):List UInt8:=lineT (cellW c)
def modT (m:Contract):List UInt8:=lineT (modW m++m.frame.map num)
def lockT (l:Lock):List UInt8:=lineT (lockW l)
def pointT (q:Int×Expr):List UInt8:=lineT (pointW q)
def stepT (s:Step):List UInt8:=lineT (stepW s++s.set.flatMap setW)
def loopX (l:Loop):List UInt8:=lineT (loopW l++l.body.map num)
def threadT (x:Thread):List UInt8:=lineT (headW x)++(x.modules.zip x.asserts).flatMap pointT++x.steps.flatMap stepT++x.loops.flatMap loopX
def textM (p:Prog):List UInt8:=p.cells.flatMap cellT++p.modules.flatMap modT++p.locks.flatMap lockT++p.threads.flatMap threadT
def textP (p:Prog):List UInt8:=if (validM p).1=0 then textM p else []
structure Prog.few (p:Prog):Prop where
 frame : ∀ m∈p.modules,m.frame.length<=60
 sets : ∀ x∈p.threads, ∀ s∈x.steps,s.set.length<=40
 body : ∀ x∈p.threads, ∀ l∈x.loops,l.body.length<=60
theorem flagT_len (b:Bool):(flagT b).length=1:=by cases b <;> rfl
theorem relyT_len (e:Expr):(relyT e).length<=36000:=by
 unfold relyT
 split
 ·simp
 ·exact text_len e
theorem label_len {b:ByteArray} (h:isLabel b=true):(byt b).length<=64:=by
 unfold isLabel at h
 simp only [Bool.and_eq_true,decide_eq_true_eq] at h
 have:(byt b).length=b.size:=by rw [Array.length_toList]; rfl
 omega
theorem sum_map_le (l:List (List UInt8)) (K:Nat) (h : ∀ x∈l,x.length<=K):(l.map List.length).sum<=l.length*K:=by
 induction l with
 | nil=>simp
 | cons a r ih =>
  have h1:=h a (by simp)
  have h2:=ih fun x hx=>h x (by simp [hx])
  simp only [List.map_cons,List.sum_cons,List.length_cons,Nat.add_mul]; omega
theorem flatMap_len {α:Type} (f:α->List UInt8) (l:List α) (K:Nat) (h : ∀ x∈l,(f x).length<=K):(l.flatMap f).length<=l.length*K:=by
 induction l with
 | nil=>simp
 | cons a r ih =>
  have h1:=h a (by simp)
  have h2:=ih fun x hx=>h x (by simp [hx])
  simp only [List.flatMap_cons,List.length_append,List.length_cons,Nat.add_mul]; omega
theorem flatMap_take {α:Type} (f:α->List UInt8) (l:List α) (i:Nat):((l.take i).flatMap f).length<=(l.flatMap f).length:=by
 conv=>rhs; rw [<- List.take_append_drop i l,List.flatMap_append,List.length_append]
 omega
theorem flatMap_succ {α β:Type} (f:α->List β) {l:List α} {i:Nat} {x:α} (h:l[i]? = some x):(l.take (i+1)).flatMap f=(l.take i).flatMap f++f x:=by
 rw [take_succ_of h,List.flatMap_append]; simp
theorem inR_inI {z n:Int} (h:inR z n=true) (hn:n<=1000):inI z:=by
 unfold inR at h
 simp only [decide_eq_true_eq] at h
 unfold inI; omega
structure Nums (p:Prog):Prop where
 cell : ∀ c∈p.cells,isLabel c.name=true/\inI c.w/\inI c.init/\inI c.thread/\inI c.module
 mods : ∀ m∈p.modules,isLabel m.name=true/\isLabel m.owner=true /\ ∀ z∈m.frame,inI z
 lock : ∀ l∈p.locks,inI l.cell/\inI l.module
 thr : ∀ x∈p.threads,isLabel x.name=true/\x.asserts.length<=48/\x.modules.length=x.asserts.length/\x.steps.length<=64/\x.loops.length<=8/\(∀ z∈x.modules,inI z) /\
  (∀ s∈x.steps,inI s.kind/\inI s.fr/\inI s.to/\inI s.target/\inI s.module /\ ∀ a∈s.set,inI a.cell) /\ ∀ l∈x.loops,inI l.head /\ ∀ z∈l.body,inI z
 lens:p.cells.length<=32/\p.modules.length<=6/\p.locks.length<=4/\p.threads.length<=4
theorem ofThread_rng {p:Prog} {t c:Int} (h:ofThread p t c=true):0<=c/\c<p.cells.length:=by
 unfold ofThread at h
 simp only [Bool.and_eq_true,decide_eq_true_eq] at h
 refine ⟨h.1, ?_⟩
 rcases hx:p.cells[c.toNat]? with _ | x
 ·rw [hx] at h; simp at h
 ·have:=(List.getElem?_eq_some_iff.1 hx).1
  omega
theorem kind_target {p:Prog} {t n:Int} {s:Step} (hb:stepBad p n s=false) (hk:kindOk p t s=true):s.target=0\/inR s.target p.threads.length=true:=by
 unfold stepBad at hb
 simp only [Bool.or_eq_false_iff,Bool.and_eq_false_iff,decide_eq_false_iff_not,Bool.not_eq_false',Bool.or_eq_true,decide_eq_true_eq,ne_eq,Decidable.not_not] at hb
 obtain ⟨⟨⟨⟨⟨⟨b1,b2⟩,b3⟩,b4⟩,b5⟩,b6⟩,b7⟩:=hb
 rcases b7 with h | h
 ·exact .inl h
 ·right
  unfold kindOk at hk
  rcases h with h | h
  ·rw [h] at hk
   simp [joinOk] at hk
   exact hk.1.2
  ·rw [h] at hk
   simp [joinOk] at hk
   exact hk.2
theorem nums_of {p:Prog} (h:p.ok):Nums p:=by
 obtain ⟨hl,hc,hm,hk,ht⟩:=ok_iff.1 h
 obtain ⟨⟨l1,l2,l3,l4⟩,l5⟩:=limits_iff.1 hl
 refine ⟨fun c hcm => ?_,fun m hmm => ?_,fun l hlm => ?_,fun x hxm => ?_,⟨l1,l2,l3,l4⟩⟩
 ·obtain ⟨i,hi,rfl⟩:=List.mem_iff_getElem.1 hcm
  obtain ⟨b1,b2,b3,b4,b5,b6,b7,b8⟩:=cellBad_parts (cellErr_iff.1 (hc i _ (List.getElem?_eq_getElem hi))).1
  have hp:(2:Int)^(p.cells[i]).w.toNat<=2^8:=pow2_le (by omega)
  have hp' : (2:Int)^8=256:=rfl
  refine ⟨b1, ?_, ?_, ?_,inR_inI b8 (by omega)⟩ <;> (unfold inI; omega)
 ·obtain ⟨i,hi,rfl⟩:=List.mem_iff_getElem.1 hmm
  obtain ⟨⟨b1,b2⟩,_,_,_,b5⟩:=modErr_iff.1 (hm i _ (List.getElem?_eq_getElem hi))
  refine ⟨b1,b2,fun z hz => ?_⟩
  have:=ofThread_rng (List.all_eq_true.1 b5 z hz)
  unfold inI; omega
 ·obtain ⟨i,hi,rfl⟩:=List.mem_iff_getElem.1 hlm
  obtain ⟨⟨b1,_,_,b4⟩,_⟩:=lockErr_iff.1 (hk i _ (List.getElem?_eq_getElem hi))
  have:=ofThread_rng b1
  exact ⟨by unfold inI; omega,inR_inI b4 (by omega)⟩
 ·have hx5:=l5 x hxm
  obtain ⟨i,hi,rfl⟩:=List.mem_iff_getElem.1 hxm
  obtain ⟨b1,_,b3,b4,_,b6,b7⟩:=threadErr_iff.1 (ht i _ (List.getElem?_eq_getElem hi))
  refine ⟨b1,by omega,by omega,by omega,by omega,fun z hz=>inR_inI (List.all_eq_true.1 b4 z hz) (by omega),fun s hs => ?_,fun l hl => ?_⟩
  ·obtain ⟨j,hj,rfl⟩:=List.mem_iff_getElem.1 hs
   obtain ⟨c1,_,c3,c4⟩:=stepErr_iff.1 (b6 j _ (List.getElem?_eq_getElem hj))
   have htg:=kind_target c1 c4
   unfold stepBad at c1
   simp only [Bool.or_eq_false_iff,Bool.and_eq_false_iff,decide_eq_false_iff_not,Bool.not_eq_false',Bool.or_eq_true,decide_eq_true_eq,ne_eq,Decidable.not_not] at c1
   obtain ⟨⟨⟨⟨⟨⟨d1,d2⟩,d3⟩,d4⟩,d5⟩,_⟩,_⟩:=c1
   refine ⟨by unfold inI; omega,inR_inI d3 (by omega),inR_inI d4 (by omega), ?_,inR_inI d5 (by omega),fun a ha => ?_⟩
   ·rcases htg with h | h
    ·rw [h]; unfold inI; omega
    ·exact inR_inI h (by omega)
   ·obtain ⟨q,hq,rfl⟩:=List.mem_iff_getElem.1 ha
    exact inR_inI (setErr_iff.1 (c3 q _ (List.getElem?_eq_getElem hq))).1.1 (by omega)
  ·obtain ⟨j,hj,rfl⟩:=List.mem_iff_getElem.1 hl
   obtain ⟨⟨c1,_,c3⟩,_⟩:=loopErr_iff.1 (b7 j _ (List.getElem?_eq_getElem hj))
   refine ⟨inR_inI c1 (by omega),fun z hz => ?_⟩
   have:=List.all_eq_true.1 c3 z hz
   simp only [Bool.and_eq_true] at this
   exact inR_inI this.1 (by omega)
end Rg
end
section
set_option maxRecDepth 100000
namespace Rg
open Go
theorem Bld.updF {h:Nat->Option O} {k q:Nat} {l:List UInt8} {o:Option O} (hb:Bld h k l) (hq:h q=none):Bld (updC h q o) k l:=by
 rcases hb with ⟨h1,h2⟩ | ⟨g,h1,h2,h3⟩
 ·exact .inl ⟨by rw [updC_at,if_neg (by rintro rfl; rw [hq] at h1; cases h1)]; exact h1,h2⟩
 ·refine .inr ⟨g, ?_, ?_,h3⟩
  ·rw [updC_at,if_neg (by rintro rfl; rw [hq] at h1; cases h1)]; exact h1
  ·rw [updC_at,if_neg (by rintro rfl; rw [hq] at h2; cases h2)]; exact h2
theorem KeepR.updF {h:Nat->Option O} {q:Nat} {o:Option O} (hq:h q=none):KeepR h (updC h q o):=by
 intro k o' hk ho
 rw [updC_at,if_neg (by rintro rfl; rw [hq] at hk; cases hk)]; exact hk
theorem Bld.updR {h:Nat->Option O} {k q:Nat} {l:List UInt8} {o o' : Option O} (hb:Bld h k l) (hq:h q=o') (ho : ∀ x,o' ≠ some (.raw x)):Bld (updC h q o) k l:=by
 subst hq
 rcases hb with ⟨h1,h2⟩ | ⟨g,h1,h2,h3⟩
 ·exact .inl ⟨by rw [updC_at,if_neg (by rintro rfl; exact ho _ h1)]; exact h1,h2⟩
 ·refine .inr ⟨g, ?_, ?_,h3⟩
  ·rw [updC_at,if_neg (by rintro rfl; exact ho _ h1)]; exact h1
  ·rw [updC_at,if_neg (by rintro rfl; exact ho _ h2)]; exact h2
theorem Fresh.lt {h:Nat->Option O} {n k:Nat} {o:O} (hf:Fresh h n) (hk:h k=some o):k<n:=by
 rcases Nat.lt_or_ge k n with h0 | h0
 ·exact h0
 ·have:=hf k h0; rw [hk] at this; cases this
theorem Bld.frame {h h' : Nat->Option O} {k:Nat} {l:List UInt8} (hb:Bld h k l) (hf : ∀ j x,h j=some (.raw x)->h' j=h j):Bld h' k l:=by
 rcases hb with ⟨h1,h2⟩ | ⟨g,h1,h2,h3⟩
 ·exact .inl ⟨by rw [hf k _ h1]; exact h1,h2⟩
 ·exact .inr ⟨g,by rw [hf k _ h1]; exact h1,by rw [hf g _ h2]; exact h2,h3⟩
theorem withF_den {h:Nat->Option O} {n m kb q:Nat} {l:List UInt8} (ws:List (List UInt8)) (fl:List Int) (hb:Bld h kb l) (hn:Fresh h n) (hq:n<=q/\q<m) (hi : ∀ z∈fl,inI z) (hl:ws.length+fl.length<2^30) :
 ∃ r h' n',DenR Γ G 244 [.ms q 0 ws.length, .t (ints fl)] (updC h q (some (.rows 1 (rowsW ws) false))) m=some (r,h',n') /\
  (∃ k,r = .ms k 0 (ws++fl.map num).length/\h' k=some (.rows 1 (rowsW (ws++fl.map num)) false)/\Bld h' kb l/\KeepR h h' /\ m<=n' /\ Fresh h' n'):=by
 have hfr:=(hn.mono (m:=m) (by omega)).upd (k:=q) (o:=.rows 1 (rowsW ws) false) hq.2
 obtain ⟨r,h',n',h1,k,h2,h3,h4,h5,h6⟩:=with_den (h:=updC h q (some (.rows 1 (rowsW ws) false))) (n:=m) (kw:=q) (ws:=ws) (fl:=fl) (by rw [updC_at,if_pos rfl]) hfr hi hl
 refine ⟨r,h',n',h1,k,h2,h3, ?_,fun j o hj ho => ?_,h5,h6⟩
 ·refine (hb.updF (o:=some (.rows 1 (rowsW ws) false)) (hn q hq.1)).frame fun j x hj=>h4 j (hfr.lt hj) ?_
  rintro rfl
  rw [updC_at,if_pos rfl] at hj; cases hj
 ·have hjn:=hn.lt hj
  rw [h4 j (by omega) (by omega),updC_at,if_neg (by omega)]; exact hj
theorem lineF_den {h:Nat->Option O} {n m kb q:Nat} {l:List UInt8} (ws:List (List UInt8)) (hb:Bld h kb l) (hn:Fresh h n) (hq:n<=q/\q<m) (hl:l.length<=549755813888) (hw:(ws.map List.length).sum+ws.length<=549755813887) :
 ∃ r h' n',DenR Γ G 241 [.mp kb 0 0, .ms q 0 ws.length] (updC h q (some (.rows 1 (rowsW ws) false))) m=some (r,h',n')/\(r = .tup []/\Bld h' kb (l++lineT ws)/\KeepR h h' /\ m<=n' /\ Fresh h' n'):=by
 obtain ⟨r,h',n',h1,h2,h3,h4,h5,h6⟩:=line_den (h:=updC h q (some (.rows 1 (rowsW ws) false))) (n:=m) (kb:=kb) (kw:=q) (l:=l) (ws:=ws) (fz:=false) (by rw [updC_at,if_pos rfl]) (hb.updF (hn q hq.1)) ((hn.mono (by omega)).upd hq.2) (by omega)
 exact ⟨r,h',n',h1,h2,h3,(KeepR.updF (hn q hq.1)).trans h4,h5,h6⟩
theorem head_sum (x:Thread) (h:isLabel x.name=true):((headW x).map List.length).sum+(headW x).length<=1000:=by
 have:=label_len h
 simp only [headW,List.map_cons,List.map_nil,List.sum_cons,List.sum_nil,List.length_cons,List.length_nil,flagT_len]
 omega
theorem point_sum (q:Int×Expr) (h:inI q.1):((pointW q).map List.length).sum+(pointW q).length<=40000:=by
 have h1:=num_len q.1 h
 have h2:=text_len q.2
 simp only [pointW,List.map_cons,List.map_nil,List.sum_cons,List.sum_nil,List.length_cons,List.length_nil]
 omega
structure ThrOk (x:Thread):Prop where
 name:isLabel x.name=true
 al:x.asserts.length<=48
 ml:x.modules.length=x.asserts.length
 sl:x.steps.length<=64
 ll:x.loops.length<=8
 mi : ∀ z∈x.modules,inI z
 st : ∀ s∈x.steps,inI s.kind/\inI s.fr/\inI s.to/\inI s.target/\inI s.module/\(∀ a∈s.set,inI a.cell)/\s.set.length<=40
 lp : ∀ l∈x.loops,inI l.head/\(∀ z∈l.body,inI z)/\l.body.length<=60
theorem words_sum (ws:List (List UInt8)) (K:Nat) (h : ∀ w∈ws,w.length<=K):(ws.map List.length).sum+ws.length<=ws.length*(K+1):=by
 have:=sum_map_le ws K h
 rw [Nat.mul_add]; omega
theorem stepW_le {s:Step} (h:inI s.kind/\inI s.fr/\inI s.to/\inI s.target/\inI s.module/\(∀ a∈s.set,inI a.cell)/\s.set.length<=40) : ∀ w∈stepW s,w.length<=36000:=by
 have h1:=num_len s.kind h.1
 have h2:=num_len s.fr h.2.1
 have h3:=num_len s.to h.2.2.1
 have h4:=num_len s.target h.2.2.2.1
 have h5:=num_len s.module h.2.2.2.2.1
 have h6:=text_len s.guard
 have h7:=flagT_len s.release
 intro w hw
 simp only [stepW,List.mem_cons,List.not_mem_nil,or_false] at hw
 rcases hw with rfl | rfl | rfl | rfl | rfl | rfl | rfl | rfl <;> first | omega | simp
theorem setW_le {s:Step} (h : ∀ a∈s.set,inI a.cell) : ∀ w∈s.set.flatMap setW,w.length<=36000:=by
 intro w hw
 obtain ⟨a,ha,hw⟩:=List.mem_flatMap.1 hw
 have h1:=num_len a.cell (h a ha)
 have h6:=text_len a.to
 simp only [setW,List.mem_cons,List.not_mem_nil,or_false] at hw
 rcases hw with rfl | rfl <;> omega
theorem setW_len (l:List Assign):(l.flatMap setW).length=2*l.length:=by
 induction l with
 | nil=>rfl
 | cons a r ih=>simp only [List.flatMap_cons,List.length_append,ih,List.length_cons,setW,List.length_nil]; omega
theorem step_sum {s:Step} (h:inI s.kind/\inI s.fr/\inI s.to/\inI s.target/\inI s.module/\(∀ a∈s.set,inI a.cell)/\s.set.length<=40) :
 ((stepW s++s.set.flatMap setW).map List.length).sum+(stepW s++s.set.flatMap setW).length<=10000000:=by
 have h1:=words_sum (stepW s++s.set.flatMap setW) 36000 (fun w hw=>by
  rcases List.mem_append.1 hw with hw | hw
  ·exact stepW_le h w hw
  ·exact setW_le h.2.2.2.2.2.1 w hw)
 have h2:(stepW s++s.set.flatMap setW).length<=88:=by
  rw [List.length_append,setW_len]
  have:(stepW s).length=8:=rfl
  omega
 have h3:(stepW s++s.set.flatMap setW).length*(36000+1)<=88*(36000+1):=Nat.mul_le_mul_right _ h2
 omega
theorem wthread_den {x:Thread} (hx:ThrOk x) {h0:Nat->Option O} {n kb:Nat} {l:List UInt8} (hb:Bld h0 kb l) (hn:Fresh h0 n) (hl:l.length+(threadT x).length<=549755813888) :
 ∃ r h' n',DenR Γ G 245 [.mp kb 0 0,(.agg [.t (.str (x).name), .t (ti (x).points), .t (.sl ((x).asserts.map Expr.enc)), .t (ints (x).modules), .t (.sl ((x).steps.map Step.enc)), .t (.sl ((x).loops.map Loop.enc)), .t (tb (x).asleep)])] h0 n=some (r,h',n')/\(r = .tup []/\Bld h' kb (l++threadT x)/\KeepR h0 h' /\ n<=n' /\ Fresh h' n'):=by
 have hfl:=flagT_den x.asleep
 have hsum:=head_sum x hx.name
 have htl:(threadT x).length=(lineT (headW x)).length+((x.modules.zip x.asserts).flatMap pointT).length+(x.steps.flatMap stepT).length+(x.loops.flatMap loopX).length:=by
  simp only [threadT,List.length_append]
 (refine denR_ofY Γ245 rfl ?_; dsimp only [f245])
 simp -dsimp -implicitDefEqProofs only [go_sem,seval,hfl]
 refine rawK_of (lineF_den (headW x) hb hn (by omega) (by omega) (by omega)) ?_
 rintro r h1 n1 ⟨rfl,hb1,hk1,hn1,hf1⟩
 simp -dsimp -implicitDefEqProofs only [go_sem,seval]
 have hzl:(x.modules.zip x.asserts).length=x.asserts.length:=by rw [List.length_zip,hx.ml]; simp
 have hal:=hx.al
 have hsl:=hx.sl
 have hll:=hx.ll
 refine loopYH 8796059467872 x.asserts.length (fun i f hh y=>(f 25).v=vi i/\Bld hh kb (l++lineT (headW x)++((x.modules.zip x.asserts).take i).flatMap pointT)/\KeepR h0 hh/\n<=y/\Fresh hh y) rfl ?_ ?_
 ·exact ⟨by simp -dsimp -implicitDefEqProofs only [go_sem,seval],by simpa using hb1,hk1,by simp only [addC_eq]; omega,hf1.mono (by simp only [addC_eq]; omega)⟩
 clear hb1 hk1 hf1 hn1
 rintro i f u hh y bq hi ⟨h25,hb1,hk1,hny,hf1⟩
 have hw:=wrapS i (by omega)
 simp -dsimp -implicitDefEqProofs only [go_sem,seval,h25]
 refine csplit (fun h => ?_) (fun h => ?_) <;> (try rw [h]) <;> (try simp only [bools] at h) <;> (try simp -dsimp -implicitDefEqProofs only [go_sem,seval,h25])
 ·obtain ⟨e,he,hem⟩:=get_of ‹i<x.asserts.length›
  obtain ⟨m,hm,hmm⟩:=get_of (show i<x.modules.length by rw [hx.ml]; exact ‹i<x.asserts.length›)
  have i1:=itoa_den m (hx.mi m hmm)
  have t1:=textP_den e
  have hz:(x.modules.zip x.asserts)[i]? = some (m,e):=by rw [List.getElem?_zip_eq_some]; exact ⟨hm,he⟩
  have hfs:=flatMap_succ pointT hz
  have hft:=flatMap_take pointT (x.modules.zip x.asserts) i
  have hps:=point_sum (m,e) (hx.mi m hmm)
  simp -dsimp -implicitDefEqProofs only [go_sem,seval,h25,he,hm,i1,t1]
  refine rawK_of (lineF_den (pointW (m,e)) hb1 hf1 (by omega) (by simp only [List.length_append]; omega) (by omega)) ?_
  rintro r h2 n2 ⟨rfl,hb2,hk2,hn2,hf2⟩
  simp -dsimp -implicitDefEqProofs only [go_sem,seval,h25,hw]
  refine ⟨by omega,by simp -dsimp -implicitDefEqProofs only [go_sem,seval,hw], ?_,hk1.trans hk2,by simp only [addC_eq]; omega,hf2.mono (by simp only [addC_eq]; omega)⟩
  rw [hfs,show pointT (m,e)=lineT (pointW (m,e)) from rfl]
  simpa only [List.append_assoc] using hb2
 ·have:i=x.asserts.length:=by omega
  subst this
  rw [<- hzl,List.take_length] at hb1
  generalize hp0:l++lineT (headW x)++(x.modules.zip x.asserts).flatMap pointT=pre at hb1
  have hprel:pre.length=l.length+(lineT (headW x)).length+((x.modules.zip x.asserts).flatMap pointT).length:=by rw [<- hp0]; simp only [List.length_append]
  refine loopYH 633825300114114630379607427840 x.steps.length (fun i f hh y=>(f 46).v=vi i/\Bld hh kb (pre++(x.steps.take i).flatMap stepT)/\KeepR h0 hh/\n<=y/\Fresh hh y) rfl ?_ ?_
  ·exact ⟨by simp -dsimp -implicitDefEqProofs only [go_sem,seval],by simpa using hb1,hk1,by simp only [addC_eq]; omega,hf1.mono (by simp only [addC_eq]; omega)⟩
  clear hb1 hk1 hf1 h25 hny
  rintro i f1 u1 hh1 y1 bq1 hi1 ⟨h46,hb1,hk1,hny,hf1⟩
  have hw:=wrapS i (by omega)
  simp -dsimp -implicitDefEqProofs only [go_sem,seval,h46]
  refine csplit (fun h => ?_) (fun h => ?_) <;> (try rw [h]) <;> (try simp only [bools] at h) <;> (try simp -dsimp -implicitDefEqProofs only [go_sem,seval,h46])
  ·obtain ⟨s,hs,hsm⟩:=get_of ‹i<x.steps.length›
   have hst:=hx.st s hsm
   have i1:=itoa_den s.kind hst.1
   have i2:=itoa_den s.fr hst.2.1
   have i3:=itoa_den s.to hst.2.2.1
   have i4:=itoa_den s.target hst.2.2.2.1
   have i5:=itoa_den s.module hst.2.2.2.2.1
   have t1:=textP_den s.guard
   have f1' := flagT_den s.release
   have hsum2:=step_sum hst
   have hfs:=flatMap_succ stepT hs
   have hft:=flatMap_take stepT x.steps i
   simp -dsimp -implicitDefEqProofs only [go_sem,seval,h46,hs,i1,i2,i3,i4,i5,t1,f1']
   refine loopYH 39612872331312554167597271552 s.set.length (fun j f hh y=>(f 80).v=vi j/\(∃ k,(f 9).v = .ms k 0 (rowsW (stepW s++(s.set.take j).flatMap setW)).length/\hh k=some (.rows 1 (rowsW (stepW s++(s.set.take j).flatMap setW)) false)/\k<y/\y1<=k) /\
    Bld hh kb (pre++(x.steps.take i).flatMap stepT)/\KeepR hh1 hh/\y1<=y/\Fresh hh y) rfl ?_ ?_
   ·refine ⟨by simp -dsimp -implicitDefEqProofs only [go_sem,seval],⟨y1+1+4+26,by simp -dsimp -implicitDefEqProofs only [go_sem,seval]; rfl,by simp -dsimp -implicitDefEqProofs only [go_sem,seval]; rfl,by simp only [addC_eq,List.length_cons,List.length_nil]; omega,by omega⟩, ?_, ?_,by simp only [addC_eq]; omega, ?_⟩
    ·simp -dsimp -implicitDefEqProofs only [go_sem,seval]
     exact hb1.updF (hf1 _ (by omega))
    ·simp -dsimp -implicitDefEqProofs only [go_sem,seval]
     exact KeepR.updF (hf1 _ (by omega))
    ·intro q hq
     simp only [addC_eq,List.length_cons,List.length_nil] at hq
     simp -dsimp -implicitDefEqProofs only [go_sem,seval]
     rw [if_neg (by omega)]
     exact hf1 q (by omega)
   clear hb1
   rintro j f2 u2 hh2 y2 bq2 hj ⟨h80,⟨k,h9,hkk,hk2,hky⟩,hb2,hkr,hyy,hf2⟩
   have hwj:=wrapS j (by omega)
   simp -dsimp -implicitDefEqProofs only [go_sem,seval,h80]
   refine csplit (fun h => ?_) (fun h => ?_) <;> (try rw [h]) <;> (try simp only [bools] at h) <;> (try simp -dsimp -implicitDefEqProofs only [go_sem,seval,h80])
   ·obtain ⟨a,ha,ham⟩:=get_of ‹j<s.set.length›
    have i6:=itoa_den a.cell (hst.2.2.2.2.2.1 a ham)
    have t2:=textP_den a.to
    have hfs2:=flatMap_succ setW ha
    simp -dsimp -implicitDefEqProofs only [go_sem,seval,h80,h9,ha,i6,t2,hkk,ne_add hk2,ne_add2 hk2,ne_add3 hk2,List.take_length,Nat.le_refl]
    have hne1:k≠y2+1+4+8:=by omega
    have hup:updC hh2 (y2+1+4+8) (some (O.rows 1 [[V.t (T.str (bs (num a.cell)))],[V.t (T.str (bs a.to.text))]] false)) k=some (.rows 1 (rowsW (stepW s++(s.set.take j).flatMap setW)) false):=by rw [updC_at,if_neg hne1]; exact hkk
    have h88:(stepW s++(s.set.take j).flatMap setW).length<=88:=by
     rw [List.length_append,setW_len,List.length_take]
     have:(stepW s).length=8:=rfl
     omega
    refine putA_appC hup rfl (by rw [rowsW_len]; simp only [List.length_cons,List.length_nil]; omega) (by decide) rfl (rowsW_all _) (by simp) ?_
    intro hp hph
    have he:rowsW (stepW s++(s.set.take j).flatMap setW)++[[V.t (T.str (bs (num a.cell)))],[V.t (T.str (bs a.to.text))]]=rowsW (stepW s++(s.set.take (j+1)).flatMap setW):=by
     rw [hfs2, <- List.append_assoc,rowsW_app (stepW s++_)]; rfl
    rw [he] at hph ⊢
    simp -dsimp -implicitDefEqProofs only [go_sem,seval,h80,hwj]
    refine ⟨by omega,by simp -dsimp -implicitDefEqProofs only [go_sem,seval,hwj],⟨y2+1+4+9,by simp -dsimp -implicitDefEqProofs only [go_sem,seval],by simp -dsimp -implicitDefEqProofs only [go_sem,seval,hph],by simp only [addC_eq,List.length_cons,List.length_nil]; omega,by omega⟩, ?_,fun q o hq ho => ?_,by simp only [addC_eq]; omega,fun q hq => ?_⟩
    ·simp -dsimp -implicitDefEqProofs only [go_sem,seval,hph]
     exact ((hb2.updF (hf2 _ (by omega))).updR hup (by simp)).updF (by rw [updC_at,if_neg (by omega),updC_at,if_neg (by omega)]; exact hf2 _ (by omega))
    ·have hqy:=hf1.lt hq
     simp -dsimp -implicitDefEqProofs only [go_sem,seval,hph]
     rw [if_neg (by omega),if_neg (by omega),if_neg (by omega)]
     exact hkr q o hq ho
    ·simp only [addC_eq,List.length_cons,List.length_nil] at hq
     simp -dsimp -implicitDefEqProofs only [go_sem,seval,hph]
     rw [if_neg (by omega),if_neg (by omega),if_neg (by omega)]
     exact hf2 q (by omega)
   ·have:j=s.set.length:=by omega
    subst this
    rw [rowsW_len] at h9
    rw [List.take_length] at h9 hkk
    simp -dsimp -implicitDefEqProofs only [go_sem,seval,h9]
    refine rawK_of (line_den (ws:=stepW s++s.set.flatMap setW) (fz:=false) hkk hb2 (hf2.mono (by omega)) (by simp only [List.length_append] at hsum2 ⊢; omega)) ?_
    rintro r h3 n3 ⟨rfl,hb3,hk3,hn3,hf3⟩
    simp -dsimp -implicitDefEqProofs only [go_sem,seval,h46,hw]
    refine ⟨by omega,by simp -dsimp -implicitDefEqProofs only [go_sem,seval,hw], ?_,fun k o hk ho=>hk3 k o (hkr k o (hk1 k o hk ho) ho) ho,by simp only [addC_eq]; omega,hf3.mono (by simp only [addC_eq]; omega)⟩
    rw [hfs,show stepT s=lineT (stepW s++s.set.flatMap setW) from rfl]
    simpa only [List.append_assoc] using hb3
  ·have:i=x.steps.length:=by omega
   subst this
   rw [List.take_length] at hb1
   generalize hp1:pre++x.steps.flatMap stepT=pre1 at hb1
   have hprel1:pre1.length=pre.length+(x.steps.flatMap stepT).length:=by rw [<- hp1]; simp only [List.length_append]
   refine loopYH 1329222925182514959986201073467531264 x.loops.length (fun i f hh y=>(f 102).v=vi i/\Bld hh kb (pre1++(x.loops.take i).flatMap loopX)/\KeepR h0 hh/\n<=y/\Fresh hh y) rfl ?_ ?_
   ·exact ⟨by simp -dsimp -implicitDefEqProofs only [go_sem,seval],by simpa using hb1,hk1,by simp only [addC_eq]; omega,hf1.mono (by simp only [addC_eq]; omega)⟩
   clear hb1 hk1 hf1 h46 hny
   rintro i f3 u3 hh3 y3 bq3 hi3 ⟨h102,hb1,hk1,hny,hf1⟩
   have hw:=wrapS i (by omega)
   simp -dsimp -implicitDefEqProofs only [go_sem,seval,h102]
   refine csplit (fun h => ?_) (fun h => ?_) <;> (try rw [h]) <;> (try simp only [bools] at h) <;> (try simp -dsimp -implicitDefEqProofs only [go_sem,seval,h102])
   ·obtain ⟨q,hq,hqm⟩:=get_of ‹i<x.loops.length›
    have hlp:=hx.lp q hqm
    have i1:=itoa_den q.head hlp.1
    have t1:=textP_den q.variant
    have hfs:=flatMap_succ loopX hq
    have hft:=flatMap_take loopX x.loops i
    simp -dsimp -implicitDefEqProofs only [go_sem,seval,h102,hq,i1,t1]
    have hls:((loopW q++q.body.map num).map List.length).sum+(loopW q++q.body.map num).length<=10000000:=by
     have e1:=words_sum (loopW q++q.body.map num) 36000 (fun w hw=>by
      have n1:=num_len q.head hlp.1
      have n2:=text_len q.variant
      rcases List.mem_append.1 hw with hw | hw
      ·simp only [loopW,List.mem_cons,List.not_mem_nil,or_false] at hw
       rcases hw with rfl | rfl | rfl <;> first | omega | simp
      ·obtain ⟨z,hz,rfl⟩:=List.mem_map.1 hw
       have:=num_len z (hlp.2.1 z hz); omega)
     have e2:(loopW q++q.body.map num).length<=63:=by
      rw [List.length_append,List.length_map]
      have:(loopW q).length=3:=rfl
      omega
     have e3:(loopW q++q.body.map num).length*(36000+1)<=63*(36000+1):=Nat.mul_le_mul_right _ e2
     omega
    refine rawK_of (withF_den (loopW q) q.body hb1 hf1 (by omega) hlp.2.1 (by have:(loopW q).length=3:=rfl; omega)) ?_
    rintro r h2 n2 ⟨k,rfl,hk2,hb2,hkr2,hn2,hf2⟩
    simp -dsimp -implicitDefEqProofs only [go_sem,seval]
    refine rawK_of (line_den (ws:=loopW q++q.body.map num) (fz:=false) hk2 hb2 (hf2.mono (by omega)) (by simp only [List.length_append] at hls ⊢; omega)) ?_
    rintro r h3 n3 ⟨rfl,hb3,hk3,hn3,hf3⟩
    simp -dsimp -implicitDefEqProofs only [go_sem,seval,h102,hw]
    refine ⟨by omega,by simp -dsimp -implicitDefEqProofs only [go_sem,seval,hw], ?_,(hk1.trans hkr2).trans hk3,by simp only [addC_eq]; omega,hf3.mono (by simp only [addC_eq]; omega)⟩
    rw [hfs,show loopX q=lineT (loopW q++q.body.map num) from rfl]
    simpa only [List.append_assoc] using hb3
   ·have:i=x.loops.length:=by omega
    subst this
    rw [List.take_length] at hb1
    refine ⟨rfl, ?_,hk1,by simp only [addC_eq]; omega,hf1.mono (by simp only [addC_eq]; omega)⟩
    rw [<- hp1, <- hp0] at hb1
    simpa only [threadT,List.append_assoc] using hb1
end Rg
end
