/- Part of the proof of the laws of the package relyguardlaw07: an abstract machine for the program's functions, what they compute, and that the machine is the program's. No condition. (H36d H32b H32d) -/
import Derived.Test.YtamaecmfhphpeaaGreatDoorPartBG
import Derived.Test.YtamaecmfhphpeaaGreatDoorPartBD
set_option linter.unusedSimpArgs false
set_option linter.unusedVariables false
section
set_option maxRecDepth 100000
namespace Rg
open Go
theorem tau_get {to:List Int} {c:Int} (h0:0<=c) (h1:c<to.length):to[c.toNat]? = some (tau to c):=by
 have:=tau_in (to:=to) (i:=c.toNat) (by omega)
 rw [show ((c.toNat:Nat):Int)=c by omega] at this
 rw [List.getElem?_eq_getElem (by omega),this]
def rowsCl (l:List Cell):List (List V):=(l.map Cell.enc).map (·.map V.t)
theorem rowsCl_zero (n:Nat):rowsCl (List.replicate n cell0)=List.replicate n [.t (.str (bs [])), .t (ti 0), .t (ti 0), .t (ti 0), .t (tb false), .t (ti 0)]:=by simp [rowsCl,Cell.enc,cell0]
theorem rowsCl_at {l:List Cell} {i:Nat} {c:Cell} (h:l[i]? = some c):(rowsCl l)[i]? = some [.t (.str c.name), .t (ti c.w), .t (ti c.init), .t (ti c.thread), .t (tb c.ghost), .t (ti c.module)]:=by simp [rowsCl,h,Cell.enc]
theorem rowsCl_put (l:List Cell) (i:Nat) (c:Cell):(rowsCl l).set i [.t (.str c.name), .t (ti c.w), .t (ti c.init), .t (ti c.thread), .t (tb c.ghost), .t (ti c.module)]=rowsCl (l.set i c):=by simp [rowsCl,List.map_set,Cell.enc]
def inF (to fr:List Int) (k:Nat):Bool:=fr.any fun c=>decide (tau to c=(k:Int))
def markF (n:Nat) (to fr:List Int):List Bool:=(List.range n).map (inF to fr)
def frameUp (to fr:List Int) (k:Nat):List Int:=((List.range k).filter (inF to fr)).map fun k:Nat=>(k:Int)
theorem markF_nil (n:Nat) (to:List Int):rowsB (markF n to [])=List.replicate n [.t (tb false)]:=by
 have:markF n to []=List.replicate n false:=by
  unfold markF
  rw [show inF to []=fun _=>false from rfl,List.map_const',List.length_range]
 rw [this]; simp [rowsB]
theorem markF_set {n:Nat} {to fr:List Int} {j:Nat} {c:Int} (h:fr[j]? = some c) (h0:0<=tau to c) (h1:tau to c<n):(markF n to (fr.take j)).set (tau to c).toNat true=markF n to (fr.take (j+1)):=by
 rw [take_succ_of h]
 apply List.ext_getElem?
 intro k
 rw [List.getElem?_set]
 unfold markF
 simp only [List.getElem?_map,List.getElem?_range,List.length_map,List.length_range]
 by_cases hk:k<n
 ·by_cases hik:(tau to c).toNat=k
  ·subst hik
   have:inF to (fr.take j++[c]) (tau to c).toNat=true:=by
    unfold inF; rw [List.any_append]; simp; omega
   simp [hk,this]
  ·have:inF to (fr.take j++[c]) k=inF to (fr.take j) k:=by
    unfold inF; rw [List.any_append]
    have:decide (tau to c=(k:Int))=false:=by simp; omega
    simp [this]
   simp [hik,hk,this]
 ·by_cases hik:(tau to c).toNat=k
  ·omega
  ·simp [hik,hk]
theorem markF_at {n:Nat} (to fr:List Int) {k:Nat} (h:k<n):(rowsB (markF n to fr))[k]? = some [.t (tb (inF to fr k))]:=by simp [rowsB,markF,h]
theorem frameUp_succ (to fr:List Int) (k:Nat):frameUp to fr (k+1)=frameUp to fr k++if inF to fr k then [(k:Int)] else []:=by
 unfold frameUp
 rw [List.range_succ,List.filter_append,List.map_append]
 cases h:inF to fr k <;> simp [h]
theorem frameUp_len (to fr:List Int) (k:Nat):(frameUp to fr k).length<=k:=by
 unfold frameUp
 rw [List.length_map]
 refine Nat.le_trans (List.length_filter_le _ _) (by simp)
theorem mod_row {h2:Nat->Option O} (n:Nat) (to:List Int) (m:Contract) {vf:V} (hvf:toT h2 999 vf=some (ints (frameM n to m.frame))) :
 ([.t (.str m.name), .t (.str m.owner), .t (ti (m.rely.mv to).op), .t (ti (m.rely.mv to).w), .t (ti (m.rely.mv to).n), .t (.sl ((m.rely.mv to).kids.map Expr.enc)), .t (ti (m.guar.mv to).op), .t (ti (m.guar.mv to).w), .t (ti (m.guar.mv to).n), .t (.sl ((m.guar.mv to).kids.map Expr.enc)),vf]:List V).mapM (toT h2 999)=some (m.mv n to).enc:=by
 simp [toT_t,T.norm,hvf,Contract.enc,Contract.mv,Expr.enc_eq]
def rowsLk (to:List Int) (l:List Lock):List (List V):=(l.map fun k=>(k.mv to).enc).map (·.map V.t)
theorem rowsLk_len (to:List Int) (l:List Lock):(rowsLk to l).length=l.length:=by simp [rowsLk]
theorem rowsLk_all (to:List Int) (l:List Lock):((rowsLk to l).all fun r=>decide (r.length=6))=true:=by simp [rowsLk,Lock.enc,Expr.enc_eq]
theorem rowsLk_succ (to:List Int) {l:List Lock} {i:Nat} {x:Lock} (h:l[i]? = some x):rowsLk to (l.take (i+1))=rowsLk to (l.take i)++[(x.mv to).enc.map V.t]:=by
 unfold rowsLk; rw [take_succ_of h]; simp
theorem lockRow (to:List Int) (l:Lock):([.t (ti (tau to l.cell)), .t (ti (l.inv.mv to).op), .t (ti (l.inv.mv to).w), .t (ti (l.inv.mv to).n), .t (.sl ((l.inv.mv to).kids.map Expr.enc)), .t (ti l.module)]:List V)=(l.mv to).enc.map V.t:=by
 simp [Lock.enc,Lock.mv,Expr.enc_eq]
def modsE (n:Nat) (to:List Int) (l:List Contract):List (List T):=l.map fun m=>(m.mv n to).enc
theorem modsE_len (n:Nat) (to:List Int) (l:List Contract):(modsE n to l).length=l.length:=by simp [modsE]
theorem modsE_succ (n:Nat) (to:List Int) {l:List Contract} {i:Nat} {x:Contract} (h:l[i]? = some x):modsE n to (l.take (i+1))=modsE n to (l.take i)++[(x.mv n to).enc]:=by
 unfold modsE; rw [take_succ_of h,List.map_append]; rfl
def stepsE (to:List Int) (l:List Step):List (List T):=l.map fun m=>(m.mv to).enc
theorem stepsE_len (to:List Int) (l:List Step):(stepsE to l).length=l.length:=by simp [stepsE]
theorem stepsE_succ (to:List Int) {l:List Step} {i:Nat} {x:Step} (h:l[i]? = some x):stepsE to (l.take (i+1))=stepsE to (l.take i)++[(x.mv to).enc]:=by
 unfold stepsE; rw [take_succ_of h,List.map_append]; rfl
def thrE (to:List Int) (l:List Thread):List (List T):=l.map fun m=>(m.mv to).enc
theorem thrE_len (to:List Int) (l:List Thread):(thrE to l).length=l.length:=by simp [thrE]
theorem thrE_succ (to:List Int) {l:List Thread} {i:Nat} {x:Thread} (h:l[i]? = some x):thrE to (l.take (i+1))=thrE to (l.take i)++[(x.mv to).enc]:=by
 unfold thrE; rw [take_succ_of h,List.map_append]; rfl
def rowsSt (to:List Int) (l:List Assign):List (List V):=(l.map fun k=>(k.mv to).enc).map (·.map V.t)
theorem rowsSt_len (to:List Int) (l:List Assign):(rowsSt to l).length=l.length:=by simp [rowsSt]
theorem rowsSt_all (to:List Int) (l:List Assign):((rowsSt to l).all fun r=>decide (r.length=5))=true:=by simp [rowsSt,Assign.enc,Expr.enc_eq]
theorem rowsSt_succ (to:List Int) {l:List Assign} {i:Nat} {x:Assign} (h:l[i]? = some x):rowsSt to (l.take (i+1))=rowsSt to (l.take i)++[(x.mv to).enc.map V.t]:=by
 unfold rowsSt; rw [take_succ_of h]; simp
theorem setRow (to:List Int) (a:Assign):([.t (ti (tau to a.cell)), .t (ti (a.to.mv to).op), .t (ti (a.to.mv to).w), .t (ti (a.to.mv to).n), .t (.sl ((a.to.mv to).kids.map Expr.enc))]:List V)=(a.mv to).enc.map V.t:=by
 simp [Assign.enc,Assign.mv,Expr.enc_eq]
def rowsLp (to:List Int) (l:List Loop):List (List V):=(l.map fun k=>(k.mv to).enc).map (·.map V.t)
theorem rowsLp_len (to:List Int) (l:List Loop):(rowsLp to l).length=l.length:=by simp [rowsLp]
theorem rowsLp_all (to:List Int) (l:List Loop):((rowsLp to l).all fun r=>decide (r.length=6))=true:=by simp [rowsLp,Loop.enc,Expr.enc_eq]
theorem rowsLp_succ (to:List Int) {l:List Loop} {i:Nat} {x:Loop} (h:l[i]? = some x):rowsLp to (l.take (i+1))=rowsLp to (l.take i)++[(x.mv to).enc.map V.t]:=by
 unfold rowsLp; rw [take_succ_of h]; simp
theorem loopRow (to:List Int) (l:Loop):([.t (ti l.head), .t (ints l.body), .t (ti (l.variant.mv to).op), .t (ti (l.variant.mv to).w), .t (ti (l.variant.mv to).n), .t (.sl ((l.variant.mv to).kids.map Expr.enc))]:List V)=(l.mv to).enc.map V.t:=by
 simp [Loop.enc,Loop.mv,Expr.enc_eq]
theorem rowsSt_eq (to:List Int) (l:List Assign):rowsSt to l=((l.map (Assign.mv to)).map Assign.enc).map (·.map V.t):=by unfold rowsSt; simp only [List.map_map]; rfl
theorem rowsLp_eq (to:List Int) (l:List Loop):rowsLp to l=((l.map (Loop.mv to)).map Loop.enc).map (·.map V.t):=by unfold rowsLp; simp only [List.map_map]; rfl
theorem rowsLk_eq (to:List Int) (l:List Lock):rowsLk to l=((l.map (Lock.mv to)).map Lock.enc).map (·.map V.t):=by unfold rowsLk; simp only [List.map_map]; rfl
theorem rowsM_eq (to:List Int) (l:List Expr):rowsM to l=((l.map (Expr.mv to)).map Expr.enc).map (·.map V.t):=by unfold rowsM; simp only [List.map_map]; rfl
theorem stepsE_eq (to:List Int) (l:List Step):stepsE to l=(l.map (Step.mv to)).map Step.enc:=by unfold stepsE; rw [List.map_map (l:=l)]; rfl
theorem thrE_eq (to:List Int) (l:List Thread):thrE to l=(l.map (Thread.mv to)).map Thread.enc:=by unfold thrE; rw [List.map_map (l:=l)]; rfl
theorem modsE_eq (n:Nat) (to:List Int) (l:List Contract):modsE n to l=(l.map (Contract.mv n to)).map Contract.enc:=by unfold modsE; rw [List.map_map (l:=l)]; rfl
theorem step_row {h2:Nat->Option O} (to:List Int) (s:Step) {vs:V} (hv:toT h2 998 vs=some (.sl ((s.set.map (Assign.mv to)).map Assign.enc))) :
 ([.t (ti s.kind), .t (ti s.fr), .t (ti s.to), .t (ti (s.guard.mv to).op), .t (ti (s.guard.mv to).w), .t (ti (s.guard.mv to).n), .t (.sl ((s.guard.mv to).kids.map Expr.enc)),vs, .t (tb s.release), .t (ti s.target), .t (ti s.module)]:List V).mapM (toT h2 998)=some (s.mv to).enc:=by
 simp [toT_t,T.norm,hv,Step.enc,Step.mv,Expr.enc_eq]
theorem thr_row {h2:Nat->Option O} (to:List Int) (x:Thread) {va vs vl:V} (ha:toT h2 999 va=some (.sl ((x.asserts.map (Expr.mv to)).map Expr.enc))) (hs:toT h2 999 vs=some (.sl ((x.steps.map (Step.mv to)).map Step.enc)))
 (hl:toT h2 999 vl=some (.sl ((x.loops.map (Loop.mv to)).map Loop.enc))):([.t (.str x.name), .t (ti x.points),va, .t (ints x.modules),vs,vl, .t (tb x.asleep)]:List V).mapM (toT h2 999)=some (x.mv to).enc:=by
 simp [toT_t,T.norm,ha,hs,hl,Thread.enc,Thread.mv]
theorem norm_map {α:Type} (f:α->List T) (hf : ∀ x, ∀ t∈f x,T.norm t=t) (l:List α) : ∀ e∈l.map f, ∀ t∈e,T.norm t=t:=by
 intro e he t ht
 obtain ⟨x,_,rfl⟩:=List.mem_map.1 he
 exact hf x t ht
theorem norm_assign : ∀ s:Assign, ∀ t∈s.enc,T.norm t=t:=by
 intro s t ht
 simp only [Assign.enc,Expr.enc_eq,List.mem_cons,List.not_mem_nil,or_false] at ht
 rcases ht with rfl | rfl | rfl | rfl | rfl <;> rfl
theorem norm_exprL : ∀ s:Expr, ∀ t∈s.enc,T.norm t=t:=by
 intro s t ht
 simp only [Expr.enc_eq,List.mem_cons,List.not_mem_nil,or_false] at ht
 rcases ht with rfl | rfl | rfl | rfl <;> rfl
theorem norm_loopL : ∀ s:Loop, ∀ t∈s.enc,T.norm t=t:=by
 intro s t ht
 simp only [Loop.enc,Expr.enc_eq,List.cons_append,List.nil_append,List.mem_cons,List.not_mem_nil,or_false] at ht
 rcases ht with rfl | rfl | rfl | rfl | rfl | rfl <;> rfl
theorem renumber_den (p:Prog) (hs:p.SmallP 40) (hok:p.ok) (to:List Int) (hp:PermN p.cells.length to):Den Γ G 234 [(.agg [.t (.sl ((p).cells.map (Cell.enc))), .t (.sl ((p).modules.map (Contract.enc))), .t (.sl ((p).locks.map (Lock.enc))), .t (.sl ((p).threads.map (Thread.enc)))]), .t (ints to)]=some (.agg [.t (.sl ((p.mv to).cells.map (Cell.enc))), .t (.sl ((p.mv to).modules.map (Contract.enc))), .t (.sl ((p.mv to).locks.map (Lock.enc))), .t (.sl ((p.mv to).threads.map (Thread.enc)))]):=by
 (refine den_ofY Γ234 rfl ?_; dsimp only [f234])
 have R:Ren to p.cells (p.mv to).cells:=ren_of hp
 have hl:=limits_iff.1 (ok_iff.1 hok).lim
 obtain ⟨⟨l1,l2,l3,l4⟩,l5⟩:=hl
 have hle:(p.cells.length:Int)<=4294967296:=by omega
 simp -dsimp -implicitDefEqProofs only [go_sem,seval,hle,Int.le_refl]
 refine loopYH 281474439839808 p.cells.length (fun i f h x=>(f 6).v=vi i/\h 5=some (.rows 6 (rowsCl (renUp p.cells to i)) false)/\5<x) rfl ⟨by simp -dsimp -implicitDefEqProofs only [go_sem,seval],by simp -dsimp -implicitDefEqProofs only [go_sem,seval]; rw [renUp,rowsCl_zero],by simp -dsimp -implicitDefEqProofs only [go_sem,seval]⟩ ?_
 rintro i f u H q bq hi ⟨h6,hk,hq⟩
 have hw:=wrapS i (by omega)
 simp -dsimp -implicitDefEqProofs only [go_sem,seval,h6]
 refine csplit (fun h => ?_) (fun h => ?_) <;> (try rw [h]) <;> (try simp only [bools] at h) <;> (try simp -dsimp -implicitDefEqProofs only [go_sem,seval,h6])
 ·obtain ⟨c,hc,_⟩:=get_of (show i<p.cells.length by omega)
  have hti:to[i]? = some (tau to i):=by
   have:=tau_get (to:=to) (c:=i) (by omega) (by rw [R.len]; omega)
   simpa using this
  obtain ⟨g0,g1⟩:=R.rng i (by omega) (by omega)
  have hlen:=renUp_len p.cells to i
  obtain ⟨d,hd,_⟩:=get_of (show (tau to i).toNat<(renUp p.cells to i).length by omega)
  have e1:=rowsCl_at hd
  have e2:=rowsCl_put (renUp p.cells to i) (tau to i).toNat c
  have hsucc:renUp p.cells to (i+1)=(renUp p.cells to i).set (tau to i).toNat c:=by rw [renUp,List.getD_eq_getElem?_getD,hc]; rfl
  simp -dsimp -implicitDefEqProofs only [go_sem,seval,h6,hk,hc,hti,g0,g1,e1,e2]
  exact ⟨by omega,by simp -dsimp -implicitDefEqProofs only [go_sem,seval,hw],by rw [hsucc]; simp -dsimp -implicitDefEqProofs only [go_sem,seval],by simp -dsimp -implicitDefEqProofs only [go_sem,seval]; omega⟩
 have hin:i=p.cells.length:=by omega
 rw [hin] at hk
 clear hin h6 hw hi
 have hlt:(renUp p.cells to p.cells.length).length=p.cells.length:=renUp_len _ _ _
 generalize hCS:renUp p.cells to p.cells.length=CS at hk hlt
 refine loopYH 20769187434139310513840510340173728 p.modules.length (fun i f h x=>(f 7).v=vi i/\(f 5).v = .lb /\ ∃ vm,(f 5).box=some [.ms 5 0 p.cells.length,vm, .t .nils, .t .nils]/\OwnX h 0 x vm 11 999 (modsE p.cells.length to (p.modules.take i))/\offK vm 5 /\
  h 5=some (.rows 6 (rowsCl CS) false)/\5<x) rfl ⟨by simp -dsimp -implicitDefEqProofs only [go_sem,seval],by simp -dsimp -implicitDefEqProofs only [go_sem,seval], .t .nils,by simp -dsimp -implicitDefEqProofs only [go_sem,seval],⟨[],OwnT.nil _ _ _ _ _⟩,(fun i n h=>by cases h),by simp -dsimp -implicitDefEqProofs only [go_sem,seval,hk],by simp -dsimp -implicitDefEqProofs only [go_sem,seval]; omega⟩ ?_
 clear hk hq
 rintro i f u H q bq hi ⟨h7,hb1,vm,hb2,⟨rows,hown⟩,hoff,hk,hq⟩
 have hw:=wrapS i (by omega)
 simp -dsimp -implicitDefEqProofs only [go_sem,seval,h7]
 refine csplit (fun h => ?_) (fun h => ?_) <;> (try rw [h]) <;> (try simp only [bools] at h) <;> (try simp -dsimp -implicitDefEqProofs only [go_sem,seval,h7])
 ·obtain ⟨m,hm,hmm⟩:=get_of ‹i<p.modules.length›
  simp -dsimp -implicitDefEqProofs only [go_sem,seval,h7,hm,hle,Int.le_refl]
  obtain ⟨Z,hZ⟩ : ∃ Z,Z=q+5+7+3:=⟨_,rfl⟩
  rw [<- hZ]
  have hme:=modErr_iff.1 ((ok_iff.1 hok).modules i m hm)
  have hfr : ∀ c∈m.frame,0<=c/\c<p.cells.length:=fun c hc=>ofThread_rng (List.all_eq_true.1 hme.2.2.2.2 c hc)
  have hfl:=hs.mods m hmm
  refine loopYH 2417833192485184639861760 m.frame.length (fun j f h x=>(f 10).v=vi j/\h Z=some (.rows 1 (rowsB (markF p.cells.length to (m.frame.take j))) false)/\(∀ k,k<q->h k=H k)/\Z<x) rfl ⟨by simp -dsimp -implicitDefEqProofs only [go_sem,seval], ?_,fun k hk => ?_,by simp -dsimp -implicitDefEqProofs only [go_sem,seval]; omega⟩ ?_
  ·rw [List.take_zero,markF_nil]; simp -dsimp -implicitDefEqProofs only [go_sem,seval]
  ·have hkz:(k=Z)=False:=eq_false (by omega)
   simp -dsimp -implicitDefEqProofs only [go_sem,seval,hkz]
  rintro j g u2 H2 q2 bq2 hj ⟨h10,hz,hlow,hq2⟩
  have hwj:=wrapS j (by omega)
  simp -dsimp -implicitDefEqProofs only [go_sem,seval,h10]
  refine csplit (fun h => ?_) (fun h => ?_) <;> (try rw [h]) <;> (try simp only [bools] at h) <;> (try simp -dsimp -implicitDefEqProofs only [go_sem,seval,h10])
  ·obtain ⟨c,hc,hcm⟩:=get_of (show j<m.frame.length by omega)
   obtain ⟨c0,c1⟩:=hfr c hcm
   have htc:=tau_get (to:=to) c0 (by rw [R.len]; exact c1)
   obtain ⟨t0,t1⟩:=R.rng c c0 c1
   have e1:=markF_at (n:=p.cells.length) to (m.frame.take j) (show (tau to c).toNat<p.cells.length by omega)
   have e2:=rowsB_set (markF p.cells.length to (m.frame.take j)) (tau to c).toNat
   rw [markF_set hc t0 t1] at e2
   simp -dsimp -implicitDefEqProofs only [go_sem,seval,h10,hc,c0,htc,t0,t1,hz,e1,e2]
   refine ⟨by omega,by simp -dsimp -implicitDefEqProofs only [go_sem,seval,hwj],by simp -dsimp -implicitDefEqProofs only [go_sem,seval],fun k hk => ?_,by simp -dsimp -implicitDefEqProofs only [go_sem,seval]; omega⟩
   have hkz:(k=Z)=False:=eq_false (by omega)
   simp -dsimp -implicitDefEqProofs only [go_sem,seval,hkz,hlow k hk]
  have hjm:j=m.frame.length:=by omega
  rw [hjm,List.take_length] at hz
  clear hjm h10 hwj hj
  refine loopYH 316907814353778891857476978944 p.cells.length (fun k f h x=>(f 11).v=vi k/\(f 8).v = .lb /\ ∃ vf,(f 8).box=some [.t (.str m.name), .t (.str m.owner), .t (ti m.rely.op), .t (ti m.rely.w), .t (ti m.rely.n), .t (.sl (m.rely.kids.map Expr.enc)), .t (ti m.guar.op), .t (ti m.guar.w), .t (ti m.guar.n), .t (.sl (m.guar.kids.map Expr.enc)),vf] /\
   OwnB h x vf 1 (rowsI (frameUp to m.frame k))/\(∀ j,j<q->offK vf j)/\offK vf Z/\h Z=some (.rows 1 (rowsB (markF p.cells.length to m.frame)) false)/\(∀ j,j<q->h j=H j)/\Z<x) rfl
   ⟨by simp -dsimp -implicitDefEqProofs only [go_sem,seval],by simp -dsimp -implicitDefEqProofs only [go_sem,seval], .t .nils,by simp -dsimp -implicitDefEqProofs only [go_sem,seval], .inl ⟨rfl,rfl⟩,(fun j _ i n h=>by cases h),(fun i n h=>by cases h),by simp -dsimp -implicitDefEqProofs only [go_sem,seval,hz],(fun j hj=>by simp -dsimp -implicitDefEqProofs only [go_sem,seval,hlow j hj]),by simp -dsimp -implicitDefEqProofs only [go_sem,seval]; omega⟩ ?_
  clear hz hlow hq2
  rintro k g3 u3 H3 q3 bq3 hk3 ⟨h11,hc1,vf,hc2,hof,hofq,hofZ,hz,hlow,hq3⟩
  have hwk:=wrapS k (by omega)
  simp -dsimp -implicitDefEqProofs only [go_sem,seval,h11,hz]
  refine csplit (fun h => ?_) (fun h => ?_) <;> (try rw [h]) <;> (try simp only [bools] at h) <;> (try simp -dsimp -implicitDefEqProofs only [go_sem,seval,h11,hz])
  ·have hkn:k<p.cells.length:=by omega
   have e1:=markF_at (n:=p.cells.length) to m.frame hkn
   have hfu:=frameUp_len to m.frame k
   have hsucc:=frameUp_succ to m.frame k
   have v1:=hof.valOf
   have v2:=hof.r2
   have v3:=hof.r3
   have v4:=hof.r4
   have v5:=hof.r5
   cases hb:inF to m.frame k
   ·rw [hb] at e1 hsucc
    simp only [Bool.false_eq_true,if_false,List.append_nil] at hsucc
    simp -dsimp -implicitDefEqProofs only [go_sem,seval,h11,hz,hkn,e1]
    refine ⟨hkn,by simp -dsimp -implicitDefEqProofs only [go_sem,seval,hwk],by simp -dsimp -implicitDefEqProofs only [go_sem,seval,hc1],vf,by simp -dsimp -implicitDefEqProofs only [go_sem,seval,hc2], ?_,hofq,hofZ,by simp -dsimp -implicitDefEqProofs only [go_sem,seval,hz],(fun j hj=>by simp -dsimp -implicitDefEqProofs only [go_sem,seval,hlow j hj]),by simp -dsimp -implicitDefEqProofs only [go_sem,seval]; omega⟩
    simp -dsimp -implicitDefEqProofs only [go_sem,seval,hsucc]; exact hof.le (by omega)
   ·rw [hb] at e1 hsucc
    simp only [if_true] at hsucc
    simp -dsimp -implicitDefEqProofs only [go_sem,seval,h11,hz,hkn,e1,hc1,hc2,v1,v2,v3,v4,v5]
    refine putA_app1 (hof.upd (by omega) _) (by omega) (by rw [rowsI_len]; omega) (by decide) rfl (rowsI_all _) ?_
    intro v hp hO hoffs hkeep
    have w1:=hO.valOf
    have w2:=ownB_cells hO
    simp only [V.cells] at w2
    rw [<- rowsI_app, <- hsucc] at hO
    have hz2:=hkeep Z (by omega) hofZ
    rw [updC_at,if_neg (by omega),hz] at hz2
    have hlow2 : ∀ j,j<q->_:=fun j hj=>(hkeep j (by omega) (hofq j hj)).trans ((by rw [updC_at,if_neg (by omega)]):_=H3 j)
    simp -dsimp -implicitDefEqProofs only [go_sem,seval,w1,w2,h11,hc1,hc2]
    refine ⟨hkn,by simp -dsimp -implicitDefEqProofs only [go_sem,seval,hwk],by simp -dsimp -implicitDefEqProofs only [go_sem,seval,hc1],v,by simp -dsimp -implicitDefEqProofs only [go_sem,seval], ?_,fun j hj=>hoffs j (by omega),hoffs Z (by omega),by simp -dsimp -implicitDefEqProofs only [go_sem,seval,hz2],(fun j hj=>by have hl3:=(hlow2 j hj).trans (hlow j hj); simp -dsimp -implicitDefEqProofs only [go_sem,seval,hl3]),by simp -dsimp -implicitDefEqProofs only [go_sem,seval]; omega⟩
    simp -dsimp -implicitDefEqProofs only [go_sem,seval]; exact hO.le (by omega)
  ·have hkn:k=p.cells.length:=by omega
   have hfr2:frameUp to m.frame k=frameM p.cells.length to m.frame:=by rw [hkn]; rfl
   rw [hfr2] at hof
   have d1:=moved_den to m.rely (by omega)
   have d2:=moved_den to m.guar (by omega)
   have hown3:=hown.keep (y:=q3) (by omega) hlow
   have v1:=hown3.own.valOf
   have v2:=hown3.own.r2
   have v3:=hown3.own.r3
   have v4:=hown3.own.r4
   have v5:=hown3.own.r5
   simp -dsimp -implicitDefEqProofs only [go_sem,seval,hc1,hc2,d1,d2,hb1,hb2,v1,v2,v3,v4,v5]
   have hrl:rows.length<=6:=by rw [hown.len,modsE_len]; simp; omega
   refine putA_app1 (hown3.own.upd (by omega) _) (by omega) (by omega) (by decide) rfl hown3.all ?_
   intro v hp hO hoffs hkeep
   have w1:=hO.valOf
   have w2:=ownB_cells hO
   simp only [V.cells] at w2
   have hsn:=hown.snoc (x' := q3) (by omega) (by omega) (by omega) hO (fun j hj=>hoffs j (by omega)) (fun j hj ho=>hkeep j (by omega) ho) (fun j hj=>((by rw [updC_at,if_neg (by omega)]):_=H3 j).trans (hlow j hj)) rfl
    (fun h2 hh=>mod_row p.cells.length to m (ownB_toT hof (ints_norm _) fun j hj hno=>by
      have hjq:q<=j:=by
       rcases Nat.lt_or_ge j q with h0 | h0
       ·exact absurd (hofq j h0) hno
       ·exact h0
      rw [hh j hjq hj,updC_at,if_neg (by omega)]))
   have h52:=(hkeep 5 (by omega) hoff).trans ((by rw [updC_at,if_neg (by omega)]):_=H3 5)
   rw [hlow 5 (by omega),hk] at h52
   simp -dsimp -implicitDefEqProofs only [go_sem,seval,w1,w2,hb1,hb2,h7]
   refine ⟨by omega,by simp -dsimp -implicitDefEqProofs only [go_sem,seval,hw],by simp -dsimp -implicitDefEqProofs only [go_sem,seval,hb1],v,by simp -dsimp -implicitDefEqProofs only [go_sem,seval], ?_,hoffs 5 (by omega),by simp -dsimp -implicitDefEqProofs only [go_sem,seval,h52],by simp -dsimp -implicitDefEqProofs only [go_sem,seval]; omega⟩
   simp -dsimp -implicitDefEqProofs only [go_sem,seval]
   rw [modsE_succ p.cells.length to hm]
   exact ⟨_,hsn.keep (by omega) fun _ _=>rfl⟩
 have him:i=p.modules.length:=by omega
 rw [him,List.take_length] at hown
 clear him h7 hw hi
 refine loopYH 11150372578496124136628548622202195436122144 p.locks.length (fun i f h x=>(f 12).v=vi i/\(f 5).v = .lb /\ ∃ vl,(f 5).box=some [.ms 5 0 p.cells.length,vm,vl, .t .nils]/\OwnB h x vl 6 (rowsLk to (p.locks.take i))/\(∀ j,j<q->offK vl j)/\(∀ j,j<q->h j=H j)/\q<=x) rfl
  ⟨by simp -dsimp -implicitDefEqProofs only [go_sem,seval],by simp -dsimp -implicitDefEqProofs only [go_sem,seval,hb1], .t .nils,by simp -dsimp -implicitDefEqProofs only [go_sem,seval,hb2], .inl ⟨rfl,rfl⟩,(fun j _ i n h=>by cases h),fun j hj=>by simp -dsimp -implicitDefEqProofs only [go_sem,seval],by simp -dsimp -implicitDefEqProofs only [go_sem,seval]; omega⟩ ?_
 clear hb1 hb2
 rintro i f u H2 q2 bq2 hi ⟨h12,hb1,vl,hb2,hol,holq,hlow,hq2⟩
 have hw:=wrapS i (by omega)
 simp -dsimp -implicitDefEqProofs only [go_sem,seval,h12]
 refine csplit (fun h => ?_) (fun h => ?_) <;> (try rw [h]) <;> (try simp only [bools] at h) <;> (try simp -dsimp -implicitDefEqProofs only [go_sem,seval,h12])
 ·obtain ⟨l,hl,hlm⟩:=get_of ‹i<p.locks.length›
  have hle:=lockErr_iff.1 ((ok_iff.1 hok).locks i l hl)
  obtain ⟨c0,c1⟩:=ofThread_rng hle.1.1
  have htc:=tau_get (to:=to) c0 (by rw [R.len]; exact c1)
  have d1:=moved_den to l.inv (by have:=hs.lcks l hlm; omega)
  have v1:=hol.valOf
  have v2:=hol.r2
  have v3:=hol.r3
  have v4:=hol.r4
  have v5:=hol.r5
  simp -dsimp -implicitDefEqProofs only [go_sem,seval,h12,hl,hb1,hb2,htc,c0,d1,v1,v2,v3,v4,v5]
  refine putA_app1 (hol.upd (by omega) _) (by omega) (by rw [rowsLk_len]; simp; omega) (by decide) rfl (rowsLk_all _ _) ?_
  intro v hp hO hoffs hkeep
  have w1:=hO.valOf
  have w2:=ownB_cells hO
  simp only [V.cells] at w2
  replace hO:=ownB_rows hO (show _=rowsLk to (p.locks.take (i+1)) by rw [rowsLk_succ to hl, <- lockRow])
  have hlow2 : ∀ j,j<q->_:=fun j hj=>(hkeep j (by omega) (holq j hj)).trans ((by rw [updC_at,if_neg (by omega)]):_=H2 j)
  simp -dsimp -implicitDefEqProofs only [go_sem,seval,w1,w2,h12,hb1,hb2]
  refine ⟨by omega,by simp -dsimp -implicitDefEqProofs only [go_sem,seval,hw],by simp -dsimp -implicitDefEqProofs only [go_sem,seval,hb1],v,by simp -dsimp -implicitDefEqProofs only [go_sem,seval], ?_,fun j hj=>hoffs j (by omega),(fun j hj=>by have hl3:=(hlow2 j hj).trans (hlow j hj); simp -dsimp -implicitDefEqProofs only [go_sem,seval,hl3]),by simp -dsimp -implicitDefEqProofs only [go_sem,seval]; omega⟩
  simp -dsimp -implicitDefEqProofs only [go_sem,seval]; exact hO.le (by omega)
 have him:i=p.locks.length:=by omega
 rw [him,List.take_length] at hol
 clear him h12 hw hi
 have hown2:=hown.keep hq2 hlow
 have hoff5:=hoff
 have hk2:H2 5=some (.rows 6 (rowsCl CS) false):=by rw [hlow 5 (by omega)]; exact hk
 refine loopYH 118571099379011784113736688648896417630598091698350626005636706887778864015065120 p.threads.length (fun i f h x=>(f 14).v=vi i/\(f 5).v = .lb /\ ∃ vt,(f 5).box=some [.ms 5 0 p.cells.length,vm,vl,vt]/\OwnX h 0 x vt 7 999 (thrE to (p.threads.take i))/\(∀ j,j<q2->offK vt j)/\(∀ j,j<q2->h j=H2 j)/\q2<=x) rfl
  ⟨by simp -dsimp -implicitDefEqProofs only [go_sem,seval],by simp -dsimp -implicitDefEqProofs only [go_sem,seval,hb1], .t .nils,by simp -dsimp -implicitDefEqProofs only [go_sem,seval,hb2],⟨[],OwnT.nil _ _ _ _ _⟩,(fun j _ i n h=>by cases h),fun j hj=>by simp -dsimp -implicitDefEqProofs only [go_sem,seval],by simp -dsimp -implicitDefEqProofs only [go_sem,seval]; omega⟩ ?_
 clear hb1 hb2 hlow
 rintro i f u H3 q3 bq3 hi ⟨h14,hb1,vt,hb2,⟨rowt,hot⟩,hotq,hlow,hq3⟩
 have hw:=wrapS i (by omega)
 simp -dsimp -implicitDefEqProofs only [go_sem,seval,h14]
 refine csplit (fun h => ?_) (fun h => ?_) <;> (try rw [h]) <;> (try simp only [bools] at h) <;> (try simp -dsimp -implicitDefEqProofs only [go_sem,seval,h14])
 ·obtain ⟨x,hx,hxm⟩:=get_of ‹i<p.threads.length›
  have hth:=hs.thr x hxm
  simp -dsimp -implicitDefEqProofs only [go_sem,seval,h14,hx]
  refine loopYH 383123154465653549138127654945160937763174952579825664 x.asserts.length (fun j f h z=>(f 17).v=vi j/\(f 16).v = .lb /\ ∃ va,(f 16).box=some [.t (.str x.name), .t (ti x.points),va, .t (ints x.modules), .t .nils, .t .nils, .t (tb x.asleep)]/\OwnB h z va 4 (rowsM to (x.asserts.take j))/\(∀ j,j<q3->offK va j)/\(∀ j,j<q3->h j=H3 j)/\q3<=z) rfl
   ⟨by simp -dsimp -implicitDefEqProofs only [go_sem,seval],by simp -dsimp -implicitDefEqProofs only [go_sem,seval], .t .nils,by simp -dsimp -implicitDefEqProofs only [go_sem,seval], .inl ⟨rfl,rfl⟩,(fun j _ i n h=>by cases h),fun j hj=>by simp -dsimp -implicitDefEqProofs only [go_sem,seval],by simp -dsimp -implicitDefEqProofs only [go_sem,seval]; omega⟩ ?_
  rintro j g u4 H4 q4 bq4 hj ⟨h17,hc1,va,hc2,hoa,hoaq,hlow4,hq4⟩
  have hwj:=wrapS j (by omega)
  simp -dsimp -implicitDefEqProofs only [go_sem,seval,h17]
  refine csplit (fun h => ?_) (fun h => ?_) <;> (try rw [h]) <;> (try simp only [bools] at h) <;> (try simp -dsimp -implicitDefEqProofs only [go_sem,seval,h17])
  ·obtain ⟨e,he,hem⟩:=get_of (show j<x.asserts.length by omega)
   have d1:=moved_den to e (by have:=hth.2.2.2.2 e hem; omega)
   have v1:=hoa.valOf
   have v2:=hoa.r2
   have v3:=hoa.r3
   have v4:=hoa.r4
   have v5:=hoa.r5
   simp -dsimp -implicitDefEqProofs only [go_sem,seval,h17,he,hc1,hc2,d1,v1,v2,v3,v4,v5]
   refine putA_app1 (hoa.upd (by omega) _) (by omega) (by rw [rowsM_len]; simp; omega) (by decide) rfl (rowsM_all _ _) ?_
   intro v hp hO hoffs hkeep
   have w1:=hO.valOf
   have w2:=ownB_cells hO
   simp only [V.cells] at w2
   have hrow:([V.t (ti (e.mv to).op),V.t (ti (e.mv to).w),V.t (ti (e.mv to).n),V.t (.sl ((e.mv to).kids.map Expr.enc))]:List V)=(e.mv to).enc.map V.t:=by rw [Expr.enc_eq]; rfl
   replace hO:=ownB_rows hO (show _=rowsM to (x.asserts.take (j+1)) by rw [rowsM_succ to he, <- hrow])
   have hlow2 : ∀ j,j<q3->_:=fun j hj=>(hkeep j (by omega) (hoaq j hj)).trans ((by rw [updC_at,if_neg (by omega)]):_=H4 j)
   simp -dsimp -implicitDefEqProofs only [go_sem,seval,w1,w2,h17,hc1,hc2]
   refine ⟨by omega,by simp -dsimp -implicitDefEqProofs only [go_sem,seval,hwj],by simp -dsimp -implicitDefEqProofs only [go_sem,seval,hc1],v,by simp -dsimp -implicitDefEqProofs only [go_sem,seval], ?_,fun j hj=>hoffs j (by omega),(fun j hj=>by have hl3:=(hlow2 j hj).trans (hlow4 j hj); simp -dsimp -implicitDefEqProofs only [go_sem,seval,hl3]),by simp -dsimp -implicitDefEqProofs only [go_sem,seval]; omega⟩
   simp -dsimp -implicitDefEqProofs only [go_sem,seval]; exact hO.le (by omega)
  have hjm:j=x.asserts.length:=by omega
  rw [hjm,List.take_length] at hoa
  clear hjm h17 hwj hj
  refine loopYH 220855883097298040814788302376392599888848730321875073860515994619674624 x.steps.length (fun j f h z=>(f 18).v=vi j/\(f 16).v = .lb /\ ∃ vs,(f 16).box=some [.t (.str x.name), .t (ti x.points),va, .t (ints x.modules),vs, .t .nils, .t (tb x.asleep)]/\OwnX h q4 z vs 11 998 (stepsE to (x.steps.take j))/\(∀ j,j<q4->h j=H4 j)/\q4<=z) rfl
   ⟨by simp -dsimp -implicitDefEqProofs only [go_sem,seval],by simp -dsimp -implicitDefEqProofs only [go_sem,seval,hc1], .t .nils,by simp -dsimp -implicitDefEqProofs only [go_sem,seval,hc2],⟨[],OwnT.nil _ _ _ _ _⟩,(fun j hj=>by simp -dsimp -implicitDefEqProofs only [go_sem,seval]),by simp -dsimp -implicitDefEqProofs only [go_sem,seval]; omega⟩ ?_
  clear hc1 hc2
  rintro j g u5 H5 q5 bq5 hj ⟨h18,hc1,vs,hc2,⟨rows,hos⟩,hlow5,hq5⟩
  have hwj:=wrapS j (by omega)
  simp -dsimp -implicitDefEqProofs only [go_sem,seval,h18]
  refine csplit (fun h => ?_) (fun h => ?_) <;> (try rw [h]) <;> (try simp only [bools] at h) <;> (try simp -dsimp -implicitDefEqProofs only [go_sem,seval,h18])
  ·obtain ⟨s,hsj,hsm⟩:=get_of (show j<x.steps.length by omega)
   have hst:=hs.steps x hxm s hsm
   have hok2:=stepErr_iff.1 ((threadErr_iff.1 ((ok_iff.1 hok).threads i x hx)).2.2.2.2.2.1 j s hsj)
   have d1:=moved_den to s.guard (by omega)
   simp -dsimp -implicitDefEqProofs only [go_sem,seval,h18,hsj,d1]
   refine loopYH 3450873173294848265951191038917140095454231823427555590469837563363328 s.set.length (fun k f h z=>(f 20).v=vi k/\(f 19).v = .lb /\ ∃ vset,(f 19).box=some [.t (ti s.kind), .t (ti s.fr), .t (ti s.to), .t (ti (s.guard.mv to).op), .t (ti (s.guard.mv to).w), .t (ti (s.guard.mv to).n), .t (.sl ((s.guard.mv to).kids.map Expr.enc)),vset, .t (tb s.release), .t (ti s.target), .t (ti s.module)] /\
    OwnB h z vset 5 (rowsSt to (s.set.take k))/\(∀ j,j<q5->offK vset j)/\(∀ j,j<q5->h j=H5 j)/\q5<=z) rfl
    ⟨by simp -dsimp -implicitDefEqProofs only [go_sem,seval],by simp -dsimp -implicitDefEqProofs only [go_sem,seval], .t .nils,by simp -dsimp -implicitDefEqProofs only [go_sem,seval], .inl ⟨rfl,rfl⟩,(fun j _ i n h=>by cases h),fun j hj=>by simp -dsimp -implicitDefEqProofs only [go_sem,seval],by simp -dsimp -implicitDefEqProofs only [go_sem,seval]; omega⟩ ?_
   rintro k g6 u6 H6 q6 bq6 hk6 ⟨h20,hd1,vset,hd2,hoset,hosq,hlow6,hq6⟩
   have hwk:=wrapS k (by omega)
   simp -dsimp -implicitDefEqProofs only [go_sem,seval,h20,h18,hsj]
   refine csplit (fun h => ?_) (fun h => ?_) <;> (try rw [h]) <;> (try simp only [bools] at h) <;> (try simp -dsimp -implicitDefEqProofs only [go_sem,seval,h20,h18,hsj])
   ·obtain ⟨a,ha,ham⟩:=get_of (show k<s.set.length by omega)
    have hse:=setErr_iff.1 (hok2.2.2.1 k a ha)
    have hrg:0<=a.cell/\a.cell<p.cells.length:=by simpa [inR] using hse.1.1
    have htc:=tau_get (to:=to) hrg.1 (by rw [R.len]; exact hrg.2)
    have g0:=hrg.1
    have d2:=moved_den to a.to (by have:=hst.2.2 a ham; omega)
    have v1:=hoset.valOf
    have v2:=hoset.r2
    have v3:=hoset.r3
    have v4:=hoset.r4
    have v5:=hoset.r5
    simp -dsimp -implicitDefEqProofs only [go_sem,seval,h20,h18,hsj,ha,hd1,hd2,htc,g0,d2,v1,v2,v3,v4,v5]
    refine putA_app1 (hoset.upd (by omega) _) (by omega) (by rw [rowsSt_len]; simp; omega) (by decide) rfl (rowsSt_all _ _) ?_
    intro v hp hO hoffs hkeep
    have w1:=hO.valOf
    have w2:=ownB_cells hO
    simp only [V.cells] at w2
    replace hO:=ownB_rows hO (show _=rowsSt to (s.set.take (k+1)) by rw [rowsSt_succ to ha, <- setRow])
    have hlow2 : ∀ j,j<q5->_:=fun j hj=>(hkeep j (by omega) (hosq j hj)).trans ((by rw [updC_at,if_neg (by omega)]):_=H6 j)
    simp -dsimp -implicitDefEqProofs only [go_sem,seval,w1,w2,h20,hd1,hd2]
    refine ⟨by omega,by simp -dsimp -implicitDefEqProofs only [go_sem,seval,hwk],by simp -dsimp -implicitDefEqProofs only [go_sem,seval,hd1],v,by simp -dsimp -implicitDefEqProofs only [go_sem,seval], ?_,fun j hj=>hoffs j (by omega),(fun j hj=>by have hl3:=(hlow2 j hj).trans (hlow6 j hj); simp -dsimp -implicitDefEqProofs only [go_sem,seval,hl3]),by simp -dsimp -implicitDefEqProofs only [go_sem,seval]; omega⟩
    simp -dsimp -implicitDefEqProofs only [go_sem,seval]; exact hO.le (by omega)
   have hks:k=s.set.length:=by omega
   rw [hks,List.take_length] at hoset
   have hos6:=hos.keep hq6 hlow6
   have v1:=hos6.own.valOf
   have v2:=hos6.own.r2
   have v3:=hos6.own.r3
   have v4:=hos6.own.r4
   have v5:=hos6.own.r5
   have hrl:rows.length<=80:=by rw [hos.len,stepsE_len]; simp; omega
   simp -dsimp -implicitDefEqProofs only [go_sem,seval,hc1,hc2,hd1,hd2,v1,v2,v3,v4,v5]
   refine putA_app1 (hos6.own.upd (by omega) _) (by omega) (by omega) (by decide) rfl hos6.all ?_
   intro v hp hO hoffs hkeep
   have w1:=hO.valOf
   have w2:=ownB_cells hO
   simp only [V.cells] at w2
   have hsn:=hos.snoc (x' := q6) hq5 hq6 (by omega) hO (fun j hj=>hoffs j (by omega)) (fun j hj ho=>hkeep j (by omega) ho) (fun j hj=>((by rw [updC_at,if_neg (by omega)]):_=H6 j).trans (hlow6 j hj)) rfl
    (fun h2 hh=>step_row to s ((ownB_toT (ownB_rows hoset (rowsSt_eq to s.set)) (norm_map Assign.enc norm_assign _) fun j hj hno=>by
      have hjq:q5<=j:=by
       rcases Nat.lt_or_ge j q5 with h0 | h0
       ·exact absurd (hosq j h0) hno
       ·exact h0
      rw [hh j hjq hj,updC_at,if_neg (by omega)])))
   have hlow2 : ∀ j,j<q4->_:=fun j hj=>((hkeep j (by omega) (hos.low j hj)).trans ((by rw [updC_at,if_neg (by omega)]):_=H6 j)).trans ((hlow6 j (by omega)).trans (hlow5 j hj))
   simp -dsimp -implicitDefEqProofs only [go_sem,seval,w1,w2,hc1,hc2,h18]
   refine ⟨by omega,by simp -dsimp -implicitDefEqProofs only [go_sem,seval,hwj],by simp -dsimp -implicitDefEqProofs only [go_sem,seval,hc1],v,by simp -dsimp -implicitDefEqProofs only [go_sem,seval], ?_,(fun j hj=>by have hl3:=hlow2 j hj; simp -dsimp -implicitDefEqProofs only [go_sem,seval,hl3]),by simp -dsimp -implicitDefEqProofs only [go_sem,seval]; omega⟩
   simp -dsimp -implicitDefEqProofs only [go_sem,seval]
   rw [stepsE_succ to hsj]
   exact ⟨_,hsn.keep (by omega) fun _ _=>rfl⟩
  have hjm:j=x.steps.length:=by omega
  rw [hjm,List.take_length] at hos
  clear hjm h18 hwj hj
  refine loopYH 1852673206941176029479094562226818932787505276214761915178951578925834925309952 x.loops.length (fun j f h z=>(f 22).v=vi j/\(f 16).v = .lb /\ ∃ vp,(f 16).box=some [.t (.str x.name), .t (ti x.points),va, .t (ints x.modules),vs,vp, .t (tb x.asleep)]/\OwnB h z vp 6 (rowsLp to (x.loops.take j))/\(∀ j,j<q5->offK vp j)/\(∀ j,j<q5->h j=H5 j)/\q5<=z) rfl
   ⟨by simp -dsimp -implicitDefEqProofs only [go_sem,seval],by simp -dsimp -implicitDefEqProofs only [go_sem,seval,hc1], .t .nils,by simp -dsimp -implicitDefEqProofs only [go_sem,seval,hc2], .inl ⟨rfl,rfl⟩,(fun j _ i n h=>by cases h),(fun j hj=>by simp -dsimp -implicitDefEqProofs only [go_sem,seval]),by simp -dsimp -implicitDefEqProofs only [go_sem,seval]; omega⟩ ?_
  clear hc1 hc2
  rintro j g u6 H6 q6 bq6 hj ⟨h22,hc1,vp,hc2,hop,hopq,hlow6,hq6⟩
  have hwj:=wrapS j (by omega)
  simp -dsimp -implicitDefEqProofs only [go_sem,seval,h22]
  refine csplit (fun h => ?_) (fun h => ?_) <;> (try rw [h]) <;> (try simp only [bools] at h) <;> (try simp -dsimp -implicitDefEqProofs only [go_sem,seval,h22])
  ·obtain ⟨l,hlj,hlm⟩:=get_of (show j<x.loops.length by omega)
   have hlp:=hs.loops x hxm l hlm
   have d1:=moved_den to l.variant (by omega)
   have v1:=hop.valOf
   have v2:=hop.r2
   have v3:=hop.r3
   have v4:=hop.r4
   have v5:=hop.r5
   simp -dsimp -implicitDefEqProofs only [go_sem,seval,h22,hlj,hc1,hc2,d1,v1,v2,v3,v4,v5]
   refine putA_app1 (hop.upd (by omega) _) (by omega) (by rw [rowsLp_len]; simp; omega) (by decide) rfl (rowsLp_all _ _) ?_
   intro v hp hO hoffs hkeep
   have w1:=hO.valOf
   have w2:=ownB_cells hO
   simp only [V.cells] at w2
   replace hO:=ownB_rows hO (show _=rowsLp to (x.loops.take (j+1)) by rw [rowsLp_succ to hlj, <- loopRow])
   have hlow2 : ∀ j,j<q5->_:=fun j hj=>(hkeep j (by omega) (hopq j hj)).trans ((by rw [updC_at,if_neg (by omega)]):_=H6 j)
   simp -dsimp -implicitDefEqProofs only [go_sem,seval,w1,w2,h22,hc1,hc2]
   refine ⟨by omega,by simp -dsimp -implicitDefEqProofs only [go_sem,seval,hwj],by simp -dsimp -implicitDefEqProofs only [go_sem,seval,hc1],v,by simp -dsimp -implicitDefEqProofs only [go_sem,seval], ?_,fun j hj=>hoffs j (by omega),(fun j hj=>by have hl3:=(hlow2 j hj).trans (hlow6 j hj); simp -dsimp -implicitDefEqProofs only [go_sem,seval,hl3]),by simp -dsimp -implicitDefEqProofs only [go_sem,seval]; omega⟩
   simp -dsimp -implicitDefEqProofs only [go_sem,seval]; exact hO.le (by omega)
  have hjm:j=x.loops.length:=by omega
  rw [hjm,List.take_length] at hop
  clear hjm h22 hwj hj
  have hlow36 : ∀ j,j<q3->H6 j=H3 j:=fun j hj=>(hlow6 j (by omega)).trans ((hlow5 j (by omega)).trans (hlow4 j hj))
  have hot6:=hot.keep (y:=q6) (by omega) hlow36
  have v1:=hot6.own.valOf
  have v2:=hot6.own.r2
  have v3:=hot6.own.r3
  have v4:=hot6.own.r4
  have v5:=hot6.own.r5
  have hrl:rowt.length<=8:=by have:=hs.threads; rw [hot.len,thrE_len]; simp; omega
  simp -dsimp -implicitDefEqProofs only [go_sem,seval,hc1,hc2,hb1,hb2,v1,v2,v3,v4,v5]
  refine putA_app1 (hot6.own.upd (by omega) _) (by omega) (by omega) (by decide) rfl hot6.all ?_
  intro v hp hO hoffs hkeep
  have w1:=hO.valOf
  have w2:=ownB_cells hO
  simp only [V.cells] at w2
  have hsn:=hot.snoc (x' := q6) (by omega) (by omega) (by omega) hO (fun j hj=>hoffs j (by omega)) (fun j hj ho=>hkeep j (by omega) ho) (fun j hj=>((by rw [updC_at,if_neg (by omega)]):_=H6 j).trans (hlow36 j hj)) rfl
   (fun h2 hh=>by
     have h6 : ∀ j,q3<=j->j<q6->h2 j=H6 j:=fun j hj hj2=>(hh j hj hj2).trans (by rw [updC_at,if_neg (by omega)])
     refine thr_row to x (ownB_toT (ownB_rows hoa (rowsM_eq to x.asserts)) (norm_map Expr.enc norm_exprL _) fun j hj hno => ?_) ?_ (ownB_toT (ownB_rows hop (rowsLp_eq to x.loops)) (norm_map Loop.enc norm_loopL _) fun j hj hno => ?_)
     ·have hjq:q3<=j:=by
       rcases Nat.lt_or_ge j q3 with h0 | h0
       ·exact absurd (hoaq j h0) hno
       ·exact h0
      rw [h6 j hjq (by omega),hlow6 j (by omega),hlow5 j hj]
     ·rw [<- stepsE_eq]
      exact hos.toT fun j hl hj=>by rw [h6 j (by omega) (by omega),hlow6 j hj]
     ·have hjq:q5<=j:=by
       rcases Nat.lt_or_ge j q5 with h0 | h0
       ·exact absurd (hopq j h0) hno
       ·exact h0
      exact h6 j (by omega) hj)
  have hlow2 : ∀ j,j<q2->_:=fun j hj=>((hkeep j (by omega) (hotq j hj)).trans ((by rw [updC_at,if_neg (by omega)]):_=H6 j)).trans ((hlow36 j (by omega)).trans (hlow j hj))
  simp -dsimp -implicitDefEqProofs only [go_sem,seval,w1,w2,hb1,hb2,h14]
  refine ⟨by omega,by simp -dsimp -implicitDefEqProofs only [go_sem,seval,hw],by simp -dsimp -implicitDefEqProofs only [go_sem,seval,hb1],v,by simp -dsimp -implicitDefEqProofs only [go_sem,seval], ?_,fun j hj=>hoffs j (by omega),(fun j hj=>by have hl3:=hlow2 j hj; simp -dsimp -implicitDefEqProofs only [go_sem,seval,hl3]),by simp -dsimp -implicitDefEqProofs only [go_sem,seval]; omega⟩
  simp -dsimp -implicitDefEqProofs only [go_sem,seval]
  rw [thrE_succ to hx]
  exact ⟨_,hsn.keep (by omega) fun _ _=>rfl⟩
 have him:i=p.threads.length:=by omega
 rw [him,List.take_length] at hot
 have hk3:H3 5=some (.rows 6 (rowsCl CS) false):=by rw [hlow 5 (by omega)]; exact hk2
 have t0:toT H3 1000 (.ms 5 0 p.cells.length)=some (.sl (CS.map Cell.enc)):=by
  have ho:OwnB H3 6 (.ms 5 0 p.cells.length) 6 ((CS.map Cell.enc).map (·.map V.t)):=.inr ⟨5,by simp [hlt],by omega,hk3⟩
  refine ownB_toT ho (norm_map Cell.enc (fun c t ht => ?_) _) fun _ _ _=>rfl
  simp only [Cell.enc,List.mem_cons,List.not_mem_nil,or_false] at ht
  rcases ht with rfl | rfl | rfl | rfl | rfl | rfl <;> rfl
 have t1:toT H3 1000 vm=some (.sl ((p.modules.map (Contract.mv p.cells.length to)).map Contract.enc)):=by rw [<- modsE_eq]; exact hown2.toT fun j _ hj=>hlow j hj
 have t2:toT H3 1000 vl=some (.sl ((p.locks.map (Lock.mv to)).map Lock.enc)):=ownB_toT (ownB_rows hol (rowsLk_eq to p.locks)) (norm_map Lock.enc (fun l t ht=>by
  simp only [Lock.enc,Expr.enc_eq,List.cons_append,List.nil_append,List.mem_cons,List.not_mem_nil,or_false] at ht
  rcases ht with rfl | rfl | rfl | rfl | rfl | rfl <;> rfl) _) fun j hj _=>hlow j hj
 have t3:toT H3 1000 vt=some (.sl ((p.threads.map (Thread.mv to)).map Thread.enc)):=by rw [<- thrE_eq]; exact hot.toT fun _ _ _=>rfl
 have v1:=hown2.own.valOf
 have v2:=hol.valOf
 have v3:=hot.own.valOf
 have e1:(p.mv to).cells=CS:=hCS
 have e2:(p.mv to).modules=p.modules.map (Contract.mv p.cells.length to):=rfl
 have e3:(p.mv to).locks=p.locks.map (Lock.mv to):=rfl
 have e4:(p.mv to).threads=p.threads.map (Thread.mv to):=rfl
 rw [e1,e2,e3,e4]
 simp -dsimp -implicitDefEqProofs only [go_sem,seval,hb1,hb2,v1,v2,v3, ↓t0,t1,t2,t3]
end Rg
end
section
namespace Rg
open Go
def thrPre (p:Prog) (i:Nat) (x:Thread):Prop :=
 isLabel x.name=true/\(p.threads.take i).any (fun d=>d.name.toList==x.name.toList)=false/\(1<=x.points/\(x.asserts.length:Int)=x.points/\(x.modules.length:Int)=x.points) /\
  x.modules.all (fun m=>inR m p.modules.length)=true/\x.asserts.all (fun e=>truthOk p e false i)=true
def preOk (p:Prog):Prop:=(limitsM p).1=0/\cellsM p=0/\modulesM p=0/\locksM p=0
structure AtStep (p:Prog) (e:Int) (t s:Nat) (x:Thread) (y:Step):Prop where
 pre:preOk p
 before : ∀ (j:Nat) (z:Thread),j<t->p.threads[j]? = some z->(threadErr p j z).1=0
 hx:p.threads[t]? = some x
 tp:thrPre p t x
 hy:x.steps[s]? = some y
 steps : ∀ (k:Nat) (z:Step),k<s->x.steps[k]? = some z->stepErr p t x.points z=0
 err:stepErr p t x.points y=e
 ne:e≠0
end Rg
end
section
namespace Rg
open Go
section
variable {p:Prog} {i k:Nat} {x:Thread}
end
end Rg
end
