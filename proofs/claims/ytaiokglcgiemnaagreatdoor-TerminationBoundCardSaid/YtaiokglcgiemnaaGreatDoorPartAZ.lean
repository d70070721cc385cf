/- Part of the proof of the laws of the package relyguardlaw36: an abstract machine for the program's functions, what they compute, and that the machine is the program's. No condition. (H09b H09c H09d H09e H09f H09g) -/
import Derived.Test.YtaiokglcgiemnaaGreatDoorPartAY
set_option linter.unusedSimpArgs false
set_option linter.unusedVariables false
section
-- FULL
namespace Rg
open Go
theorem mayR_eq {p:Prog} (hc: ∀c∈p.cells,-1<=c.thread) (sh:Bool) (t c:Int) (ht: -1<=t) (hs:sh=true\/0<=t) (h0:0<=c):mayR p sh t c=mayP p sh t c:=by
 unfold mayR mayP sees ofThread
 rcases hx:p.cells[c.toNat]? with _ | x
 ·cases sh<;>simp
 ·have:=hc x (List.mem_of_getElem? hx)
  simp only[h0,decide_true,Bool.true_and]
  have a1:(decide (0<=x.thread))= !decide (x.thread= -1):=by
   by_cases h:x.thread= -1
   ·simp[h]
   ·simp[h];omega
  rw[a1]
  cases sh
  ·have ht:0<=t:=by simpa using hs
   by_cases h:x.thread= -1
   ·simp[h];omega
   ·simp[h]
  ·by_cases h:x.thread= -1
   ·simp[h]
   ·simp[h]
theorem all_congr {α:Type} {P Q:α->Bool} {l:List α} (h: ∀x∈l,P x=Q x):l.all P=l.all Q:=by
 induction l with
 | nil=>rfl
 | cons x r ih=>rw[List.all_cons,List.all_cons,h x (by simp),ih fun y hy=>h y (by simp[hy])]
theorem sup_mem {op:Int} {e:Expr} {c:Int} (h:c∈e.sup op):0<=c/\e.formed=true/\ ∃x∈e.lv,x.op=op/\x.n.toNat=c.toNat:=by
 unfold Expr.sup at h
 split at h
 ·rename_i hf
  obtain⟨j,hj,rfl⟩:=List.mem_map.1 h
  refine⟨by omega,hf,?_⟩
  obtain⟨_,hj⟩:=List.mem_filter.1 hj
  have key: ∀(l:List Expr) (s:List Bool),(l.foldl (markS op) s).getD j false=true->s.getD j false=true\/ ∃x∈l,x.op=op/\x.n.toNat=j:=by
   intro l
   induction l with
   | nil=>intro s h;exact .inl h
   | cons x l ih=>
     intro s h
     rw[List.foldl_cons]at h
     rcases ih _ h with h | ⟨y,hy,h1,h2⟩
     ·unfold markS at h
      split at h
      ·rename_i ho
       by_cases hn:x.n.toNat=j
       ·exact .inr ⟨x,by simp,ho,hn⟩
       ·left
        simpa[List.getD,List.getElem?_set,hn]using h
      ·exact .inl h
     ·exact .inr ⟨y,by simp[hy],h1,h2⟩
  rcases key _ _ hj with h | ⟨x,hx,h1,h2⟩
  ·have:(List.replicate 32 false).getD j false=false:=by
    rw[List.getD,List.getElem?_replicate];split<;>rfl
   rw[this]at h;simp at h
  ·exact⟨x,hx,h1,by simpa using h2⟩
 ·simp at h
theorem valid_in {p:Prog} {e:Expr} {pair:Bool} (h:e.valid p.cells pair=true):inCells p e:=by
 intro op hop c hc
 obtain⟨h0,hf,x,hx,h1,h2⟩:=sup_mem hc
 refine⟨h0,?_⟩
 unfold Expr.valid at h
 rw[hf,Bool.true_and,lv_all (fun x=>leafOk_kids p.cells pair) 40 e (formed_deep hf)]at h
 have:=List.all_eq_true.1 h x hx
 unfold leafOk at this
 rcases hop with rfl | rfl
 ·simp only[h1]at this
  rcases hy:p.cells[x.n.toNat]? with _ | y
  ·simp[hy]at this
  ·have:=(List.getElem?_eq_some_iff.1 hy).1;omega
 ·simp only[h1]at this
  rcases hy:p.cells[x.n.toNat]? with _ | y
  ·simp[hy]at this
  ·have:=(List.getElem?_eq_some_iff.1 hy).1;omega
theorem overV_den {p:Prog} (hc: ∀c∈p.cells,-1<=c.thread) {e:Expr} (hin:inCells p e) (sh:Bool) (t:Int) (ht: -1<=t) (hs:sh=true\/0<=t):
 Den Γ G 115 [(.agg [.t (.sl ((p).cells.map (Cell.enc))),.t (.sl ((p).modules.map (Contract.enc))),.t (.sl ((p).locks.map (Lock.enc))),.t (.sl ((p).threads.map (Thread.enc)))]),(.agg [.t (ti (e).op),.t (ti (e).w),.t (ti (e).n),.t (.sl ((e).kids.map (Expr.enc)))]),vb sh,vi t]=some (vb (overOk p e sh t)):=by
 rw[overR_den p e sh t hin,List.all_append,overOk]
 rw[all_congr (l:=e.sup 3) fun c hc'=>mayR_eq hc sh t c ht hs (hin 3 (.inr rfl) c hc').1]
 rw[all_congr (l:=e.sup 2) fun c hc'=>mayR_eq hc sh t c ht hs (hin 2 (.inl rfl) c hc').1]
theorem truthR_den {p:Prog} (hc: ∀c∈p.cells,-1<=c.thread) (e:Expr) (pair:Bool) (t:Int) (ht: -1<=t):
 Den Γ G 112 [(.agg [.t (.sl ((p).cells.map (Cell.enc))),.t (.sl ((p).modules.map (Contract.enc))),.t (.sl ((p).locks.map (Lock.enc))),.t (.sl ((p).threads.map (Thread.enc)))]),(.agg [.t (ti (e).op),.t (ti (e).w),.t (ti (e).n),.t (.sl ((e).kids.map (Expr.enc)))]),vb pair,vi t]=some (vb (truthOk p e pair t)):=by
 (refine den_ofY Γ112 rfl ?_;dsimp only[f112])
 have h1:=validE_den e p.cells pair
 cases hv:e.valid p.cells pair
 ·rw[hv]at h1
  simp -dsimp -implicitDefEqProofs [go_sem,h1]
  simp[truthOk,hv]
 ·rw[hv]at h1
  have h2:=overV_den hc (valid_in hv) true t ht (.inl rfl)
  simp -dsimp -implicitDefEqProofs [go_sem,h1]
  refine csplit (fun h=> ?_) (fun h=> ?_)<;>(try rw[h])<;>(try simp only[bools]at h)<;>(try simp -dsimp -implicitDefEqProofs [go_sem,h2])
  ·simp[truthOk,hv,h]
  ·simp[truthOk,hv,h]
theorem oneR_den:Den Γ G 157 []=some (.agg [vi 1,vi 1,vi 1,.t (.sl [])]):=by
 (refine den_ofY Γ157 rfl ?_;dsimp only[f157])
 have h1:=const_den 1 1
 simp -dsimp -implicitDefEqProofs [go_sem,h1]
theorem limitsR_den (p:Prog) (hs:p.sane):Den Γ G 84 [(.agg [.t (.sl ((p).cells.map (Cell.enc))),.t (.sl ((p).modules.map (Contract.enc))),.t (.sl ((p).locks.map (Lock.enc))),.t (.sl ((p).threads.map (Thread.enc)))])]=some (.tup [vi (limitsM p).1,vi (limitsM p).2]):=by
 (refine den_ofY Γ84 rfl ?_;dsimp only[f84])
 simp -dsimp -implicitDefEqProofs [go_sem]
 by_cases hbig:(p.cells.length:Int)>32\/(p.modules.length:Int)>6\/(p.locks.length:Int)>4\/(p.threads.length:Int)>4
 ·have hm:limitsM p=(2,-1):=by rw[limitsM,if_pos hbig]
  rw[hm]
  repeat'(refine csplit (fun h=> ?_) (fun h=> ?_)<;>(try rw[h])<;>(try simp only[bools]at h)<;>(try simp -dsimp -implicitDefEqProofs [go_sem]))
  all_goals(try omega)
 ·have hm:limitsM p=feGo (fun _ x=>if threadBad x then 2 else 0) 0 p.threads:=by rw[limitsM,if_neg hbig]
  have g1: ¬(p.cells.length:Int)>32:=by omega
  have g2: ¬(p.modules.length:Int)>6:=by omega
  have g3: ¬(p.locks.length:Int)>4:=by omega
  have g4: ¬(p.threads.length:Int)>4:=by omega
  simp -dsimp -implicitDefEqProofs [go_sem,g1,g2,g3,g4]
  refine loopY 72057593769492540 p.threads.length (fun i f=>(f 4).v=vi i/\limitsM p=feGo (fun _ x=>if threadBad x then 2 else 0) i (p.threads.drop i)) rfl rfl ⟨by simp -dsimp -implicitDefEqProofs [go_sem],hm⟩ ?_
  clear hm
  rintro i f u kk bb hi ⟨h4,hm⟩
  have hw:=wrapS i (by omega)
  simp -dsimp -implicitDefEqProofs [go_sem,h4]
  refine csplit (fun h=> ?_) (fun h=> ?_)<;>(try rw[h])<;>(try simp only[bools]at h)<;>(try simp -dsimp -implicitDefEqProofs [go_sem])
  ·obtain⟨x,hx,_⟩:=get_of ‹i<p.threads.length›
   have hbad:threadBad x=true->limitsM p=(2,(i:Int)):=fun h0=>by rw[hm,fe_stop hx (by simp[h0])];simp[h0]
   simp -dsimp -implicitDefEqProofs [go_sem,h4,hx]
   repeat'(refine csplit (fun h=> ?_) (fun h=> ?_)<;>(try rw[h])<;>(try simp only[bools]at h)<;>(try simp -dsimp -implicitDefEqProofs [go_sem,h4]))
   ·rw[hbad (by simp[threadBad, *])];simp
   ·rw[hbad (by simp[threadBad, *])];simp
   ·rw[hbad (by simp[threadBad, *])];simp
   ·refine⟨by omega,by simp -dsimp -implicitDefEqProofs [go_sem,hw],?_⟩
    rw[hm,fe_step hx (by simp[threadBad, *])]
  ·have:i=p.threads.length:=by omega
   subst this
   rw[hm,fe_end];simp
end Rg
end
section
-- FULL
namespace Rg
open Go
theorem any_take_stop {α:Type} {P:α->Bool} {l:List α} {i j:Nat} {x:α} (hx:l[j]? =some x) (hj:j<i) (h:P x=true):(l.take i).any P=true:=by
 rw[List.any_eq_true]
 exact⟨x,List.mem_of_getElem? (by rw[List.getElem?_take,if_pos hj];exact hx),h⟩
theorem any_take_succ {α:Type} {P:α->Bool} {l:List α} {j:Nat} {x:α} (hx:l[j]? =some x):(l.take (j+1)).any P=((l.take j).any P||P x):=by
 rw[take_succ_of hx,List.any_append];simp
theorem cellsR_den (p:Prog) (hs:p.sane):Den Γ G 85 [(.agg [.t (.sl ((p).cells.map (Cell.enc))),.t (.sl ((p).modules.map (Contract.enc))),.t (.sl ((p).locks.map (Lock.enc))),.t (.sl ((p).threads.map (Thread.enc)))])]=some (vi (cellsM p)):=by
 (refine den_ofY Γ85 rfl ?_;dsimp only[f85])
 simp -dsimp -implicitDefEqProofs [go_sem]
 refine loopY 2417851639229258349412348 p.cells.length (fun i f=>(f 3).v=vi i/\cellsM p=(feGo (cellErr p) i (p.cells.drop i)).1) rfl rfl ⟨by simp -dsimp -implicitDefEqProofs [go_sem],rfl⟩ ?_
 rintro i f u kk bb hi ⟨h3,hm⟩
 have hbi:=hs.cells
 have hw:=wrapS i (by omega)
 simp -dsimp -implicitDefEqProofs [go_sem,h3]
 refine csplit (fun h=> ?_) (fun h=> ?_)<;>(try rw[h])<;>(try simp only[bools]at h)<;>(try simp -dsimp -implicitDefEqProofs [go_sem,h3])
 ·obtain⟨c,hc,hcm⟩:=get_of ‹i<p.cells.length›
  have hbad:cellBad p c=true->cellsM p=1:=fun h0=>by
   have:cellErr p i c=1:=by simp[cellErr,h0]
   rw[hm,fe_stop hc (by simp[this])];exact this
  have hl:=labelR_den c.name (hs.cname c hcm)
  have hin:=in_den c.module p.modules.length
  by_cases hb:cellBad p c=true
  ·rw[hbad hb]
   by_cases hww:c.w<=8
   ·have hp:=power_den c.w (by omega)
    simp -dsimp -implicitDefEqProofs [go_sem,h3,hc,hl]
    repeat'(refine csplit (fun h=> ?_) (fun h=> ?_)<;>(try rw[h])<;>(try simp only[bools]at h)<;>(try simp -dsimp -implicitDefEqProofs [go_sem,h3,hp,hin]))
    all_goals(exfalso;simp only[cellBad,Bool.or_eq_true,Bool.not_eq_true',decide_eq_true_eq]at hb;grind)
   ·have g8:c.w>8:=by omega
    simp -dsimp -implicitDefEqProofs [go_sem,h3,hc,hl,g8]
    repeat'(refine csplit (fun h=> ?_) (fun h=> ?_)<;>(try rw[h])<;>(try simp only[bools]at h)<;>(try simp -dsimp -implicitDefEqProofs [go_sem,h3,hin]))
    all_goals(exfalso;omega)
  ·have hb':=hb
   simp only[cellBad,Bool.or_eq_true,Bool.not_eq_true',decide_eq_true_eq,not_or]at hb'
   obtain⟨⟨⟨⟨⟨⟨⟨b1,b2⟩,b3⟩,b4⟩,b5⟩,b6⟩,b7⟩,b8⟩:=hb'
   have b1:isLabel c.name=true:=by simpa using b1
   have b8:inR c.module p.modules.length=true:=by simpa using b8
   rw[b1]at hl
   rw[b8]at hin
   have hp:=power_den c.w (by omega)
   simp -dsimp -implicitDefEqProofs [go_sem,h3,hc,hl,b2,b3,b4,hp,b5,b6,b7,hin]
   refine loopY 2417704065276668672999460 i (fun k f'=>(f' 5).v=vi k/\(p.cells.take k).any (fun d=>d.name.toList==c.name.toList)=false) rfl rfl ⟨by simp -dsimp -implicitDefEqProofs [go_sem],by simp⟩ ?_
   rintro k f' u' kk' bb' hk ⟨h5,hany⟩
   have hw':=wrapS k (by omega)
   simp -dsimp -implicitDefEqProofs [go_sem,h3,h5]
   refine csplit (fun h=> ?_) (fun h=> ?_)<;>(try rw[h])<;>(try simp only[bools]at h)<;>(try simp -dsimp -implicitDefEqProofs [go_sem,h3,h5])
   ·obtain⟨d,hd,hdm⟩:=get_of (show k<p.cells.length by omega)
    simp -dsimp -implicitDefEqProofs [go_sem,h3,h5,hd]
    refine csplit (fun h=> ?_) (fun h=> ?_)<;>(try rw[h])<;>(try simp only[bools]at h)<;>(try simp -dsimp -implicitDefEqProofs [go_sem,h3,h5])
    ·have:cellErr p i c=41:=by
      rw[cellErr,if_neg hb,if_pos (any_take_stop hd ‹k<i› (by simpa using h))]
     rw[hm,fe_stop hc (by simp[this])];exact this.symm
    ·refine⟨by omega,by simp -dsimp -implicitDefEqProofs [go_sem,hw'],?_⟩
     rw[any_take_succ hd,hany];simpa using h
   ·have:k=i:=by omega
    subst this
    refine⟨by omega,by simp -dsimp -implicitDefEqProofs [go_sem,hw],?_⟩
    rw[hm,fe_step hc (by rw[cellErr,if_neg hb,if_neg (by simp[hany])])]
 ·have:i=p.cells.length:=by omega
  subst this
  rw[hm,fe_end]
theorem cellsM_thread {p:Prog} (h:cellsM p=0): ∀c∈p.cells,cellBad p c=false:=by
 have key: ∀(l:List Cell) (i:Nat),(feGo (cellErr p) i l).1=0-> ∀c∈l,cellBad p c=false:=by
  intro l
  induction l with
  | nil=>intro i _ c hc;simp at hc
  | cons x r ih=>
    intro i h c hc
    rw[feGo]at h
    split at h
    ·rename_i h0
     rcases List.mem_cons.1 hc with rfl | hc
     ·cases hb:cellBad p c
      ·rfl
      ·simp[cellErr,hb]at h0
     ·exact ih _ h c hc
    ·rename_i h0;exact absurd h h0
 exact key p.cells 0 h
theorem cellBad_parts {p:Prog} {c:Cell} (h:cellBad p c=false):isLabel c.name=true/\1<=c.w/\c.w<=8/\0<=c.init/\c.init<2^c.w.toNat/\ -1<=c.thread/\c.thread<p.threads.length/\inR c.module p.modules.length=true:=by
 simp only[cellBad,Bool.or_eq_false_iff,Bool.not_eq_false',decide_eq_false_iff_not]at h
 obtain⟨⟨⟨⟨⟨⟨⟨b1,b2⟩,b3⟩,b4⟩,b5⟩,b6⟩,b7⟩,b8⟩:=h
 exact⟨b1,by omega,by omega,by omega,by omega,by omega,by omega,b8⟩
theorem cells_thread {p:Prog} (h:cellsM p=0): ∀c∈p.cells,-1<=c.thread:=fun c hc=>(cellBad_parts (cellsM_thread h c hc)).2.2.2.2.2.1
theorem ofThread_at {p:Prog} {c t:Int} {x:Cell} (h0:0<=c) (hx:p.cells[c.toNat]? =some x):ofThread p t c=decide (x.thread=t):=by
 simp[ofThread,h0,hx]
theorem modulesR_den (p:Prog) (hs:p.sane) (hcl:cellsM p=0):Den Γ G 86 [(.agg [.t (.sl ((p).cells.map (Cell.enc))),.t (.sl ((p).modules.map (Contract.enc))),.t (.sl ((p).locks.map (Lock.enc))),.t (.sl ((p).threads.map (Thread.enc)))])]=some (vi (modulesM p)):=by
 (refine den_ofY Γ86 rfl ?_;dsimp only[f86])
 simp -dsimp -implicitDefEqProofs [go_sem]
 have hct:=cells_thread hcl
 refine loopY 39614081257132168796771975164 p.modules.length (fun i f=>(f 3).v=vi i/\modulesM p=(feGo (modErr p) i (p.modules.drop i)).1) rfl rfl ⟨by simp -dsimp -implicitDefEqProofs [go_sem],rfl⟩ ?_
 rintro i f u kk bb hi ⟨h3,hm⟩
 have hbi:=hs.modules
 have hw:=wrapS i (by omega)
 simp -dsimp -implicitDefEqProofs [go_sem,h3]
 refine csplit (fun h=> ?_) (fun h=> ?_)<;>(try rw[h])<;>(try simp only[bools]at h)<;>(try simp -dsimp -implicitDefEqProofs [go_sem,h3])
 ·obtain⟨c,hc,hcm⟩:=get_of ‹i<p.modules.length›
  obtain⟨s1,s2,s3⟩:=hs.mname c hcm
  have hstop: ∀k:Int,k≠0->modErr p i c=k->modulesM p=k:=fun k hk h0=>by
   rw[hm,fe_stop hc (by rw[h0];exact hk)];exact h0
  have hl:=labelR_den c.name s1
  have hl2:=labelR_den c.owner s2
  simp -dsimp -implicitDefEqProofs [go_sem,h3,hc,hl]
  refine csplit (fun h=> ?_) (fun h=> ?_)<;>(try rw[h])<;>(try simp only[bools]at h)<;>(try simp -dsimp -implicitDefEqProofs [go_sem,h3,hl2])
  ·rw[hstop 1 (by decide) (by simp[modErr,h])]
  ·refine csplit (fun h=> ?_) (fun h=> ?_)<;>(try rw[h])<;>(try simp only[bools]at h)<;>(try simp -dsimp -implicitDefEqProofs [go_sem,h3])
   ·rw[hstop 1 (by decide) (by simp[modErr,h])]
   ·have e1:isLabel c.name=true:=by assumption
    have e2:isLabel c.owner=true:=by assumption
    refine loopY 8795556151332 i (fun k f'=>(f' 5).v=vi k/\(p.modules.take k).any (fun d=>d.name.toList==c.name.toList)=false) rfl rfl ⟨by simp -dsimp -implicitDefEqProofs [go_sem],by simp⟩ ?_
    rintro k f' u' kk' bb' hk ⟨h5,hany⟩
    have hw':=wrapS k (by omega)
    simp -dsimp -implicitDefEqProofs [go_sem,h3,h5]
    refine csplit (fun h=> ?_) (fun h=> ?_)<;>(try rw[h])<;>(try simp only[bools]at h)<;>(try simp -dsimp -implicitDefEqProofs [go_sem,h3,h5])
    ·obtain⟨d,hd,hdm⟩:=get_of (show k<p.modules.length by omega)
     simp -dsimp -implicitDefEqProofs [go_sem,h3,h5,hd]
     refine csplit (fun h=> ?_) (fun h=> ?_)<;>(try rw[h])<;>(try simp only[bools]at h)<;>(try simp -dsimp -implicitDefEqProofs [go_sem,h3,h5])
     ·rw[hstop 41 (by decide) (by rw[modErr,if_neg (by simp[e1,e2]),if_pos (any_take_stop hd ‹k<i› (by simpa using h))])]
     ·refine⟨by omega,by simp -dsimp -implicitDefEqProofs [go_sem,hw'],?_⟩
      rw[any_take_succ hd,hany];simpa using h
    ·have:k=i:=by omega
     subst this
     have hab:=absentR_den c.rely
     have ht1:=truthR_den hct c.rely true (-1) (by omega)
     have ht2:=truthR_den hct c.guar true (-1) (by omega)
     have hme:modErr p k c=if(!c.rely.absent&& !truthOk p c.rely true (-1)) || !truthOk p c.guar true (-1)then 60 else if !rising c.frame || !c.frame.all (ofThread p (-1))then 1 else 0:=by
      rw[modErr,if_neg (by simp[e1,e2]),if_neg (by simp[hany])]
     by_cases hr:((!c.rely.absent&& !truthOk p c.rely true (-1)) || !truthOk p c.guar true (-1))=true
     ·rw[hstop 60 (by decide) (by rw[hme,if_pos hr])]
      simp -dsimp -implicitDefEqProofs [go_sem,h3,hab]
      repeat'(refine csplit (fun h=> ?_) (fun h=> ?_)<;>(try rw[h])<;>(try simp only[bools]at h)<;>(try simp -dsimp -implicitDefEqProofs [go_sem,h3,ht1,ht2]))
      all_goals(exfalso;simp_all)
     ·have hfr: ∀(Q:Prop),(c.rely.absent=true->truthOk p c.guar true (-1)=true->Q)->(c.rely.absent=false->truthOk p c.rely true (-1)=true->truthOk p c.guar true (-1)=true->Q)->Q:=fun Q q1 q2=>by
       cases h1:c.rely.absent<;>cases h2:truthOk p c.rely true (-1)<;>cases h3:truthOk p c.guar true (-1)<;>simp_all
      rw[if_neg hr]at hme
      refine hfr _ (fun r1 r2=> ?_) (fun r1 r2 r3=> ?_)
      all_goals(
       (try rw[r1]at hab)
       (try rw[r2]at ht1)
       (try rw[r2]at ht2)
       (try rw[r3]at ht2)
       simp -dsimp -implicitDefEqProofs [go_sem,h3,hab,ht1,ht2]
       refine loopY 2475880076264917540584554564 c.frame.length (fun j f2=>(f2 6).v=vi j/\c.frame.all (ofThread p (-1))=(c.frame.drop j).all (ofThread p (-1))) rfl rfl ⟨by simp -dsimp -implicitDefEqProofs [go_sem],rfl⟩ ?_
       rintro j f2 u2 kk2 bb2 hj ⟨h6,hall⟩
       have hw2:=wrapS j (by omega)
       simp -dsimp -implicitDefEqProofs [go_sem,h3,h6]
       refine csplit (fun h=> ?_) (fun h=> ?_)<;>(try rw[h])<;>(try simp only[bools]at h)<;>(try simp -dsimp -implicitDefEqProofs [go_sem,h3,h6])
       ·obtain⟨d,hd,hdm⟩:=get_of (show j<c.frame.length by omega)
        have hin:=in_den d p.cells.length
        have hno:ofThread p (-1) d=false->1=modulesM p:=fun h0=>by
         rw[hstop 1 (by decide) (by rw[hme,hall,all_stop hd h0];simp)]
        simp -dsimp -implicitDefEqProofs [go_sem,h3,h6,hd,hin]
        refine csplit (fun h=> ?_) (fun h=> ?_)<;>(try rw[h])<;>(try simp only[bools]at h)<;>(try simp -dsimp -implicitDefEqProofs [go_sem,h3,h6])
        ·exact hno (ofThread_out h)
        ·obtain⟨d0,x,hx⟩:=cell_in h
         have hot:=ofThread_at (t:= -1) d0 hx
         simp -dsimp -implicitDefEqProofs [go_sem,h3,h6,hd,d0,hx]
         refine csplit (fun h=> ?_) (fun h=> ?_)<;>(try rw[h])<;>(try simp only[bools]at h)<;>(try simp -dsimp -implicitDefEqProofs [go_sem,h3,h6])
         ·exact hno (by rw[hot];simpa using h)
         ·refine⟨by omega,by simp -dsimp -implicitDefEqProofs [go_sem,hw2],?_⟩
          rw[hall,all_step hd (by rw[hot];simpa using h)]
       ·have:j=c.frame.length:=by omega
        subst this
        rw[all_end]at hall
        rw[hall]at hme
        have hri:=rising_den c.frame (by omega)
        simp -dsimp -implicitDefEqProofs [go_sem,h3,hri]
        refine csplit (fun h=> ?_) (fun h=> ?_)<;>(try rw[h])<;>(try simp only[bools]at h)<;>(try simp -dsimp -implicitDefEqProofs [go_sem,h3])
        ·rw[hstop 1 (by decide) (by rw[hme];simp[h])]
        ·refine⟨by omega,by simp -dsimp -implicitDefEqProofs [go_sem,hw],?_⟩
         rw[hm,fe_step hc (by rw[hme];simp[h])])
 ·have:i=p.modules.length:=by omega
  subst this
  rw[hm,fe_end]
end Rg
end
section
-- FULL
namespace Rg
open Go
theorem cellIs_at {p:Prog} {c:Int} {x:Cell} {g:Cell->Bool} (hx:p.cells[c.toNat]? =some x):cellIs p c g=g x:=by simp[cellIs,hx]
theorem locksR_den (p:Prog) (hs:p.sane) (hcl:cellsM p=0):Den Γ G 87 [(.agg [.t (.sl ((p).cells.map (Cell.enc))),.t (.sl ((p).modules.map (Contract.enc))),.t (.sl ((p).locks.map (Lock.enc))),.t (.sl ((p).threads.map (Thread.enc)))])]=some (vi (locksM p)):=by
 (refine den_ofY Γ87 rfl ?_;dsimp only[f87])
 simp -dsimp -implicitDefEqProofs [go_sem]
 have hct:=cells_thread hcl
 refine loopY 4835703278458516698824700 p.locks.length (fun i f=>(f 3).v=vi i/\locksM p=(feGo (lockErr p) i (p.locks.drop i)).1) rfl rfl ⟨by simp -dsimp -implicitDefEqProofs [go_sem],rfl⟩ ?_
 rintro i f u kk bb hi ⟨h3,hm⟩
 have hbi:=hs.locks
 have hw:=wrapS i (by omega)
 simp -dsimp -implicitDefEqProofs [go_sem,h3]
 refine csplit (fun h=> ?_) (fun h=> ?_)<;>(try rw[h])<;>(try simp only[bools]at h)<;>(try simp -dsimp -implicitDefEqProofs [go_sem,h3])
 ·obtain⟨l,hl,hlm⟩:=get_of ‹i<p.locks.length›
  have hstop: ∀k:Int,k≠0->lockErr p i l=k->locksM p=k:=fun k hk h0=>by
   rw[hm,fe_stop hl (by rw[h0];exact hk)];exact h0
  have hin:=in_den l.cell p.cells.length
  have hin2:=in_den l.module p.modules.length
  simp -dsimp -implicitDefEqProofs [go_sem,h3,hl,hin]
  refine csplit (fun h=> ?_) (fun h=> ?_)<;>(try rw[h])<;>(try simp only[bools]at h)<;>(try simp -dsimp -implicitDefEqProofs [go_sem,h3])
  ·rw[hstop 1 (by decide) (by simp[lockErr,ofThread_out h])]
  ·obtain⟨d0,x,hx⟩:=cell_in h
   have hot:=ofThread_at (t:= -1) d0 hx
   have hc1:=cellIs_at (g:=fun x=>decide (x.w=1)) hx
   have hc2:=cellIs_at (g:=Cell.ghost) hx
   simp -dsimp -implicitDefEqProofs [go_sem,h3,hl,d0,hx]
   by_cases hbad:(!ofThread p (-1) l.cell || !cellIs p l.cell (fun x=>decide (x.w=1))||cellIs p l.cell Cell.ghost || !inR l.module p.modules.length)=true
   ·rw[hstop 1 (by decide) (by rw[lockErr,if_pos hbad])]
    rw[hot,hc1,hc2]at hbad
    repeat'(refine csplit (fun h=> ?_) (fun h=> ?_)<;>(try rw[h])<;>(try simp only[bools]at h)<;>(try simp -dsimp -implicitDefEqProofs [go_sem,h3,hl,d0,hx,hin2]))
    all_goals(exfalso;simp_all)
   ·have hle:lockErr p i l=if(p.locks.take i).any (fun d=>decide (d.cell=l.cell))then 1 else if !truthOk p l.inv false (-1)then 60 else 0:=by rw[lockErr,if_neg hbad]
    rw[hot,hc1,hc2]at hbad
    simp only[Bool.or_eq_true,Bool.not_eq_true',decide_eq_false_iff_not,not_or,Decidable.not_not,Bool.not_eq_true,Bool.not_eq_false]at hbad
    obtain⟨⟨⟨b1,b2⟩,b3⟩,b4⟩:=hbad
    rw[b4]at hin2
    simp -dsimp -implicitDefEqProofs [go_sem,h3,hl,d0,hx,b1,b2,b3,hin2]
    refine loopY 151106504079791792062500 i (fun k f'=>(f' 5).v=vi k/\(p.locks.take k).any (fun d=>decide (d.cell=l.cell))=false) rfl rfl ⟨by simp -dsimp -implicitDefEqProofs [go_sem],by simp⟩ ?_
    rintro k f' u' kk' bb' hk ⟨h5,hany⟩
    have hw':=wrapS k (by omega)
    simp -dsimp -implicitDefEqProofs [go_sem,h3,h5]
    refine csplit (fun h=> ?_) (fun h=> ?_)<;>(try rw[h])<;>(try simp only[bools]at h)<;>(try simp -dsimp -implicitDefEqProofs [go_sem,h3,h5])
    ·obtain⟨d,hd,hdm⟩:=get_of (show k<p.locks.length by omega)
     simp -dsimp -implicitDefEqProofs [go_sem,h3,h5,hd]
     refine csplit (fun h=> ?_) (fun h=> ?_)<;>(try rw[h])<;>(try simp only[bools]at h)<;>(try simp -dsimp -implicitDefEqProofs [go_sem,h3,h5])
     ·rw[hstop 1 (by decide) (by rw[hle,if_pos (any_take_stop hd ‹k<i› (by simpa using h))])]
     ·refine⟨by omega,by simp -dsimp -implicitDefEqProofs [go_sem,hw'],?_⟩
      rw[any_take_succ hd,hany];simpa using h
    ·have:k=i:=by omega
     subst this
     rw[hany]at hle
     have ht1:=truthR_den hct l.inv false (-1) (by omega)
     simp -dsimp -implicitDefEqProofs [go_sem,h3,ht1]
     refine csplit (fun h=> ?_) (fun h=> ?_)<;>(try rw[h])<;>(try simp only[bools]at h)<;>(try simp -dsimp -implicitDefEqProofs [go_sem,h3])
     ·rw[hstop 60 (by decide) (by rw[hle];simp[h])]
     ·refine⟨by omega,by simp -dsimp -implicitDefEqProofs [go_sem,hw],?_⟩
      rw[hm,fe_step hl (by rw[hle];simp[h])]
 ·have:i=p.locks.length:=by omega
  subst this
  rw[hm,fe_end]
end Rg
end
section
namespace Rg
open Go
theorem sup_one {e:Expr} (h:e.one=true) (op:Int) (hop:op≠1):e.sup op=[]:=by
 simp only[Expr.one,decide_eq_true_eq]at h
 obtain⟨h1,h2,h3,h4⟩:=h
 rw[List.eq_nil_iff_forall_not_mem]
 intro c hc
 obtain⟨_,_,x,hx,hxo,_⟩:=sup_mem hc
 rw[Expr.lv_eq,if_pos h4]at hx
 simp only[List.mem_singleton]at hx
 subst hx
 omega
theorem over_one {p:Prog} {e:Expr} (h:e.one=true) (sh:Bool) (t:Int):overOk p e sh t=true:=by
 rw[overOk,sup_one h 3 (by decide),sup_one h 2 (by decide)];rfl
def kindPre (p:Prog) (t:Int) (s:Step):Prop:=overOk p s.guard (decide (s.kind=4)) t=true/\
 ∀(j:Nat) (a:Assign),s.set[j]? =some a->((0<j\/s.kind≠2)->overOk p a.to (decide (s.kind=4)) t=true)/\(ofThread p t a.cell=true\/ofThread p (-1) a.cell=true)
theorem kindOk_pre {p:Prog} {t:Int} {s:Step} (h:kindOk p t s=true) (hk:1<=s.kind/\s.kind<=7):kindPre p t s:=by
 unfold kindOk at h
 split at h
 ·rename_i k
  simp only[valuesOk,Bool.and_eq_true,List.all_eq_true]at h
  refine⟨by simpa[k]using h.1.1,fun j a ha=>⟨fun _=>by simpa[k]using h.1.2 a (List.mem_of_getElem? ha),.inl (h.2 a (List.mem_of_getElem? ha))⟩⟩
 ·split at h
  ·rename_i k
   unfold loadOk at h
   split at h
   ·simp at h
   ·rename_i a r hs
    simp only[Bool.and_eq_true,List.all_eq_true]at h
    obtain⟨⟨⟨⟨⟨⟨g1,g2⟩,g3⟩,g4⟩,g5⟩,g6⟩,g7⟩:=h
    refine⟨by simpa[k]using g1,fun j b hb=> ?_⟩
    rw[hs]at hb
    cases j with
    | zero=>simp at hb;subst hb;exact⟨fun h0=>by simp[k]at h0,.inl g2⟩
    | succ j=>
      simp only[List.getElem?_cons_succ]at hb
      have:=g7 b (List.mem_of_getElem? hb)
      exact⟨fun _=>by simpa[k]using this.2,.inl this.1.1⟩
  ·split at h
   ·rename_i k
    unfold storeOk at h
    split at h
    ·simp at h
    ·rename_i a r hs
     simp only[valuesOk,Bool.and_eq_true,List.all_eq_true]at h
     obtain⟨⟨⟨⟨g1,g2⟩,g3⟩,g4⟩,g5⟩:=h
     refine⟨by simpa[k]using g1,fun j b hb=>⟨fun _=>by simpa[k]using g2 b (List.mem_of_getElem? hb),?_⟩⟩
     rw[hs]at hb
     cases j with
     | zero=>simp at hb;subst hb;exact .inr g3
     | succ j=>
       simp only[List.getElem?_cons_succ]at hb
       have:=(g5 b (List.mem_of_getElem? hb)).2
       simp only[sees,Bool.or_eq_true]at this
       exact this.symm
   ·split at h
    ·rename_i k
     simp only[valuesOk,Bool.and_eq_true,List.all_eq_true]at h
     refine⟨by simpa[k]using h.1.1,fun j a ha=>⟨fun _=>by simpa[k]using h.1.2 a (List.mem_of_getElem? ha),?_⟩⟩
     have:=h.2 a (List.mem_of_getElem? ha)
     simp only[sees,Bool.or_eq_true]at this
     exact this.symm
    ·have key:s.guard.one=true/\s.set=[]:=by
      split at h
      ·simpa using h
      ·split at h
       ·simp only[joinOk,Bool.and_eq_true,decide_eq_true_eq]at h;exact h.1.1.1
       ·simp only[joinOk,Bool.and_eq_true,decide_eq_true_eq]at h;exact h.1.1
     refine⟨over_one key.1 _ _,fun j a ha=>by rw[key.2]at ha;simp at ha⟩
theorem pre_values {p:Prog} {t:Int} {s:Step} (h:kindPre p t s) (hk:s.kind≠2):valuesOk p s (decide (s.kind=4)) t=true:=by
 simp only[valuesOk,Bool.and_eq_true,List.all_eq_true]
 refine⟨h.1,fun a ha=> ?_⟩
 obtain⟨j,hj,rfl⟩:=List.mem_iff_getElem.1 ha
 exact(h.2 j _ (List.getElem?_eq_getElem hj)).1 (.inr hk)
theorem pre_sees {p:Prog} {t:Int} {s:Step} (h:kindPre p t s) {a:Assign} (ha:a∈s.set):sees p t a.cell=true:=by
 obtain⟨j,hj,rfl⟩:=List.mem_iff_getElem.1 ha
 have:=(h.2 j _ (List.getElem?_eq_getElem hj)).2
 simp only[sees,Bool.or_eq_true]
 exact this.symm
theorem kind1 {p:Prog} {t:Int} {s:Step} (h:kindPre p t s) (hk:s.kind=1):kindOk p t s=s.set.all fun a=>ofThread p t a.cell:=by
 have:=pre_values h (by omega)
 rw[kindOk,if_pos hk]
 simp only[hk]at this
 rw[show(decide ((1:Int)=4))=false from rfl]at this
 rw[this,Bool.true_and]
theorem kind2 {p:Prog} {t:Int} {s:Step} (h:kindPre p t s) (hk:s.kind=2) {a:Assign} {r:List Assign} (hs:s.set=a::r):
 kindOk p t s=(ofThread p t a.cell&& !cellIs p a.cell Cell.ghost&&decide (a.to.op=2)&&ofThread p (-1) a.to.n&& !cellIs p a.to.n Cell.ghost&&r.all fun b=>ofThread p t b.cell&&cellIs p b.cell Cell.ghost):=by
 have h1:=h.1
 simp only[hk]at h1
 rw[show(decide ((2:Int)=4))=false from rfl]at h1
 rw[kindOk,if_neg (by omega),if_pos hk,loadOk,hs]
 simp only[h1,Bool.true_and]
 congr 1
 refine all_congr fun b hb=> ?_
 obtain⟨j,hj,rfl⟩:=List.mem_iff_getElem.1 hb
 have:=(h.2 (j+1) r[j] (by rw[hs];simp[hj])).1 (.inl (by omega))
 simp only[hk]at this
 rw[show(decide ((2:Int)=4))=false from rfl]at this
 rw[this,Bool.and_true]
theorem kind3 {p:Prog} {t:Int} {s:Step} (h:kindPre p t s) (hk:s.kind=3) {a:Assign} {r:List Assign} (hs:s.set=a::r):
 kindOk p t s=(ofThread p (-1) a.cell&& !cellIs p a.cell Cell.ghost&&r.all fun b=>cellIs p b.cell Cell.ghost):=by
 have h1:=pre_values h (by omega)
 simp only[hk]at h1
 rw[show(decide ((3:Int)=4))=false from rfl]at h1
 have h2: ∀b∈r,sees p t b.cell=true:=fun b hb=>pre_sees h (by rw[hs];simp[hb])
 rw[kindOk,if_neg (by omega),if_neg (by omega),if_pos hk,storeOk,hs]
 simp only[h1,Bool.true_and]
 congr 1
 refine all_congr fun b hb=> ?_
 rw[h2 b hb,Bool.and_true]
theorem kind4 {p:Prog} {t:Int} {s:Step} (h:kindPre p t s) (hk:s.kind=4):kindOk p t s=true:=by
 have h1:=pre_values h (by omega)
 simp only[hk,decide_true]at h1
 rw[kindOk,if_neg (by omega),if_neg (by omega),if_neg (by omega),if_pos hk,h1,Bool.true_and,List.all_eq_true]
 exact fun a ha=>pre_sees h ha
theorem kind23 {p:Prog} {t:Int} {s:Step} (hk:s.kind=2\/s.kind=3) (hs:s.set=[]):kindOk p t s=false:=by
 rcases hk with hk | hk
 ·rw[kindOk,if_neg (by omega),if_pos hk,loadOk,hs]
 ·rw[kindOk,if_neg (by omega),if_neg (by omega),if_pos hk,storeOk,hs]
def RangeOk (p:Prog) (s:Step):Prop:=s.guard.valid p.cells false=true/\ ∀a∈s.set,inR a.cell p.cells.length=true/\a.to.valid p.cells false=true
theorem valid_cell {p:Prog} {e:Expr} (h:e.valid p.cells false=true) (ho:e.op=2):inR e.n p.cells.length=true:=by
 have hf:e.formed=true:=by unfold Expr.valid at h;simp only[Bool.and_eq_true]at h;exact h.1
 have h0:=nodeOk_n (deep_node (formed_deep hf))
 unfold Expr.valid at h
 simp only[Bool.and_eq_true]at h
 have:=Expr.allE_self h.2
 unfold leafOk at this
 simp only[ho]at this
 rcases hy:p.cells[e.n.toNat]? with _ | y
 ·simp[hy]at this
 ·have:=(List.getElem?_eq_some_iff.1 hy).1
  simp only[inR,decide_eq_true_eq];omega
theorem kindR_den (p:Prog) (hct: ∀c∈p.cells,-1<=c.thread) (t:Int) (ht:0<=t) (s:Step) (hlen:s.set.length<2^48) (hr:RangeOk p s) (hk:1<=s.kind/\s.kind<=7):
 Den Γ G 137 [(.agg [.t (.sl ((p).cells.map (Cell.enc))),.t (.sl ((p).modules.map (Contract.enc))),.t (.sl ((p).locks.map (Lock.enc))),.t (.sl ((p).threads.map (Thread.enc)))]),vi t,(.agg [.t (ti (s).kind),.t (ti (s).fr),.t (ti (s).to),.t (ti ((s).guard).op),.t (ti ((s).guard).w),.t (ti ((s).guard).n),.t (.sl (((s).guard).kids.map Expr.enc)),.t (.sl ((s).set.map Assign.enc)),.t (tb (s).release),.t (ti (s).target),.t (ti (s).module)])]=some (vb (kindOk p t s)):=by
 (refine den_ofY Γ137 rfl ?_;dsimp only[f137])
 have hg:=overV_den hct (valid_in hr.1) (decide (s.kind=4)) t (by omega) (.inr ht)
 have hno: ¬kindPre p t s->false=kindOk p t s:=fun h0=>by
  cases h:kindOk p t s
  ·rfl
  ·exact absurd (kindOk_pre h hk) h0
 simp -dsimp -implicitDefEqProofs only[go_sem,seval,hg]
 refine csplit (fun h=> ?_) (fun h=> ?_)<;>(try rw[h])<;>(try simp only[bools]at h)<;>(try simp -dsimp -implicitDefEqProofs only[go_sem,seval])
 ·exact hno (fun h0=>by rw[h0.1]at h;simp at h)
 ·have hgd:overOk p s.guard (decide (s.kind=4)) t=true:=by assumption
  refine loopY 1180591620717142869568 s.set.length (fun i f=>(f 9).v=vi i/\ ∀(j:Nat) (a:Assign),j<i->s.set[j]? =some a->((0<j\/s.kind≠2)->overOk p a.to (decide (s.kind=4)) t=true)/\(ofThread p t a.cell=true\/ofThread p (-1) a.cell=true)) rfl rfl ⟨by simp -dsimp -implicitDefEqProofs only[go_sem,seval],fun j a hj=>by omega⟩ ?_
  rintro i f u kk bb hi ⟨h9,hpre⟩
  have hw:=wrapS i (by omega)
  simp -dsimp -implicitDefEqProofs only[go_sem,seval,h9]
  refine csplit (fun h=> ?_) (fun h=> ?_)<;>(try rw[h])<;>(try simp only[bools]at h)<;>(try simp -dsimp -implicitDefEqProofs only[go_sem,seval,h9])
  ·obtain⟨a,ha,ham⟩:=get_of ‹i<s.set.length›
   obtain⟨hin,hva⟩:=hr.2 a ham
   have ho:=overV_den hct (valid_in hva) (decide (s.kind=4)) t (by omega) (.inr ht)
   obtain⟨d0,x,hx⟩:=cell_in hin
   have hown:=ownR_den p a.cell t x d0 hx
   have hsh:=sharedR_den p a.cell x d0 hx
   have o1:=ofThread_at (t:=t) d0 hx
   have o2:=ofThread_at (t:= -1) d0 hx
   repeat'(refine csplit (fun h=> ?_) (fun h=> ?_)<;>(try rw[h])<;>(try simp only[bools]at h)<;>(try simp -dsimp -implicitDefEqProofs only[go_sem,seval,h9,ha,ho,hown,hsh]))
   all_goals first
    | (refine hno (fun h0=> ?_)
       have h1:=h0.2 i a ha
       rw[o1,o2]at h1
       have h2:=h1.1
       have h3:=h1.2
       simp_all
       done)
    | (refine⟨by omega,by simp -dsimp -implicitDefEqProofs only[go_sem,seval,hw],fun j b hj hb=> ?_⟩
       by_cases hji:j=i
       ·subst hji
        rw[ha]at hb
        cases hb
        rw[o1,o2]
        simp_all
        done
       ·exact hpre j b (by omega) hb)
    | skip
  ·have hie:i=s.set.length:=by omega
   have hP:kindPre p t s:=⟨hgd,fun j a ha=>hpre j a (by rw[hie];exact(List.getElem?_eq_some_iff.1 ha).1) ha⟩
   clear hpre hg hno hgd
   have hks:s.kind=1\/s.kind=2\/s.kind=3\/s.kind=4\/s.kind=5\/s.kind=6\/s.kind=7:=by omega
   rcases hks with k | k | k | k | k | k | k
   ·have hK:=kind1 hP k
    simp -dsimp -implicitDefEqProofs only[go_sem,seval,k]
    refine loopY 618951130176758658868709440 s.set.length (fun j f'=>(f' 11).v=vi j/\kindOk p t s=(s.set.drop j).all fun a=>ofThread p t a.cell) rfl rfl ⟨by simp -dsimp -implicitDefEqProofs only[go_sem,seval],hK⟩ ?_
    rintro j f' u' kk' bb' hj ⟨h11,hall⟩
    have hw':=wrapS j (by omega)
    simp -dsimp -implicitDefEqProofs only[go_sem,seval,h11]
    refine csplit (fun h=> ?_) (fun h=> ?_)<;>(try rw[h])<;>(try simp only[bools]at h)<;>(try simp -dsimp -implicitDefEqProofs only[go_sem,seval,h11])
    ·obtain⟨a,ha,ham⟩:=get_of ‹j<s.set.length›
     obtain⟨d0,x,hx⟩:=cell_in (hr.2 a ham).1
     have hown:=ownR_den p a.cell t x d0 hx
     have o1:=ofThread_at (t:=t) d0 hx
     simp -dsimp -implicitDefEqProofs only[go_sem,seval,h11,ha,hown]
     refine csplit (fun h=> ?_) (fun h=> ?_)<;>(try rw[h])<;>(try simp only[bools]at h)<;>(try simp -dsimp -implicitDefEqProofs only[go_sem,seval,h11])
     ·rw[hall,all_stop ha (by rw[o1];simpa using h)]
     ·refine⟨by omega,by simp -dsimp -implicitDefEqProofs only[go_sem,seval,hw'],?_⟩
      rw[hall,all_step ha (by rw[o1];simpa using h)]
    ·have:j=s.set.length:=by omega
     subst this
     rw[hall,all_end]
   ·rcases hs:s.set with _ | ⟨a,r⟩
    ·rw[kind23 (.inl k) hs]
     simp -dsimp -implicitDefEqProofs only[go_sem,seval,k,hs]
    ·have hK:=kind2 hP k hs
     have hsl:s.set.length=r.length+1:=by rw[hs];rfl
     have h0:s.set[0]? =some a:=by rw[hs];rfl
     have ham:a∈s.set:=by rw[hs];simp
     obtain⟨d0,x,hx⟩:=cell_in (hr.2 a ham).1
     have hown:=ownR_den p a.cell t x d0 hx
     have o1:=ofThread_at (t:=t) d0 hx
     have o2:=cellIs_at (g:=Cell.ghost) hx
     have hne: ¬(((r.length+1:Nat):Int)=0):=by omega
     simp -dsimp -implicitDefEqProofs only[go_sem,seval,k,hsl,hne,h0,hown]
     refine csplit (fun h=> ?_) (fun h=> ?_)<;>(try rw[h])<;>(try simp only[bools]at h)<;>(try simp -dsimp -implicitDefEqProofs only[go_sem,seval,k,hsl,h0,d0,hx])
     ·rw[hK,o1];simp[h]
     ·have e1:x.thread=t:=by assumption
      refine csplit (fun h=> ?_) (fun h=> ?_)<;>(try rw[h])<;>(try simp only[bools]at h)<;>(try simp -dsimp -implicitDefEqProofs only[go_sem,seval,k,hsl,h0,d0,hx])
      ·rw[hK,o2];simp[h]
      ·have e2:x.ghost=false:=by assumption
       refine csplit (fun h=> ?_) (fun h=> ?_)<;>(try rw[h])<;>(try simp only[bools]at h)<;>(try simp -dsimp -implicitDefEqProofs only[go_sem,seval,k,hsl,h0,d0,hx])
       ·rw[hK];simp[h]
       ·have e3:a.to.op=2:=by assumption
        obtain⟨d1,y,hy⟩:=cell_in (valid_cell (hr.2 a ham).2 e3)
        have hsh:=sharedR_den p a.to.n y d1 hy
        have q1:=ofThread_at (t:= -1) d1 hy
        have q2:=cellIs_at (g:=Cell.ghost) hy
        simp -dsimp -implicitDefEqProofs only[go_sem,seval,hsh]
        refine csplit (fun h=> ?_) (fun h=> ?_)<;>(try rw[h])<;>(try simp only[bools]at h)<;>(try simp -dsimp -implicitDefEqProofs only[go_sem,seval,d1,hy])
        ·rw[hK,q1];simp[h]
        ·have e4:y.thread= -1:=by assumption
         refine csplit (fun h=> ?_) (fun h=> ?_)<;>(try rw[h])<;>(try simp only[bools]at h)<;>(try simp -dsimp -implicitDefEqProofs only[go_sem,seval,d1,hy])
         ·rw[hK,q2];simp[h]
         ·rw[o1,o2,q1,q2]at hK
          simp only[e1,e2,e3,e4,h,decide_true,Bool.not_false,Bool.and_true,Bool.true_and]at hK
          refine loopY 748288836919625719212122688004754514023314867888192 r.length (fun j f'=>(f' 13).v=vi ((j+1:Nat):Int)/\kindOk p t s=(r.drop j).all fun b=>ofThread p t b.cell&&cellIs p b.cell Cell.ghost) rfl rfl ⟨by simp -dsimp -implicitDefEqProofs only[go_sem,seval],hK⟩ ?_
          rintro j f' u' kk' bb' hj ⟨h13,hall⟩
          have hw':=wrapS (j+1) (by omega)
          simp -dsimp -implicitDefEqProofs only[go_sem,seval,h13,hsl]
          refine csplit (fun h=> ?_) (fun h=> ?_)<;>(try rw[h])<;>(try simp only[bools]at h)<;>(try simp -dsimp -implicitDefEqProofs only[go_sem,seval,h13,hsl])
          ·obtain⟨b,hb,hbr⟩:=get_of (show j<r.length by omega)
           have hb':s.set[j+1]? =some b:=by rw[hs];exact hb
           obtain⟨d2,z,hz⟩:=cell_in (hr.2 b (by rw[hs];simp[hbr])).1
           have hown':=ownR_den p b.cell t z d2 hz
           have z1:=ofThread_at (t:=t) d2 hz
           have z2:=cellIs_at (g:=Cell.ghost) hz
           simp -dsimp -implicitDefEqProofs only[go_sem,seval,h13,hb,hown']
           repeat'(refine csplit (fun h=> ?_) (fun h=> ?_)<;>(try rw[h])<;>(try simp only[bools]at h)<;>(try simp -dsimp -implicitDefEqProofs only[go_sem,seval,h13,hb,d2,hz]))
           all_goals first
            | (rw[hall,all_stop hb (by rw[z1,z2];simp[*])];done)
            | (refine⟨by omega,by simp -dsimp -implicitDefEqProofs only[go_sem,seval,hw'],?_⟩
               rw[hall,all_step hb (by rw[z1,z2];simp[*])])
          ·have:j=r.length:=by omega
           subst this
           rw[hall,all_end]
   ·rcases hs:s.set with _ | ⟨a,r⟩
    ·rw[kind23 (.inr k) hs]
     simp -dsimp -implicitDefEqProofs only[go_sem,seval,k,hs]
    ·have hK:=kind3 hP k hs
     have hsl:s.set.length=r.length+1:=by rw[hs];rfl
     have h0:s.set[0]? =some a:=by rw[hs];rfl
     have ham:a∈s.set:=by rw[hs];simp
     obtain⟨d0,x,hx⟩:=cell_in (hr.2 a ham).1
     have hsh:=sharedR_den p a.cell x d0 hx
     have o1:=ofThread_at (t:= -1) d0 hx
     have o2:=cellIs_at (g:=Cell.ghost) hx
     have hne: ¬(((r.length+1:Nat):Int)=0):=by omega
     simp -dsimp -implicitDefEqProofs only[go_sem,seval,k,hsl,hne,h0,hsh]
     refine csplit (fun h=> ?_) (fun h=> ?_)<;>(try rw[h])<;>(try simp only[bools]at h)<;>(try simp -dsimp -implicitDefEqProofs only[go_sem,seval,k,hsl,h0,d0,hx])
     ·rw[hK,o1];simp[h]
     ·have e1:x.thread= -1:=by assumption
      refine csplit (fun h=> ?_) (fun h=> ?_)<;>(try rw[h])<;>(try simp only[bools]at h)<;>(try simp -dsimp -implicitDefEqProofs only[go_sem,seval,k,hsl,h0,d0,hx])
      ·rw[hK,o2];simp[h]
      ·rw[o1,o2]at hK
       simp only[e1,h,decide_true,Bool.not_false,Bool.and_true,Bool.true_and]at hK
       refine loopY 6581968012470941075173766043914016358599614643690763741118349376 r.length (fun j f'=>(f' 14).v=vi ((j+1:Nat):Int)/\kindOk p t s=(r.drop j).all fun b=>cellIs p b.cell Cell.ghost) rfl rfl ⟨by simp -dsimp -implicitDefEqProofs only[go_sem,seval],hK⟩ ?_
       rintro j f' u' kk' bb' hj ⟨h13,hall⟩
       have hw':=wrapS (j+1) (by omega)
       simp -dsimp -implicitDefEqProofs only[go_sem,seval,h13,hsl]
       refine csplit (fun h=> ?_) (fun h=> ?_)<;>(try rw[h])<;>(try simp only[bools]at h)<;>(try simp -dsimp -implicitDefEqProofs only[go_sem,seval,h13,hsl])
       ·obtain⟨b,hb,hbr⟩:=get_of (show j<r.length by omega)
        have hb':s.set[j+1]? =some b:=by rw[hs];exact hb
        obtain⟨d2,z,hz⟩:=cell_in (hr.2 b (by rw[hs];simp[hbr])).1
        have z2:=cellIs_at (g:=Cell.ghost) hz
        simp -dsimp -implicitDefEqProofs only[go_sem,seval,h13,hb,d2,hz]
        refine csplit (fun h=> ?_) (fun h=> ?_)<;>(try rw[h])<;>(try simp only[bools]at h)<;>(try simp -dsimp -implicitDefEqProofs only[go_sem,seval,h13])
        ·rw[hall,all_stop hb (by rw[z2];simp[h])]
        ·refine⟨by omega,by simp -dsimp -implicitDefEqProofs only[go_sem,seval,hw'],?_⟩
         rw[hall,all_step hb (by rw[z2];simp[h])]
       ·have:j=r.length:=by omega
        subst this
        rw[hall,all_end]
   ·rw[kind4 hP k]
    simp -dsimp -implicitDefEqProofs only[go_sem,seval,k]
   all_goals(
    have ho:=oneR_den
    have hsame:=sameOne_den s.guard
    have hin:=in_den s.target p.threads.length
    have hkd:kindOk p t s=(if s.kind=5 then s.guard.one&&decide (s.set=[])else if s.kind=6 then joinOk p t s&&asleepAt p s.target else joinOk p t s):=by
     rw[kindOk,if_neg (by omega),if_neg (by omega),if_neg (by omega),if_neg (by omega)]
    simp only[k]at hkd
    rw[show decide (s.guard.op=1/\s.guard.w=1/\s.guard.n=1/\s.guard.kids=[])=s.guard.one from rfl]at hsame
    by_cases hn:s.set=[]
    ·have hn0:s.set.length=0:=by rw[hn];rfl
     by_cases hit:inR s.target p.threads.length=true
     ·have hit':=hit
      simp only[inR,decide_eq_true_eq]at hit'
      obtain⟨t0,t1⟩:=hit'
      obtain⟨y,hy⟩: ∃y,p.threads[s.target.toNat]? =some y:=⟨_,List.getElem?_eq_getElem (by omega)⟩
      have hasl:asleepAt p s.target=y.asleep:=by simp[asleepAt,hy]
      rw[hit]at hin
      simp -dsimp -implicitDefEqProofs only[go_sem,seval,k,hn0,ho,hsame]
      repeat'(refine csplit (fun h=> ?_) (fun h=> ?_)<;>(try rw[h])<;>(try simp only[bools]at h)<;>(try simp -dsimp -implicitDefEqProofs only[go_sem,seval,k,hin,t0,hy]))
      all_goals(
       rw[hkd]
       simp[joinOk, *])
     ·have hit:inR s.target p.threads.length=false:=by simpa using hit
      rw[hit]at hin
      simp -dsimp -implicitDefEqProofs only[go_sem,seval,k,hn0,ho,hsame]
      repeat'(refine csplit (fun h=> ?_) (fun h=> ?_)<;>(try rw[h])<;>(try simp only[bools]at h)<;>(try simp -dsimp -implicitDefEqProofs only[go_sem,seval,k,hin]))
      all_goals(
       rw[hkd]
       simp[joinOk, *])
    ·have hn0:(s.set.length:Int)>0:=by have:=List.length_pos_iff.2 hn;omega
     simp -dsimp -implicitDefEqProofs only[go_sem,seval,k,hn0]
     rw[hkd]
     simp[joinOk,hn])
end Rg
end
section
-- FULL
namespace Rg
open Go
theorem setErr_range {p:Prog} {set:List Assign}: ∀{l:List Assign} {i:Nat},(feGo (setErr p set) i l).1=0-> ∀a∈l,inR a.cell p.cells.length=true/\a.to.valid p.cells false=true
 | [],_,_,a,ha=>by simp at ha
 | x::r,i,h,a,ha=>by
   rw[feGo]at h
   split at h
   ·rename_i h0
    rcases List.mem_cons.1 ha with rfl | ha
    ·unfold setErr at h0
     split at h0
     ·simp at h0
     ·rename_i h1
      split at h0
      ·simp at h0
      ·rename_i h2
       simp only[Bool.or_eq_true,not_or,Bool.not_eq_true',Bool.not_eq_false]at h1 h2
       exact⟨h1.1,h2.1⟩
    ·exact setErr_range h a ha
   ·rename_i h0;exact absurd h h0
set_option maxHeartbeats 4000000 in
theorem stepR_den (p:Prog) (hct: ∀c∈p.cells,-1<=c.thread) (t:Int) (ht:0<=t) (x:Thread) (hx:p.threads[t.toNat]? =some x) (hxp: -2^48<x.points/\x.points<2^48) (s:Step) (hlen:s.set.length<2^48):
 Den Γ G 114 [(.agg [.t (.sl ((p).cells.map (Cell.enc))),.t (.sl ((p).modules.map (Contract.enc))),.t (.sl ((p).locks.map (Lock.enc))),.t (.sl ((p).threads.map (Thread.enc)))]),vi t,(.agg [.t (ti (s).kind),.t (ti (s).fr),.t (ti (s).to),.t (ti ((s).guard).op),.t (ti ((s).guard).w),.t (ti ((s).guard).n),.t (.sl (((s).guard).kids.map Expr.enc)),.t (.sl ((s).set.map Assign.enc)),.t (tb (s).release),.t (ti (s).target),.t (ti (s).module)])]=some (vi (stepErr p t x.points s)):=by
 (refine den_ofY Γ114 rfl ?_;dsimp only[f114])
 have hw1:IntKind.i64.wrap (x.points-1)=x.points-1:=wrap64 (by omega)
 have hi1:=in_den s.fr (x.points-1)
 have hi2:=in_den s.to x.points
 have hi3:=in_den s.module p.modules.length
 have hv:=validE_den s.guard p.cells false
 simp -dsimp -implicitDefEqProofs [go_sem,ht,hx]
 by_cases hbad:stepBad p x.points s=true
 ·rw[stepErr,if_pos hbad]
  repeat'(refine csplit (fun h=> ?_) (fun h=> ?_)<;>(try rw[h])<;>(try simp only[bools]at h)<;>(try simp -dsimp -implicitDefEqProofs [go_sem,ht,hx,hw1,hi1,hi2,hi3]))
  all_goals(exfalso;simp only[stepBad,Bool.or_eq_true,Bool.and_eq_true,Bool.not_eq_true',decide_eq_true_eq]at hbad;simp_all;try omega)
 ·have hse:stepErr p t x.points s=if !s.guard.valid p.cells false||decide (s.guard.w≠1)then 60 else if ¬(feGo (setErr p s.set) 0 s.set).1=0 then(feGo (setErr p s.set) 0 s.set).1 else if kindOk p t s then 0 else 70:=by rw[stepErr,if_neg hbad]
  have hb':stepBad p x.points s=false:=by simpa using hbad
  simp only[stepBad,Bool.or_eq_false_iff,Bool.and_eq_false_iff,Bool.not_eq_false',decide_eq_false_iff_not]at hb'
  obtain⟨⟨⟨⟨⟨⟨b1,b2⟩,b3⟩,b4⟩,b5⟩,b6⟩,b7⟩:=hb'
  rw[b3]at hi1
  rw[b4]at hi2
  rw[b5]at hi3
  have hcs: ∀Q:Prop,(∀(c3 c6 c7 r tz:Bool),decide (s.kind=6)=c6->decide (s.kind=7)=c7->decide (s.kind=3)=c3->s.release=r->decide (s.target=0)=tz->
   ((c6=true/\r=false)\/(c6=false/\c7=true/\r=false)\/(c6=false/\c7=false/\tz=true/\r=false)\/(c6=false/\c7=false/\tz=true/\r=true/\c3=true))->Q)->Q:=fun Q q=>by
   refine q _ _ _ _ _ rfl rfl rfl rfl rfl ?_
   simp only[decide_eq_true_eq,decide_eq_false_iff_not]
   by_cases h6:s.kind=6<;>by_cases h7:s.kind=7<;>by_cases h3:s.kind=3<;>cases hr:s.release<;>by_cases hz:s.target=0<;>simp_all
  refine hcs _ (fun c3 c6 c7 r tz e6 e7 e3 er ez hc=> ?_)
  have hmid:s.guard.valid p.cells false=true->s.guard.w=1->stepErr p t x.points s=if ¬(feGo (setErr p s.set) 0 s.set).1=0 then(feGo (setErr p s.set) 0 s.set).1 else if kindOk p t s then 0 else 70:=fun g1 g2=>by rw[hse,if_neg (by simp[g1,g2])]
  have hg60:(s.guard.valid p.cells false=false\/ ¬s.guard.w=1)->stepErr p t x.points s=60:=fun g=>by rw[hse,if_pos (by rcases g with g | g<;>simp[g])]
  have b1':1<=s.kind/\s.kind<=7:=by omega
  have e3':(decide ¬s.kind=3)= !c3:=by rw[<- e3];simp
  have ez':(decide ¬s.target=0)= !tz:=by rw[<- ez];simp
  rcases hc with⟨rfl,rfl⟩ | ⟨rfl,rfl,rfl⟩ | ⟨rfl,rfl,rfl,rfl⟩ | ⟨rfl,rfl,rfl,rfl,rfl⟩
  all_goals(try cases tz)
  all_goals(try cases c3)
  all_goals(try(exfalso;simp only[decide_eq_true_eq]at e3 e6 e7;omega))
  all_goals(
   (try simp only[Bool.not_true,Bool.not_false]at e3' ez')
   simp -dsimp -implicitDefEqProofs [go_sem,ht,hx,hw1,hi1,hi2,hi3,b1,b2,e6,e7,e3',ez',er,hv]
   repeat'(refine csplit (fun h=> ?_) (fun h=> ?_)<;>(try rw[h])<;>(try simp only[bools]at h)<;>(try simp -dsimp -implicitDefEqProofs [go_sem,hv])))
  all_goals(try(rw[hg60 (.inl ‹_›)];done))
  all_goals(try(rw[hg60 (.inr ‹_›)];done))
  all_goals(
   have hmid:=hmid ‹_› ‹_›
   have hgv:s.guard.valid p.cells false=true:=by assumption
   clear hcs hg60 hse hv hi1 hi2 hi3 e3' ez' er e3
   refine loopY 89202980794122492256657863269248377299144256 s.set.length (fun i f=>(f 9).v=vi i/\feGo (setErr p s.set) 0 s.set=feGo (setErr p s.set) i (s.set.drop i)) rfl rfl ⟨by simp -dsimp -implicitDefEqProofs [go_sem],rfl⟩ ?_
   rintro i f u kk bb hi ⟨h9,hm⟩
   have hw:=wrapS i (by omega)
   simp -dsimp -implicitDefEqProofs [go_sem,h9]
   refine csplit (fun h=> ?_) (fun h=> ?_)<;>(try rw[h])<;>(try simp only[bools]at h)<;>(try simp -dsimp -implicitDefEqProofs [go_sem,h9])
   ·obtain⟨a,ha,ham⟩:=get_of ‹i<s.set.length›
    have hi1:=in_den a.cell p.cells.length
    have hstop: ∀k:Int,k≠0->setErr p s.set i a=k->stepErr p t x.points s=k:=fun k hk h0=>by
     have h2:=hm.trans (fe_stop ha (by rw[h0];exact hk))
     rw[hmid,h2,h0,if_pos hk]
    simp -dsimp -implicitDefEqProofs [go_sem,h9,ha,hi1]
    refine csplit (fun h=> ?_) (fun h=> ?_)<;>(try rw[h])<;>(try simp only[bools]at h)<;>(try simp -dsimp -implicitDefEqProofs [go_sem,h9])
    ·rw[hstop 70 (by decide) (by simp[setErr,h])]
    ·have hir:inR a.cell p.cells.length=true:=by assumption
     obtain⟨d0,y,hy⟩:=cell_in hir
     refine loopY 1329065736508086659540415482270058560 i (fun k f'=>(f' 11).v=vi k/\(s.set.take k).any (fun b=>decide (b.cell=a.cell))=false) rfl rfl ⟨by simp -dsimp -implicitDefEqProofs [go_sem],by simp⟩ ?_
     rintro k f' u' kk' bb' hk ⟨h11,hany⟩
     have hw':=wrapS k (by omega)
     simp -dsimp -implicitDefEqProofs [go_sem,h9,h11]
     refine csplit (fun h=> ?_) (fun h=> ?_)<;>(try rw[h])<;>(try simp only[bools]at h)<;>(try simp -dsimp -implicitDefEqProofs [go_sem,h9,h11])
     ·obtain⟨d,hd,hdm⟩:=get_of (show k<s.set.length by omega)
      simp -dsimp -implicitDefEqProofs [go_sem,h9,h11,hd]
      refine csplit (fun h=> ?_) (fun h=> ?_)<;>(try rw[h])<;>(try simp only[bools]at h)<;>(try simp -dsimp -implicitDefEqProofs [go_sem,h9,h11])
      ·rw[hstop 70 (by decide) (by rw[setErr,if_pos (by rw[any_take_stop hd ‹k<i› (by simpa using h)];simp)])]
      ·refine⟨by omega,by simp -dsimp -implicitDefEqProofs [go_sem,hw'],?_⟩
       rw[any_take_succ hd,hany];simpa using h
     ·have:k=i:=by omega
      subst this
      have hv2:=validE_den a.to p.cells false
      have hci:=cellIs_at (g:=fun x=>decide (a.to.w=x.w)) hy
      have hsx:setErr p s.set k a=if !a.to.valid p.cells false || !cellIs p a.cell (fun x=>decide (a.to.w=x.w))then 60 else 0:=by
       rw[setErr,if_neg (by rw[hir,hany];simp)]
      rw[hci]at hsx
      simp -dsimp -implicitDefEqProofs [go_sem,h9,ha,hv2]
      refine csplit (fun h=> ?_) (fun h=> ?_)<;>(try rw[h])<;>(try simp only[bools]at h)<;>(try simp -dsimp -implicitDefEqProofs [go_sem,h9,ha,d0,hy])
      ·rw[hstop 60 (by decide) (by rw[hsx];simp[h])]
      ·have hvt:a.to.valid p.cells false=true:=by assumption
       refine csplit (fun h=> ?_) (fun h=> ?_)<;>(try rw[h])<;>(try simp only[bools]at h)<;>(try simp -dsimp -implicitDefEqProofs [go_sem,h9,ha,d0,hy])
       ·rw[hstop 60 (by decide) (by rw[hsx];simp[h])]
       ·refine⟨by omega,by simp -dsimp -implicitDefEqProofs [go_sem,hw],?_⟩
        rw[hm,fe_step ha (by rw[hsx];simp[h,hvt])]
   ·have:i=s.set.length:=by omega
    subst this
    rw[fe_end]at hm
    rw[hm,if_neg (by simp)]at hmid
    have hkd:=kindR_den p hct t ht s hlen ⟨hgv,setErr_range (i:=0) (set:=s.set) (by rw[hm])⟩ b1'
    simp -dsimp -implicitDefEqProofs [go_sem,hkd]
    refine csplit (fun h=> ?_) (fun h=> ?_)<;>(try rw[h])<;>(try simp only[bools]at h)<;>(try simp -dsimp -implicitDefEqProofs [go_sem])
    ·rw[hmid];simp[h]
    ·rw[hmid];simp[h])
end Rg
end
