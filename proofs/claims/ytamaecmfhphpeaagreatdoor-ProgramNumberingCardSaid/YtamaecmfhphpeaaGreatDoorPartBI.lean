/- Part of the proof of the laws of the package relyguardlaw07: an abstract machine for the program's functions, what they compute, and that the machine is the program's. No condition. (H32a H32j H32h H32c H32i H33a H33b H33c H33d H33e H36e) -/
import Derived.Test.YtamaecmfhphpeaaGreatDoorPartBF
import Derived.Test.YtamaecmfhphpeaaGreatDoorPartBB
import Derived.Test.YtamaecmfhphpeaaGreatDoorPartBH
import Derived.Test.YtamaecmfhphpeaaGreatDoorPartBD
import Derived.Test.YtamaecmfhphpeaaGreatDoorPartBC
set_option linter.unusedSimpArgs false
set_option linter.unusedVariables false
section
set_option maxRecDepth 100000
namespace Rg
open Go
theorem idxN_count {α:Type} (f:α->Bool) (l:List α) (c:Nat) : ∀ i,i<=l.length->(idxN f l i).countP (fun y=>decide (y=(c:Int)))=if c<i/\(l[c]?.any f)=true then 1 else 0
 | 0,_=>by simp [idxN_zero]
 | i+1,hi=>by
  obtain ⟨x,hx⟩ : ∃ x,l[i]? = some x:=⟨_,List.getElem?_eq_getElem (by omega)⟩
  rw [idxN_succ f hx,List.countP_append,idxN_count f l c i (by omega)]
  by_cases hc:c=i
  ·subst hc
   rw [hx]
   cases hf:f x <;> simp [hf]
  ·have h1:c<i+1<->c<i:=by omega
   have:List.countP (fun y=>decide (y=(c:Int))) (if f x=true then [(i:Int)] else [])=0:=by
    cases f x <;> simp; omega
   rw [this,Nat.add_zero]; simp only [h1]
theorem idxM_count {α:Type} (f:α->Bool) {l:List α} {c:Nat} {x:α} (hx:l[c]? = some x):(idxM f l).countP (fun y=>decide (y=(c:Int)))=if f x then 1 else 0:=by
 unfold idxM
 rw [idxN_count f l c _ (Nat.le_refl _),hx]
 have:=(List.getElem?_eq_some_iff.1 hx).1
 simp [this]
theorem idxM_nil {α:Type} (f:α->Bool) {l:List α} (h : ∀ x∈l,f x=false):idxM f l=[]:=by
 unfold idxM
 have : ∀ i,i<=l.length->idxN f l i=[]:=by
  intro i
  induction i with
  | zero=>intro _; exact idxN_zero f l
  | succ i ih =>
   intro hi
   obtain ⟨x,hx⟩ : ∃ x,l[i]? = some x:=⟨_,List.getElem?_eq_getElem (by omega)⟩
   rw [idxN_succ f hx,ih (by omega),h x (List.mem_of_getElem? hx)]; simp
 exact this _ (Nat.le_refl _)
theorem shared_count {p:Prog} {c:Nat} {x:Cell} (hx:p.cells[c]? = some x):(ofM p (-1)).countP (fun y=>decide (y=(c:Int)))=if x.thread = -1 then 1 else 0:=by
 unfold ofM
 rw [idxM_count _ hx]; simp
theorem locals_count {p:Prog} {c:Nat} {x:Cell} (hx:p.cells[c]? = some x) (t:Nat):(localsM p t).countP (fun y=>decide (y=(c:Int)))=if x.thread=t then 1 else 0:=by
 unfold localsM ofM
 rw [if_neg (by omega),idxM_count _ hx]; simp
theorem steps_count {p:Prog} {t s:Nat} {x:Thread} {y:Step} (hx:p.threads[t]? = some x) (hy:x.steps[s]? = some y) (k:Int):(stepsM p t k).countP (fun z=>decide (z=(s:Int)))=if y.fr=k then 1 else 0:=by
 have ht:=(List.getElem?_eq_some_iff.1 hx).1
 unfold stepsM
 rw [if_pos (by simp [inR]; omega),Int.toNat_natCast,hx,idxM_count _ hy]; simp
theorem Prog.ok.cell {p:Prog} (h:p.ok) {c:Nat} {x:Cell} (hx:p.cells[c]? = some x) : -1<=x.thread/\x.thread<p.threads.length:=by
 have:=(cellErr_iff.1 ((ok_iff.1 h).cells c x hx)).1
 simp only [cellBad,Bool.or_eq_false_iff,decide_eq_false_iff_not] at this
 omega
theorem Prog.ok.thr {p:Prog} (h:p.ok) {t:Nat} {x:Thread} (hx:p.threads[t]? = some x):1<=x.points/\x.points<=48:=by
 have h1:=(threadErr_iff.1 ((ok_iff.1 h).threads t x hx)).2.2.1.1
 have h2:=((limits_iff.1 (ok_iff.1 h).lim).2 x (List.mem_of_getElem? hx)).1
 exact ⟨h1,h2⟩
theorem Prog.ok.step {p:Prog} (h:p.ok) {t s:Nat} {x:Thread} {y:Step} (hx:p.threads[t]? = some x) (hy:x.steps[s]? = some y):0<=y.fr/\y.fr<x.points-1:=by
 have h1:=(threadErr_iff.1 ((ok_iff.1 h).threads t x hx)).2.2.2.2.2.1 s y hy
 have h2:=(stepErr_iff.1 h1).1
 simp only [stepBad,Bool.or_eq_false_iff,decide_eq_false_iff_not,Bool.not_eq_false',inR,decide_eq_true_eq] at h2
 omega
theorem exit_nil {p:Prog} (h:p.ok) {t:Nat} {x:Thread} (hx:p.threads[t]? = some x):stepsM p t (x.points-1)=[]:=by
 have ht:=(List.getElem?_eq_some_iff.1 hx).1
 unfold stepsM
 rw [if_pos (by simp [inR]; omega),Int.toNat_natCast,hx]
 refine idxM_nil _ fun y hy => ?_
 obtain ⟨s,hs,rfl⟩:=List.mem_iff_getElem.1 hy
 have:=h.step hx (List.getElem?_eq_getElem hs)
 simp; omega
theorem good7_ok {L:Int} {p:Prog} (h:good7M L p=true):p.ok:=by
 unfold good7M at h
 simp only [Bool.and_eq_true,decide_eq_true_eq] at h
 exact h.2
theorem good7_small {L:Int} {p:Prog} (h:good7M L p=true):p.SmallP L:=by
 unfold good7M at h
 simp only [Bool.and_eq_true,decide_eq_true_eq] at h
 exact progSmall_of h.1
def bi (b:Bool):Int:=if b then 1 else 0
theorem bi_wrap (b:Bool):IntKind.i64.wrap (bi b)=bi b:=by cases b <;> rfl
theorem shared_bi {p:Prog} {c:Nat} {x:Cell} (hx:p.cells[c]? = some x):(((ofM p (-1)).countP (fun y=>decide (y=(c:Int))):Nat):Int)=bi (decide (x.thread = -1)):=by
 rw [shared_count hx]; by_cases h:x.thread = -1 <;> simp [h,bi]
theorem locals_bi {p:Prog} {c:Nat} {x:Cell} (hx:p.cells[c]? = some x) (t:Nat):(((localsM p t).countP (fun y=>decide (y=(c:Int))):Nat):Int)=bi (decide (x.thread=t)):=by
 rw [locals_count hx]; by_cases h:x.thread=t <;> simp [h,bi]
theorem steps_bi {p:Prog} {t s:Nat} {x:Thread} {y:Step} (hx:p.threads[t]? = some x) (hy:x.steps[s]? = some y) (k:Int):(((stepsM p t k).countP (fun z=>decide (z=(s:Int))):Nat):Int)=bi (decide (y.fr=k)):=by
 rw [steps_count hx hy]; by_cases h:y.fr=k <;> simp [h,bi]
theorem bi_add (a:Int) (k:Nat):bi (decide (a<(k:Int)))+bi (decide (a=k))=bi (decide (a<((k+1:Nat):Int))):=by
 unfold bi
 simp only [decide_eq_true_eq]
 split <;> split <;> split <;> omega
theorem bi_one {b:Bool} (h:b=true):bi b=1:=by rw [h]; rfl
theorem lawCells_den (p:Prog) (hl:p.lite7):Den Γ G 209 [(.agg [.t (.sl ((p).cells.map (Cell.enc))), .t (.sl ((p).modules.map (Contract.enc))), .t (.sl ((p).locks.map (Lock.enc))), .t (.sl ((p).threads.map (Thread.enc)))])]=some (vb true):=by
 (refine den_ofY Γ209 rfl ?_; dsimp only [f209])
 have h0:=head7_den
 have h1:=good7_den p hl 40 (by decide)
 cases hg:good7M 40 p
 ·rw [hg] at h1
  simp -dsimp -implicitDefEqProofs only [go_sem,seval,h0,h1]
 rw [hg] at h1
 have hok:=good7_ok hg
 have hsm:=good7_small hg
 have hcl:=hsm.cells
 have htl:=hsm.threads
 have hsh:=sharedLP_den p (by omega)
 simp -dsimp -implicitDefEqProofs only [go_sem,seval,h0,h1]
 refine loopY 17592185913460 p.cells.length (fun i f=>(f 4).v=vi i) rfl rfl (by simp -dsimp -implicitDefEqProofs only [go_sem,seval]) ?_
 rintro i f u kk bq hi h4
 have hw:=wrapS i (by omega)
 simp -dsimp -implicitDefEqProofs only [go_sem,seval,h4]
 refine csplit (fun h => ?_) (fun h => ?_) <;> (try rw [h]) <;> (try simp only [bools] at h) <;> (try simp -dsimp -implicitDefEqProofs only [go_sem,seval,h4])
 ·obtain ⟨c,hc,_⟩:=get_of ‹i<p.cells.length›
  have hct:=hok.cell hc
  have ht:=times_den (ofM p (-1)) i (by unfold ofM; exact Nat.lt_of_le_of_lt (idxN_len _ _ _) (by omega))
  rw [shared_bi hc] at ht
  simp -dsimp -implicitDefEqProofs only [go_sem,seval,h4,hsh,ht]
  refine loopY 4397778075744 p.threads.length (fun t f1=>(f1 6).v=vi t/\(f1 5).v=vi (bi (decide (c.thread<(t:Int))))) rfl rfl ⟨by simp -dsimp -implicitDefEqProofs only [go_sem,seval], ?_⟩ ?_
  ·simp -dsimp -implicitDefEqProofs only [go_sem,seval]
   have:decide (c.thread = -1)=decide (c.thread<((0:Nat):Int)):=by congr 1; apply propext; omega
   rw [this]; rfl
  ·rintro t f1 u1 k1 b1 ht1 ⟨h6,h5⟩
   have hw1:=wrapS t (by omega)
   simp -dsimp -implicitDefEqProofs only [go_sem,seval,h6,h5]
   refine csplit (fun h => ?_) (fun h => ?_) <;> (try rw [h]) <;> (try simp only [bools] at h) <;> (try simp -dsimp -implicitDefEqProofs only [go_sem,seval,h6,h5])
   ·have hlo:=localsP_den p t (by omega)
    have ht2:=times_den (localsM p t) i (by unfold localsM ofM; split <;> first | (exact Nat.lt_of_le_of_lt (idxN_len _ _ _) (by omega)) | simp)
    rw [locals_bi hc] at ht2
    have hba:=bi_add c.thread t
    have hbw:=bi_wrap (decide (c.thread<((t+1:Nat):Int)))
    simp -dsimp -implicitDefEqProofs only [go_sem,seval,h4,h6,h5,hlo,ht2]
    show _/\_
    refine ⟨by omega,by simp -dsimp -implicitDefEqProofs only [go_sem,seval,hw1], ?_⟩
    simp -dsimp -implicitDefEqProofs only [go_sem,seval,hba,hbw]
   ·have:t=p.threads.length:=by omega
    subst this
    have hb1:=bi_one (b:=decide (c.thread<(p.threads.length:Int))) (by simp; omega)
    simp -dsimp -implicitDefEqProofs only [go_sem,seval,h4,hb1]
    show _/\_
    exact ⟨by omega,by simp -dsimp -implicitDefEqProofs only [go_sem,seval,hw]⟩
 ·clear h4
  refine loopY 40564819207303340830302316531588 p.threads.length (fun i f=>(f 7).v=vi i) rfl rfl (by simp -dsimp -implicitDefEqProofs only [go_sem,seval]) ?_
  rintro t f u kk bq hi h7
  have hw:=wrapS t (by omega)
  simp -dsimp -implicitDefEqProofs only [go_sem,seval,h7]
  refine csplit (fun h => ?_) (fun h => ?_) <;> (try rw [h]) <;> (try simp only [bools] at h) <;> (try simp -dsimp -implicitDefEqProofs only [go_sem,seval,h7])
  ·obtain ⟨x,hx,hxm⟩:=get_of ‹t<p.threads.length›
   have hxt:=hok.thr hx
   have hxs:=hsm.thr x hxm
   have hwp:IntKind.i64.wrap (x.points-1)=x.points-1:=wrap64 (by omega)
   have hstp : ∀ k:Int,Den Γ G 224 [(.agg [.t (.sl ((p).cells.map (Cell.enc))), .t (.sl ((p).modules.map (Contract.enc))), .t (.sl ((p).locks.map (Lock.enc))), .t (.sl ((p).threads.map (Thread.enc)))]),vi t,vi k]=some (.t (ints (stepsM p t k))):=fun k=>stepsP_den p t k (fun x hx=>by have:=(hsm.thr x hx).2.2.1; omega)
   have hex:Den Γ G 224 [(.agg [.t (.sl ((p).cells.map (Cell.enc))), .t (.sl ((p).modules.map (Contract.enc))), .t (.sl ((p).locks.map (Lock.enc))), .t (.sl ((p).threads.map (Thread.enc)))]),vi t,vi (x.points-1)]=some (.t (.sl [])):=by
    rw [hstp,exit_nil hok hx]; rfl
   have hsl : ∀ k:Int,(stepsM p t k).length<2^40:=by
    intro k
    unfold stepsM
    split
    ·rw [Int.toNat_natCast,hx]; exact Nat.lt_of_le_of_lt (idxN_len _ _ _) (by omega)
    ·simp
   simp -dsimp -implicitDefEqProofs only [go_sem,seval,h7,hx]
   refine loopY 158456325028456617593049976324 x.steps.length (fun s f=>(f 9).v=vi s) rfl rfl (by simp -dsimp -implicitDefEqProofs only [go_sem,seval]) ?_
   rintro s f1 u1 k1 b1 hs h9
   have hws:=wrapS s (by omega)
   simp -dsimp -implicitDefEqProofs only [go_sem,seval,h7,h9]
   refine csplit (fun h => ?_) (fun h => ?_) <;> (try rw [h]) <;> (try simp only [bools] at h) <;> (try simp -dsimp -implicitDefEqProofs only [go_sem,seval,h7,h9])
   ·obtain ⟨y,hy,hym⟩:=get_of ‹s<x.steps.length›
    have hyf:=hok.step hx hy
    have hb1:=bi_one (b:=decide (y.fr<(x.points.toNat:Int))) (by simp; omega)
    have htm : ∀ k:Int,Den Γ G 231 [.t (ints (stepsM p t k)),vi s]=some (vi (bi (decide (y.fr=k)))):=by
     intro k; rw [times_den _ _ (hsl k),steps_bi hx hy]
    refine loopY 2417842415857221494639616 x.points.toNat (fun k f=>(f 11).v=vi k/\(f 10).v=vi (bi (decide (y.fr<(k:Int))))) rfl rfl ⟨by simp -dsimp -implicitDefEqProofs only [go_sem,seval], ?_⟩ ?_
    ·simp -dsimp -implicitDefEqProofs only [go_sem,seval]
     unfold bi; rw [if_neg (by simp; omega)]
    ·rintro k f2 u2 k2 b2 hk ⟨h11,h10⟩
     have hwk:=wrapS k (by omega)
     have hba:=bi_add y.fr k
     have hbw:=bi_wrap (decide (y.fr<((k+1:Nat):Int)))
     have h48:decide ((k:Int)<=48)=true:=by simp; omega
     simp -dsimp -implicitDefEqProofs only [go_sem,seval,h11,h10,h48]
     refine csplit (fun h => ?_) (fun h => ?_) <;> (try rw [h]) <;> (try simp only [bools] at h) <;> (try simp -dsimp -implicitDefEqProofs only [go_sem,seval,h11,h10,h48])
     ·simp -dsimp -implicitDefEqProofs only [go_sem,seval,h7,h9,h11,h10,hstp k,htm k]
      show _/\_
      refine ⟨by omega,by simp -dsimp -implicitDefEqProofs only [go_sem,seval,hwk], ?_⟩
      simp -dsimp -implicitDefEqProofs only [go_sem,seval,hba,hbw]
     ·have:k=x.points.toNat:=by omega
      subst this
      have h1k:=htm y.fr
      rw [bi_one (by simp)] at h1k
      simp -dsimp -implicitDefEqProofs only [go_sem,seval,h7,h9,hb1,hy,hstp y.fr,h1k]
      show _/\_
      exact ⟨by omega,by simp -dsimp -implicitDefEqProofs only [go_sem,seval,hws]⟩
   ·simp -dsimp -implicitDefEqProofs only [go_sem,seval,h7,hwp,hex]
    show _/\_
    exact ⟨by omega,by simp -dsimp -implicitDefEqProofs only [go_sem,seval,hw]⟩
end Rg
end
section
namespace Rg
open Go
section
variable {p:Prog} {i:Nat} {x x' : Thread}
theorem good7_of {L:Int} (h1:p.SmallP L) (h2:p.ok):good7M L p=true:=by
 unfold good7M
 rw [h1.progSmall,Bool.true_and,decide_eq_true_eq]; exact h2
end
end Rg
end
section
set_option maxRecDepth 100000
namespace Rg
open Go
end Rg
end
section
set_option maxRecDepth 100000
namespace Rg
open Go
end Rg
end
section
set_option maxRecDepth 100000
namespace Rg
open Go
end Rg
end
section
set_option maxRecDepth 100000
namespace Rg
open Go
end Rg
end
section
set_option maxRecDepth 100000
namespace Rg
open Go
end Rg
end
section
set_option maxRecDepth 100000
namespace Rg
open Go
end Rg
end
section
set_option maxRecDepth 100000
namespace Rg
open Go
def sml (z:Int):Prop := -1000<z/\z<1000
structure Thr7 (x:Thread):Prop extends ThrOk x where
 pts:(x.asserts.length:Int)=x.points
 sm : ∀ z∈x.modules,sml z
 ab : ∀ e∈x.asserts,e.absent=false
 ss : ∀ s∈x.steps,sml s.kind/\sml s.fr/\sml s.to/\sml s.target/\sml s.module/\(∀ a∈s.set,sml a.cell/\a.to.absent=false)/\s.guard.absent=false
 ls : ∀ l∈x.loops,sml l.head/\(∀ z∈l.body,sml z)/\l.variant.absent=false
end Rg
end
section
set_option maxRecDepth 100000
namespace Rg
open Go
structure Nums7 (p:Prog):Prop where
 cell : ∀ c∈p.cells,isLabel c.name=true/\sml c.w/\sml c.init/\sml c.thread/\sml c.module
 mods : ∀ m∈p.modules,isLabel m.name=true/\isLabel m.owner=true /\ ∀ z∈m.frame,sml z
 lock : ∀ l∈p.locks,sml l.cell/\sml l.module
 thr : ∀ x∈p.threads,isLabel x.name=true/\x.asserts.length<=48/\x.modules.length=x.asserts.length/\x.steps.length<=64/\x.loops.length<=8/\(∀ z∈x.modules,sml z) /\
  (∀ s∈x.steps,sml s.kind/\sml s.fr/\sml s.to/\sml s.target/\sml s.module /\ ∀ a∈s.set,sml a.cell) /\ ∀ l∈x.loops,sml l.head /\ ∀ z∈l.body,sml z
 lens:p.cells.length<=32/\p.modules.length<=6/\p.locks.length<=4/\p.threads.length<=4
theorem okR7_den (p:Prog) (hs:p.sane):Den Γ G 176 [(.agg [.t (.sl ((p).cells.map (Cell.enc))), .t (.sl ((p).modules.map (Contract.enc))), .t (.sl ((p).locks.map (Lock.enc))), .t (.sl ((p).threads.map (Thread.enc)))])]=some (vb (decide ((validM p).1=0))):=by
 (refine den_ofY Γ176 rfl ?_; dsimp only [f176])
 have h1:=validR_den p hs
 simp -dsimp -implicitDefEqProofs only [go_sem,seval,h1]
end Rg
end
section
set_option maxRecDepth 100000
namespace Rg
open Go
theorem lite_mv {p:Prog} {to:List Int} (hp:PermN p.cells.length to) (h:p.lite7):(p.mv to).lite7:=by
 have R:Ren to p.cells (p.mv to).cells:=ren_of hp
 refine ⟨fun c hc => ?_,fun m' hm' => ?_,fun x' hx' => ?_⟩
 ·obtain ⟨j,hj,rfl⟩:=List.mem_iff_getElem.1 hc
  obtain ⟨i,hi,he⟩:=R.surj j (by rw [<- R.len']; exact hj)
  have h1:=R.at_ i hi
  rw [he] at h1
  have h2:(p.mv to).cells[((j:Nat):Int).toNat]? = some (p.mv to).cells[j]:=by simp
  rw [h2] at h1
  exact h.cname _ (List.mem_of_getElem? h1.symm)
 ·obtain ⟨m,hm,rfl⟩:=List.mem_map.1 (show m' ∈ p.modules.map (Contract.mv p.cells.length to) from hm')
  exact h.mname m hm
 ·obtain ⟨x,hx,rfl⟩:=List.mem_map.1 (show x' ∈ p.threads.map (Thread.mv to) from hx')
  exact h.tname x hx
theorem lawNumbering_den (p:Prog) (hl:p.lite7) (picks:List Int) (hpk : ∀ k∈picks,0<=k/\k<256):Den Γ G 212 [(.agg [.t (.sl ((p).cells.map (Cell.enc))), .t (.sl ((p).modules.map (Contract.enc))), .t (.sl ((p).locks.map (Lock.enc))), .t (.sl ((p).threads.map (Thread.enc)))]), .t (.sl (picks.map fun n=>[.int .u8 n]))]=some (vb true):=by
 (refine den_ofY Γ212 rfl ?_; dsimp only [f212])
 have h0:=head7_den
 have h1:=good7_den p hl 40 (by decide)
 cases hg:good7M 40 p
 ·rw [hg] at h1
  simp -dsimp -implicitDefEqProofs only [go_sem,seval,h0,h1,Bool.not_false,Bool.not_true]
 rw [hg] at h1
 have hs:=good7_small hg
 have hok:=good7_ok hg
 have hsn:=hs.sane hl
 have h2:=okR7_den p hsn
 rw [decide_eq_true hok] at h2
 obtain ⟨⟨l1,l2,l3,l4⟩,l5⟩:=limits_iff.1 (ok_iff.1 hok).lim
 have h3:=perm_den p.cells.length (by omega) picks hpk
 have hp:=permM_perm p.cells.length picks
 obtain ⟨to,hto⟩ : ∃ to,to=permM p.cells.length picks:=⟨_,rfl⟩
 rw [<- hto] at h3 hp
 have R:Ren to p.cells (p.mv to).cells:=ren_of hp
 have h4:=renumber_den p hs hok to hp
 have hq2:good7M 40 (p.mv to)=true:=good7_of (progSmall_of (small_mv hp hs.progSmall)) (ok_mv hp hok)
 have h5:=good7_den (p.mv to) (lite_mv hp hl) 40 (by decide)
 rw [hq2] at h5
 have hQt : ∀ (t:Nat) (x:Thread),p.threads[t]? = some x->(p.mv to).threads[t]? = some (x.mv to):=fun t x hx=>by
  show (p.threads.map (Thread.mv to))[t]? = _
  rw [List.getElem?_map,hx]; rfl
 obtain ⟨Q,hQ⟩ : ∃ Q,Q=p.mv to:=⟨_,rfl⟩
 rw [<- hQ] at h4 h5 hQt
 simp -dsimp -implicitDefEqProofs only [go_sem,seval,h0,h1,h2,h3,h4,h5,Bool.not_false,Bool.not_true]
 clear h0 h1 h2 h3 h4 h5
 refine loopY 649037107316853453566294861291280 p.threads.length (fun t f=>(f 8).v=vi t) rfl rfl (by simp -dsimp -implicitDefEqProofs only [go_sem,seval]) ?_
 rintro t f u kk bb ht h8
 have hw:=wrapS t (by omega)
 simp -dsimp -implicitDefEqProofs only [go_sem,seval,h8]
 refine csplit (fun h => ?_) (fun h => ?_) <;> (try rw [h]) <;> (try simp only [bools] at h) <;> (try simp -dsimp -implicitDefEqProofs only [go_sem,seval,h8])
 ·obtain ⟨x,hx,hxm⟩:=get_of ‹t<p.threads.length›
  have hX:=hQt t x hx
  have hsl:=(l5 x hxm).2.1
  refine loopY 649037107316853453564113017904656 x.steps.length (fun i f=>(f 9).v=vi i) rfl rfl (by simp -dsimp -implicitDefEqProofs only [go_sem,seval]) ?_
  rintro i g u2 k2 b2 hi h9
  have hwi:=wrapS i (by omega)
  simp -dsimp -implicitDefEqProofs only [go_sem,seval,h9,h8,hx]
  refine csplit (fun h => ?_) (fun h => ?_) <;> (try rw [h]) <;> (try simp only [bools] at h) <;> (try simp -dsimp -implicitDefEqProofs only [go_sem,seval,h9,h8,hx])
  ·obtain ⟨s,hsi,hsm⟩:=get_of ‹i<x.steps.length›
   have hS:(x.mv to).steps[i]? = some (s.mv to):=by
    show (x.steps.map (Step.mv to))[i]? = _
    rw [List.getElem?_map,hsi]; rfl
   obtain ⟨X,hXe⟩ : ∃ X,X=x.mv to:=⟨_,rfl⟩
   rw [<- hXe] at hX hS
   have hse:=stepErr_iff.1 ((threadErr_iff.1 ((ok_iff.1 hok).threads t x hx)).2.2.2.2.2.1 i s hsi)
   have hsv : ∀ a∈s.set,a.to.valid p.cells false=true:=fun a ha=>by
    obtain ⟨j,hj,rfl⟩:=List.mem_iff_getElem.1 ha
    exact (setErr_iff.1 (hse.2.2.1 j _ (List.getElem?_eq_getElem hj))).2.1
   have hst:=(hs.steps x hxm s hsm).1
   obtain ⟨rl,rm⟩:=reads_mv hp l1 hse.2.1.1 hsv
   have r1:=reads_den s (by omega)
   have r2:=reads_den (s.mv to) (by simp [Step.mv]; omega)
   have hnd:=sortedM_sorted ((s.mv to).guard.sup 2++(s.mv to).set.flatMap fun a=>a.to.sup 2)
   obtain ⟨B,hB⟩ : ∃ B,B=readsM (s.mv to):=⟨_,rfl⟩
   obtain ⟨A,hA⟩ : ∃ A,A=readsM s:=⟨_,rfl⟩
   obtain ⟨S,hSe⟩ : ∃ S,S=s.mv to:=⟨_,rfl⟩
   have hAl:A.length<2^30:=by
    have h1:=sortedM_len (s.guard.sup 2++s.set.flatMap fun a=>a.to.sup 2)
    have h2:=readsL_len s s.set.length
    simp only [readsL,List.take_length] at h2
    rw [hA]; unfold readsM; omega
   have hcnt : ∀ z,z∈B->B.countP (fun y=>decide (y=z))=1:=fun z hz=>by
    rw [hB]; unfold readsM; rw [sorted_count hnd,if_pos]
    rw [hB] at hz; exact hz
   rw [<- hB] at rl r2 rm
   rw [<- hA] at rl r1 rm
   rw [<- hSe] at r2 hS
   have hlen:((A.length:Int)=B.length)=True:=eq_true (by omega)
   simp -dsimp -implicitDefEqProofs only [go_sem,seval,h9,h8,hx,hX,hsi,hS,r1,r2,hlen,not_true_eq_false,decide_false]
   refine loopY 649037107165737726114483394318352 A.length (fun k f=>(f 12).v=vi k) rfl rfl (by simp -dsimp -implicitDefEqProofs only [go_sem,seval]) ?_
   rintro k g3 u3 k3 b3 hk h12
   have hwk:=wrapS k (by omega)
   simp -dsimp -implicitDefEqProofs only [go_sem,seval,h12]
   refine csplit (fun h => ?_) (fun h => ?_) <;> (try rw [h]) <;> (try simp only [bools] at h) <;> (try simp -dsimp -implicitDefEqProofs only [go_sem,seval,h12,h9,h8])
   ·obtain ⟨z,hz,hzm⟩:=get_of ‹k<A.length›
    obtain ⟨⟨z0,z1⟩,zm⟩:=rm z hzm
    have htz:=tau_get (to:=to) z0 (by rw [R.len]; exact z1)
    have hc:=times_den B (tau to z) (by omega)
    rw [hcnt _ zm] at hc
    have g0:(z<0)=False:=eq_false (by omega)
    have g1:(z>=(to.length:Int))=False:=eq_false (by rw [R.len]; omega)
    have g2:((to.length:Int)<=z)=False:=eq_false (by rw [R.len]; omega)
    simp -dsimp -implicitDefEqProofs only [go_sem,seval,h12,hz,g0,g1,g2,z0,htz,hc,decide_false,not_true_eq_false]
    exact ⟨by omega,by simp -dsimp -implicitDefEqProofs only [go_sem,seval,hwk]⟩
   ·exact ⟨by omega,by simp -dsimp -implicitDefEqProofs only [go_sem,seval,hwi]⟩
  ·exact ⟨by omega,by simp -dsimp -implicitDefEqProofs only [go_sem,seval,hw]⟩
end Rg
end
