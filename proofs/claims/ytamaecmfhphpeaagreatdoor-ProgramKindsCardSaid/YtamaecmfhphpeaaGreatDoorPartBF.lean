/- Part of the proof of the laws of the package relyguardlaw07: an abstract machine for the program's functions, what they compute, and that the machine is the program's. No condition. (H32a H32h) -/
import Derived.Test.YtamaecmfhphpeaaGreatDoorPartBC
import Derived.Test.YtamaecmfhphpeaaGreatDoorPartAZ
import Derived.Test.YtamaecmfhphpeaaGreatDoorPartBE
set_option linter.unusedSimpArgs false
set_option linter.unusedVariables false
section
set_option maxRecDepth 100000
namespace Rg
open Go
theorem idxN_count {α:Type} (f:α->Bool) (l:List α) (c:Nat) : ∀ i,i<=l.length->(idxN f l i).countP (fun y=>decide (y=(c:Int)))=if c<i/\(l[c]?.any f)=true then 1 else 0
 | 0,_=>by simp [idxN_zero]
 | i+1,hi=>by
  obtain ⟨x,hx⟩ : ∃ x,l[i]? = some x:=⟨_,List.getElem?_eq_getElem (by omega)⟩
  rw [idxN_succ f hx,List.countP_append,idxN_count f l c i (by omega)]
  by_cases hc:c=i
  ·subst hc
   rw [hx]
   cases hf:f x <;> simp [hf]
  ·have h1:c<i+1<->c<i:=by omega
   have:List.countP (fun y=>decide (y=(c:Int))) (if f x=true then [(i:Int)] else [])=0:=by
    cases f x <;> simp; omega
   rw [this,Nat.add_zero]; simp only [h1]
theorem idxM_count {α:Type} (f:α->Bool) {l:List α} {c:Nat} {x:α} (hx:l[c]? = some x):(idxM f l).countP (fun y=>decide (y=(c:Int)))=if f x then 1 else 0:=by
 unfold idxM
 rw [idxN_count f l c _ (Nat.le_refl _),hx]
 have:=(List.getElem?_eq_some_iff.1 hx).1
 simp [this]
theorem idxM_nil {α:Type} (f:α->Bool) {l:List α} (h : ∀ x∈l,f x=false):idxM f l=[]:=by
 unfold idxM
 have : ∀ i,i<=l.length->idxN f l i=[]:=by
  intro i
  induction i with
  | zero=>intro _; exact idxN_zero f l
  | succ i ih =>
   intro hi
   obtain ⟨x,hx⟩ : ∃ x,l[i]? = some x:=⟨_,List.getElem?_eq_getElem (by omega)⟩
   rw [idxN_succ f hx,ih (by omega),h x (List.mem_of_getElem? hx)]; simp
 exact this _ (Nat.le_refl _)
theorem shared_count {p:Prog} {c:Nat} {x:Cell} (hx:p.cells[c]? = some x):(ofM p (-1)).countP (fun y=>decide (y=(c:Int)))=if x.thread = -1 then 1 else 0:=by
 unfold ofM
 rw [idxM_count _ hx]; simp
theorem locals_count {p:Prog} {c:Nat} {x:Cell} (hx:p.cells[c]? = some x) (t:Nat):(localsM p t).countP (fun y=>decide (y=(c:Int)))=if x.thread=t then 1 else 0:=by
 unfold localsM ofM
 rw [if_neg (by omega),idxM_count _ hx]; simp
theorem steps_count {p:Prog} {t s:Nat} {x:Thread} {y:Step} (hx:p.threads[t]? = some x) (hy:x.steps[s]? = some y) (k:Int):(stepsM p t k).countP (fun z=>decide (z=(s:Int)))=if y.fr=k then 1 else 0:=by
 have ht:=(List.getElem?_eq_some_iff.1 hx).1
 unfold stepsM
 rw [if_pos (by simp [inR]; omega),Int.toNat_natCast,hx,idxM_count _ hy]; simp
theorem Prog.ok.cell {p:Prog} (h:p.ok) {c:Nat} {x:Cell} (hx:p.cells[c]? = some x) : -1<=x.thread/\x.thread<p.threads.length:=by
 have:=(cellErr_iff.1 ((ok_iff.1 h).cells c x hx)).1
 simp only [cellBad,Bool.or_eq_false_iff,decide_eq_false_iff_not] at this
 omega
theorem Prog.ok.thr {p:Prog} (h:p.ok) {t:Nat} {x:Thread} (hx:p.threads[t]? = some x):1<=x.points/\x.points<=48:=by
 have h1:=(threadErr_iff.1 ((ok_iff.1 h).threads t x hx)).2.2.1.1
 have h2:=((limits_iff.1 (ok_iff.1 h).lim).2 x (List.mem_of_getElem? hx)).1
 exact ⟨h1,h2⟩
theorem Prog.ok.step {p:Prog} (h:p.ok) {t s:Nat} {x:Thread} {y:Step} (hx:p.threads[t]? = some x) (hy:x.steps[s]? = some y):0<=y.fr/\y.fr<x.points-1:=by
 have h1:=(threadErr_iff.1 ((ok_iff.1 h).threads t x hx)).2.2.2.2.2.1 s y hy
 have h2:=(stepErr_iff.1 h1).1
 simp only [stepBad,Bool.or_eq_false_iff,decide_eq_false_iff_not,Bool.not_eq_false',inR,decide_eq_true_eq] at h2
 omega
theorem exit_nil {p:Prog} (h:p.ok) {t:Nat} {x:Thread} (hx:p.threads[t]? = some x):stepsM p t (x.points-1)=[]:=by
 have ht:=(List.getElem?_eq_some_iff.1 hx).1
 unfold stepsM
 rw [if_pos (by simp [inR]; omega),Int.toNat_natCast,hx]
 refine idxM_nil _ fun y hy => ?_
 obtain ⟨s,hs,rfl⟩:=List.mem_iff_getElem.1 hy
 have:=h.step hx (List.getElem?_eq_getElem hs)
 simp; omega
theorem good7_ok {L:Int} {p:Prog} (h:good7M L p=true):p.ok:=by
 unfold good7M at h
 simp only [Bool.and_eq_true,decide_eq_true_eq] at h
 exact h.2
theorem good7_small {L:Int} {p:Prog} (h:good7M L p=true):p.SmallP L:=by
 unfold good7M at h
 simp only [Bool.and_eq_true,decide_eq_true_eq] at h
 exact progSmall_of h.1
def bi (b:Bool):Int:=if b then 1 else 0
theorem bi_wrap (b:Bool):IntKind.i64.wrap (bi b)=bi b:=by cases b <;> rfl
theorem shared_bi {p:Prog} {c:Nat} {x:Cell} (hx:p.cells[c]? = some x):(((ofM p (-1)).countP (fun y=>decide (y=(c:Int))):Nat):Int)=bi (decide (x.thread = -1)):=by
 rw [shared_count hx]; by_cases h:x.thread = -1 <;> simp [h,bi]
theorem locals_bi {p:Prog} {c:Nat} {x:Cell} (hx:p.cells[c]? = some x) (t:Nat):(((localsM p t).countP (fun y=>decide (y=(c:Int))):Nat):Int)=bi (decide (x.thread=t)):=by
 rw [locals_count hx]; by_cases h:x.thread=t <;> simp [h,bi]
theorem steps_bi {p:Prog} {t s:Nat} {x:Thread} {y:Step} (hx:p.threads[t]? = some x) (hy:x.steps[s]? = some y) (k:Int):(((stepsM p t k).countP (fun z=>decide (z=(s:Int))):Nat):Int)=bi (decide (y.fr=k)):=by
 rw [steps_count hx hy]; by_cases h:y.fr=k <;> simp [h,bi]
theorem bi_add (a:Int) (k:Nat):bi (decide (a<(k:Int)))+bi (decide (a=k))=bi (decide (a<((k+1:Nat):Int))):=by
 unfold bi
 simp only [decide_eq_true_eq]
 split <;> split <;> split <;> omega
theorem bi_one {b:Bool} (h:b=true):bi b=1:=by rw [h]; rfl
theorem lawCells_den (p:Prog) (hl:p.lite7):Den Γ G 209 [(.agg [.t (.sl ((p).cells.map (Cell.enc))), .t (.sl ((p).modules.map (Contract.enc))), .t (.sl ((p).locks.map (Lock.enc))), .t (.sl ((p).threads.map (Thread.enc)))])]=some (vb true):=by
 (refine den_ofY Γ209 rfl ?_; dsimp only [f209])
 have h0:=head7_den
 have h1:=good7_den p hl 40 (by decide)
 cases hg:good7M 40 p
 ·rw [hg] at h1
  simp -dsimp -implicitDefEqProofs only [go_sem,seval,h0,h1]
 rw [hg] at h1
 have hok:=good7_ok hg
 have hsm:=good7_small hg
 have hcl:=hsm.cells
 have htl:=hsm.threads
 have hsh:=sharedLP_den p (by omega)
 simp -dsimp -implicitDefEqProofs only [go_sem,seval,h0,h1]
 refine loopY 17592185913460 p.cells.length (fun i f=>(f 4).v=vi i) rfl rfl (by simp -dsimp -implicitDefEqProofs only [go_sem,seval]) ?_
 rintro i f u kk bq hi h4
 have hw:=wrapS i (by omega)
 simp -dsimp -implicitDefEqProofs only [go_sem,seval,h4]
 refine csplit (fun h => ?_) (fun h => ?_) <;> (try rw [h]) <;> (try simp only [bools] at h) <;> (try simp -dsimp -implicitDefEqProofs only [go_sem,seval,h4])
 ·obtain ⟨c,hc,_⟩:=get_of ‹i<p.cells.length›
  have hct:=hok.cell hc
  have ht:=times_den (ofM p (-1)) i (by unfold ofM; exact Nat.lt_of_le_of_lt (idxN_len _ _ _) (by omega))
  rw [shared_bi hc] at ht
  simp -dsimp -implicitDefEqProofs only [go_sem,seval,h4,hsh,ht]
  refine loopY 4397778075744 p.threads.length (fun t f1=>(f1 6).v=vi t/\(f1 5).v=vi (bi (decide (c.thread<(t:Int))))) rfl rfl ⟨by simp -dsimp -implicitDefEqProofs only [go_sem,seval], ?_⟩ ?_
  ·simp -dsimp -implicitDefEqProofs only [go_sem,seval]
   have:decide (c.thread = -1)=decide (c.thread<((0:Nat):Int)):=by congr 1; apply propext; omega
   rw [this]; rfl
  ·rintro t f1 u1 k1 b1 ht1 ⟨h6,h5⟩
   have hw1:=wrapS t (by omega)
   simp -dsimp -implicitDefEqProofs only [go_sem,seval,h6,h5]
   refine csplit (fun h => ?_) (fun h => ?_) <;> (try rw [h]) <;> (try simp only [bools] at h) <;> (try simp -dsimp -implicitDefEqProofs only [go_sem,seval,h6,h5])
   ·have hlo:=localsP_den p t (by omega)
    have ht2:=times_den (localsM p t) i (by unfold localsM ofM; split <;> first | (exact Nat.lt_of_le_of_lt (idxN_len _ _ _) (by omega)) | simp)
    rw [locals_bi hc] at ht2
    have hba:=bi_add c.thread t
    have hbw:=bi_wrap (decide (c.thread<((t+1:Nat):Int)))
    simp -dsimp -implicitDefEqProofs only [go_sem,seval,h4,h6,h5,hlo,ht2]
    show _/\_
    refine ⟨by omega,by simp -dsimp -implicitDefEqProofs only [go_sem,seval,hw1], ?_⟩
    simp -dsimp -implicitDefEqProofs only [go_sem,seval,hba,hbw]
   ·have:t=p.threads.length:=by omega
    subst this
    have hb1:=bi_one (b:=decide (c.thread<(p.threads.length:Int))) (by simp; omega)
    simp -dsimp -implicitDefEqProofs only [go_sem,seval,h4,hb1]
    show _/\_
    exact ⟨by omega,by simp -dsimp -implicitDefEqProofs only [go_sem,seval,hw]⟩
 ·clear h4
  refine loopY 40564819207303340830302316531588 p.threads.length (fun i f=>(f 7).v=vi i) rfl rfl (by simp -dsimp -implicitDefEqProofs only [go_sem,seval]) ?_
  rintro t f u kk bq hi h7
  have hw:=wrapS t (by omega)
  simp -dsimp -implicitDefEqProofs only [go_sem,seval,h7]
  refine csplit (fun h => ?_) (fun h => ?_) <;> (try rw [h]) <;> (try simp only [bools] at h) <;> (try simp -dsimp -implicitDefEqProofs only [go_sem,seval,h7])
  ·obtain ⟨x,hx,hxm⟩:=get_of ‹t<p.threads.length›
   have hxt:=hok.thr hx
   have hxs:=hsm.thr x hxm
   have hwp:IntKind.i64.wrap (x.points-1)=x.points-1:=wrap64 (by omega)
   have hstp : ∀ k:Int,Den Γ G 224 [(.agg [.t (.sl ((p).cells.map (Cell.enc))), .t (.sl ((p).modules.map (Contract.enc))), .t (.sl ((p).locks.map (Lock.enc))), .t (.sl ((p).threads.map (Thread.enc)))]),vi t,vi k]=some (.t (ints (stepsM p t k))):=fun k=>stepsP_den p t k (fun x hx=>by have:=(hsm.thr x hx).2.2.1; omega)
   have hex:Den Γ G 224 [(.agg [.t (.sl ((p).cells.map (Cell.enc))), .t (.sl ((p).modules.map (Contract.enc))), .t (.sl ((p).locks.map (Lock.enc))), .t (.sl ((p).threads.map (Thread.enc)))]),vi t,vi (x.points-1)]=some (.t (.sl [])):=by
    rw [hstp,exit_nil hok hx]; rfl
   have hsl : ∀ k:Int,(stepsM p t k).length<2^40:=by
    intro k
    unfold stepsM
    split
    ·rw [Int.toNat_natCast,hx]; exact Nat.lt_of_le_of_lt (idxN_len _ _ _) (by omega)
    ·simp
   simp -dsimp -implicitDefEqProofs only [go_sem,seval,h7,hx]
   refine loopY 158456325028456617593049976324 x.steps.length (fun s f=>(f 9).v=vi s) rfl rfl (by simp -dsimp -implicitDefEqProofs only [go_sem,seval]) ?_
   rintro s f1 u1 k1 b1 hs h9
   have hws:=wrapS s (by omega)
   simp -dsimp -implicitDefEqProofs only [go_sem,seval,h7,h9]
   refine csplit (fun h => ?_) (fun h => ?_) <;> (try rw [h]) <;> (try simp only [bools] at h) <;> (try simp -dsimp -implicitDefEqProofs only [go_sem,seval,h7,h9])
   ·obtain ⟨y,hy,hym⟩:=get_of ‹s<x.steps.length›
    have hyf:=hok.step hx hy
    have hb1:=bi_one (b:=decide (y.fr<(x.points.toNat:Int))) (by simp; omega)
    have htm : ∀ k:Int,Den Γ G 231 [.t (ints (stepsM p t k)),vi s]=some (vi (bi (decide (y.fr=k)))):=by
     intro k; rw [times_den _ _ (hsl k),steps_bi hx hy]
    refine loopY 2417842415857221494639616 x.points.toNat (fun k f=>(f 11).v=vi k/\(f 10).v=vi (bi (decide (y.fr<(k:Int))))) rfl rfl ⟨by simp -dsimp -implicitDefEqProofs only [go_sem,seval], ?_⟩ ?_
    ·simp -dsimp -implicitDefEqProofs only [go_sem,seval]
     unfold bi; rw [if_neg (by simp; omega)]
    ·rintro k f2 u2 k2 b2 hk ⟨h11,h10⟩
     have hwk:=wrapS k (by omega)
     have hba:=bi_add y.fr k
     have hbw:=bi_wrap (decide (y.fr<((k+1:Nat):Int)))
     have h48:decide ((k:Int)<=48)=true:=by simp; omega
     simp -dsimp -implicitDefEqProofs only [go_sem,seval,h11,h10,h48]
     refine csplit (fun h => ?_) (fun h => ?_) <;> (try rw [h]) <;> (try simp only [bools] at h) <;> (try simp -dsimp -implicitDefEqProofs only [go_sem,seval,h11,h10,h48])
     ·simp -dsimp -implicitDefEqProofs only [go_sem,seval,h7,h9,h11,h10,hstp k,htm k]
      show _/\_
      refine ⟨by omega,by simp -dsimp -implicitDefEqProofs only [go_sem,seval,hwk], ?_⟩
      simp -dsimp -implicitDefEqProofs only [go_sem,seval,hba,hbw]
     ·have:k=x.points.toNat:=by omega
      subst this
      have h1k:=htm y.fr
      rw [bi_one (by simp)] at h1k
      simp -dsimp -implicitDefEqProofs only [go_sem,seval,h7,h9,hb1,hy,hstp y.fr,h1k]
      show _/\_
      exact ⟨by omega,by simp -dsimp -implicitDefEqProofs only [go_sem,seval,hws]⟩
   ·simp -dsimp -implicitDefEqProofs only [go_sem,seval,h7,hwp,hex]
    show _/\_
    exact ⟨by omega,by simp -dsimp -implicitDefEqProofs only [go_sem,seval,hw]⟩
end Rg
end
section
set_option maxRecDepth 100000
namespace Rg
open Go
theorem count_one {l:List Int} (hs:l.Pairwise (· < ·)) {f:Int->Bool} {n:Int} (hn:n∈l) (hf:f n=true) (h : ∀ c∈l,f c=true->c=n):l.countP f=1:=by
 have:l.countP f=l.countP (fun y=>decide (y=n)):=by
  refine List.countP_congr fun c hc => ?_
  constructor
  ·intro h1; simpa using h c hc h1
  ·intro h1; simp at h1; subst h1; exact hf
 rw [this,sorted_count hs,if_pos hn]
theorem count_none {l:List Int} {f:Int->Bool} (h : ∀ c∈l,f c=false):l.countP f=0:=by
 rw [List.countP_eq_zero]
 intro c hc h1
 rw [h c hc] at h1; cases h1
def isSh (p:Prog) (c:Int):Bool:=ofThread p (-1) c
def isReal (p:Prog) (c:Int):Bool:=ofThread p (-1) c && !cellIs p c Cell.ghost
theorem count_succ (f:Int->Bool) {l:List Int} {i:Nat} {x:Int} (h:l[i]? = some x):(l.take (i+1)).countP f=(l.take i).countP f+if f x then 1 else 0:=by
 rw [take_succ_of h,List.countP_append]; simp
theorem cnt_le (f:Int->Bool) (l:List Int) (i:Nat):(l.take i).countP f<=l.length:=Nat.le_trans List.countP_le_length (by simp; omega)
theorem rowsI_at' {l:List Int} {i:Nat} {x:Int} (h:l[i]? = some x):(rowsI l)[i]? = some [vi x]:=by simp [rowsI,h]
theorem isSh_at {p:Prog} {m:Nat} {y:Cell} (h:p.cells[m]? = some y):isSh p m=decide (y.thread = -1):=by
 unfold isSh ofThread; rw [Int.toNat_natCast,h]; simp
theorem isReal_at {p:Prog} {m:Nat} {y:Cell} (h:p.cells[m]? = some y):isReal p m=(decide (y.thread = -1) && !y.ghost):=by
 unfold isReal cellIs ofThread; rw [Int.toNat_natCast,h]; simp
theorem lawKinds_den (p:Prog) (hl:p.lite7):Den Γ G 210 [(.agg [.t (.sl ((p).cells.map (Cell.enc))), .t (.sl ((p).modules.map (Contract.enc))), .t (.sl ((p).locks.map (Lock.enc))), .t (.sl ((p).threads.map (Thread.enc)))])]=some (vb true):=by
 (refine den_ofY Γ210 rfl ?_; dsimp only [f210])
 have h0:=head7_den
 have h1:=good7_den p hl 40 (by decide)
 cases hg:good7M 40 p
 ·rw [hg] at h1
  simp -dsimp -implicitDefEqProofs only [go_sem,seval,h0,h1]
 rw [hg] at h1
 have hok:=good7_ok hg
 have hsm:=good7_small hg
 have hcl:=hsm.cells
 have htl:=hsm.threads
 simp -dsimp -implicitDefEqProofs only [go_sem,seval,h0,h1]
 refine loopYH 24519928653854221733733552434404946937899825954921295860 p.threads.length (fun i f h x=>(f 4).v=vi i) rfl (by simp -dsimp -implicitDefEqProofs only [go_sem,seval]) ?_
 rintro t f u H q bq hi h4
 have hw:=wrapS t (by omega)
 simp -dsimp -implicitDefEqProofs only [go_sem,seval,h4]
 refine csplit (fun h => ?_) (fun h => ?_) <;> (try rw [h]) <;> (try simp only [bools] at h) <;> (try simp -dsimp -implicitDefEqProofs only [go_sem,seval,h4])
 ·obtain ⟨x,hx,hxm⟩:=get_of ‹t<p.threads.length›
  have hxs:=(hsm.thr x hxm).2.2.1
  refine loopYH 24519928653854221733733552434404946937899825952790589412 x.steps.length (fun i f h y=>(f 5).v=vi i) rfl (by simp -dsimp -implicitDefEqProofs only [go_sem,seval]) ?_
  rintro i f1 u1 H1 q1 b1 hi1 h5
  have hw1:=wrapS i (by omega)
  simp -dsimp -implicitDefEqProofs only [go_sem,seval,h4,h5,hx]
  refine csplit (fun h => ?_) (fun h => ?_) <;> (try rw [h]) <;> (try simp only [bools] at h) <;> (try simp -dsimp -implicitDefEqProofs only [go_sem,seval,h4,h5,hx])
  ·obtain ⟨s,hs,hsm'⟩:=get_of ‹i<x.steps.length›
   have hkf:=kind_facts ((threadErr_iff.1 ((ok_iff.1 hok).threads t x hx)).2.2.2.2.2.1 i s hs)
   have hset:=(hsm.steps x hxm s hsm').1
   have hr:=reads_den s (by omega)
   have hwr:=writes_den s (by omega)
   simp -dsimp -implicitDefEqProofs only [go_sem,seval,h4,h5,hx,hs,hr,hwr]
   rw [rowsI_eq]
   have hrl:(readsM s).length<=2000:=by
    have h1:=sortedM_len (s.guard.sup 2++s.set.flatMap fun a=>a.to.sup 2)
    have h2:=readsL_len s s.set.length
    simp only [readsL,List.take_length] at h2
    unfold readsM; omega
   have hwl:(writesM s).length<=40:=by
    have h1:=sortedM_len (s.set.map Assign.cell)
    rw [List.length_map] at h1
    unfold writesM; omega
   refine putA_app (x:=q1+9+11+6+3+2) (a:=[]) (.inr ⟨_,rfl,by omega,by simp -dsimp -implicitDefEqProofs only [go_sem,seval]⟩) (by omega) (by simp [rowsI_len]; omega) (by decide) (rowsI_all _) (by simp) ?_
   intro v hp hO _ _
   rw [List.nil_append] at hO
   have v1:=hO.valOf
   have v2:=hO.rowsS
   simp -dsimp -implicitDefEqProofs only [go_sem,seval,v1,v2]
   rw [rowsI_eq]
   refine putA_app hO (by omega) (by simp only [rowsI_len]; omega) (by decide) (rowsI_all _) (rowsI_all _) ?_
   intro v' hp' hO' _ _
   have w1:=hO'.valOf
   have w2:=hO'.lenS
   have happ:rowsI (readsM s)++rowsI (writesM s)=rowsI (readsM s++writesM s):=by simp [rowsI]
   rw [happ] at hO' w2
   simp -dsimp -implicitDefEqProofs only [go_sem,seval,w1,w2]
   have hLl:(rowsI (readsM s++writesM s)).length=(readsM s++writesM s).length:=rowsI_len _
   have hsees : ∀ c∈readsM s++writesM s,sees p t c=true:=by
    intro c hc
    rcases List.mem_append.1 hc with hc | hc
    ·exact hkf.r c hc
    ·exact hkf.w c hc
   generalize hL:readsM s++writesM s=L at hO' w1 w2 hsees hLl
   have hL40:L.length<=2040:=by rw [<- hL,List.length_append]; omega
   refine loopYH 19807040626260241389172301828 L.length (fun i f h x=>(f 61).v=vi i /\ ∃ y,OwnB h y v' 1 (rowsI L)) rfl ⟨by simp -dsimp -implicitDefEqProofs only [go_sem,seval],_,by rw [hpC_cons,hpC_nil]; exact hO'⟩ ?_
   rintro j f2 u2 H2 q2 b2 hj ⟨h61,y,hOy⟩
   have hwj:=wrapS j (by omega)
   rw [<- hLl] at hj
   simp -dsimp -implicitDefEqProofs only [go_sem,seval,h61]
   refine csplit (fun h => ?_) (fun h => ?_) <;> (try rw [h]) <;> (try simp only [bools] at h) <;> (try simp -dsimp -implicitDefEqProofs only [go_sem,seval,h61])
   ·have hjl:j<L.length:=by rw [<- hLl]; assumption
    obtain ⟨c,hc,hcm⟩:=get_of hjl
    obtain ⟨hc0,y,hy,hyt⟩:=sees_iff.1 (hsees c hcm)
    obtain ⟨m,rfl⟩ : ∃ m:Nat,c=m:=⟨c.toNat,by omega⟩
    rw [Int.toNat_natCast] at hy
    have hml:=(List.getElem?_eq_some_iff.1 hy).1
    have g1:decide ((m:Int)<0)=false:=by simp
    have g2:decide ((m:Int)>=(p.cells.length:Int))=false:=by simp; omega
    have hrow:=rowsI_at' hc
    rcases hOy with ⟨_,he⟩ | ⟨k,hv,hk,hh⟩
    ·exfalso; rw [he] at hLl; simp at hLl; omega
    have hj2:((j:Int)<((rowsI L).length:Int))=True:=eq_true (by omega)
    have hj3:(j<(rowsI L).length)=True:=eq_true (by omega)
    by_cases hm1:y.thread = -1
    ·simp -dsimp -implicitDefEqProofs only [go_sem,seval,h61,hv,hh,hrow,g1,g2,hy,hm1,hj2,hj3,decide_true,decide_false,hwj]
     show _/\_
     exact ⟨by omega,by simp -dsimp -implicitDefEqProofs only [go_sem,seval],_, .inr ⟨k,by rw [hLl]; rw [hLl] at hv; exact hv,hk,hh⟩⟩
    ·have hm2:y.thread=t:=by rcases hyt with h | h; exact absurd h hm1; exact h
     simp -dsimp -implicitDefEqProofs only [go_sem,seval,h61,h4,hv,hh,hrow,g1,g2,hy,hm2,hj2,hj3,decide_true,decide_false,hwj]
     show _/\_
     exact ⟨by omega,by simp -dsimp -implicitDefEqProofs only [go_sem,seval],_, .inr ⟨k,by rw [hLl]; rw [hLl] at hv; exact hv,hk,hh⟩⟩
   ·clear h61 hwj hj hOy
    have hcnt1 : ∀ i,(((readsM s).take i).countP (isSh p))<=2000:=fun i=>Nat.le_trans (cnt_le _ _ _) hrl
    refine loopYH 1297994986471192642795030538387968 (readsM s).length (fun i f h x=>(f 96).v=vi i/\(f 9).v=vi (((readsM s).take i).countP (isSh p))) rfl ⟨by simp -dsimp -implicitDefEqProofs only [go_sem,seval],by simp -dsimp -implicitDefEqProofs only [go_sem,seval,List.take_zero,List.countP_nil]⟩ ?_
    rintro j f2 u2 H3 q3 b3 hj ⟨h96,h9⟩
    have hwj:=wrapS j (by omega)
    simp -dsimp -implicitDefEqProofs only [go_sem,seval,h96]
    refine csplit (fun h => ?_) (fun h => ?_) <;> (try rw [h]) <;> (try simp only [bools] at h) <;> (try simp -dsimp -implicitDefEqProofs only [go_sem,seval,h96])
    ·have hjl:j<(readsM s).length:=by assumption
     obtain ⟨c,hc,hcm⟩:=get_of hjl
     obtain ⟨hc0,y,hy,hyt⟩:=sees_iff.1 (hkf.r c hcm)
     obtain ⟨m,rfl⟩ : ∃ m:Nat,c=m:=⟨c.toNat,by omega⟩
     rw [Int.toNat_natCast] at hy
     have hsucc:=count_succ (isSh p) hc
     rw [isSh_at hy] at hsucc
     have hwc:=wrapS (((readsM s).take j).countP (isSh p)) (by have:=hcnt1 j; omega)
     simp -dsimp -implicitDefEqProofs only [go_sem,seval,h96,h9,hc,hy]
     refine csplit (fun h => ?_) (fun h => ?_) <;> (try rw [h]) <;> (try simp only [bools] at h) <;> (try simp -dsimp -implicitDefEqProofs only [go_sem,seval,h96,h9,hc,hy])
     ·rw [if_pos (by simpa using h)] at hsucc
      show _/\_
      exact ⟨hjl,by simp -dsimp -implicitDefEqProofs only [go_sem,seval,hwj],by simp -dsimp -implicitDefEqProofs only [go_sem,seval,hwc,hsucc]⟩
     ·rw [if_neg (by simpa using h)] at hsucc
      simp only [Nat.add_zero] at hsucc
      show _/\_
      exact ⟨hjl,by simp -dsimp -implicitDefEqProofs only [go_sem,seval,hwj],by simp -dsimp -implicitDefEqProofs only [go_sem,seval,h9,hsucc]⟩
    ·have:j=(readsM s).length:=by omega
     subst this
     rw [List.take_length] at h9
     clear h96 hwj hj
     have hcnt2 : ∀ f i,(((writesM s).take i).countP f)<=40:=fun f i=>Nat.le_trans (cnt_le _ _ _) hwl
     refine loopYH 43556137773583264788484321220770001980416 (writesM s).length (fun i f h x=>(f 112).v=vi i/\(f 10).v=vi (((writesM s).take i).countP (isSh p))/\(f 11).v=vi (((writesM s).take i).countP (isReal p))) rfl ⟨by simp -dsimp -implicitDefEqProofs only [go_sem,seval],by simp -dsimp -implicitDefEqProofs only [go_sem,seval,List.take_zero,List.countP_nil],by simp -dsimp -implicitDefEqProofs only [go_sem,seval,List.take_zero,List.countP_nil]⟩ ?_
     rintro j f2 u2 H3 q3 b3 hj ⟨h112,h10,h11⟩
     have hwj:=wrapS j (by omega)
     simp -dsimp -implicitDefEqProofs only [go_sem,seval,h112]
     refine csplit (fun h => ?_) (fun h => ?_) <;> (try rw [h]) <;> (try simp only [bools] at h) <;> (try simp -dsimp -implicitDefEqProofs only [go_sem,seval,h112])
     ·have hjl:j<(writesM s).length:=by assumption
      obtain ⟨c,hc,hcm⟩:=get_of hjl
      obtain ⟨hc0,y,hy,hyt⟩:=sees_iff.1 (hkf.w c hcm)
      obtain ⟨m,rfl⟩ : ∃ m:Nat,c=m:=⟨c.toNat,by omega⟩
      rw [Int.toNat_natCast] at hy
      have hs1:=count_succ (isSh p) hc
      have hs2:=count_succ (isReal p) hc
      rw [isSh_at hy] at hs1
      rw [isReal_at hy] at hs2
      have hw1:=wrapS (((writesM s).take j).countP (isSh p)) (by have:=hcnt2 (isSh p) j; omega)
      have hw2:=wrapS (((writesM s).take j).countP (isReal p)) (by have:=hcnt2 (isReal p) j; omega)
      simp -dsimp -implicitDefEqProofs only [go_sem,seval,h112,h10,h11,hc,hy]
      refine csplit (fun h => ?_) (fun h => ?_) <;> (try rw [h]) <;> (try simp only [bools] at h) <;> (try simp -dsimp -implicitDefEqProofs only [go_sem,seval,h112,h10,h11,hc,hy])
      ·rw [if_pos (by simpa using h)] at hs1
       have hth:=h
       rw [h,decide_eq_true rfl,Bool.true_and] at hs2
       cases hgh:y.ghost
       ·rw [hgh] at hs2
        simp only [Bool.not_false,if_true] at hs2
        simp -dsimp -implicitDefEqProofs only [go_sem,seval,hgh,h112,h10,h11,hwj,hw1,hw2]
        show _/\_
        exact ⟨hjl,by simp -dsimp -implicitDefEqProofs only [go_sem,seval],by simp -dsimp -implicitDefEqProofs only [go_sem,seval,hw1,hs1],by simp -dsimp -implicitDefEqProofs only [go_sem,seval,hs2]⟩
       ·rw [hgh] at hs2
        simp only [Bool.not_true,Bool.false_eq_true,if_false,Nat.add_zero] at hs2
        simp -dsimp -implicitDefEqProofs only [go_sem,seval,hgh,h112,h10,h11,hwj,hw1]
        show _/\_
        exact ⟨hjl,by simp -dsimp -implicitDefEqProofs only [go_sem,seval],by simp -dsimp -implicitDefEqProofs only [go_sem,seval,hw1,hs1],by simp -dsimp -implicitDefEqProofs only [go_sem,seval,h11,hs2]⟩
      ·rw [if_neg (by simpa using h)] at hs1
       rw [decide_eq_false h,Bool.false_and,if_neg (by simp)] at hs2
       simp only [Nat.add_zero] at hs1 hs2
       show _/\_
       exact ⟨hjl,by simp -dsimp -implicitDefEqProofs only [go_sem,seval,hwj],by simp -dsimp -implicitDefEqProofs only [go_sem,seval,h10,hs1],by simp -dsimp -implicitDefEqProofs only [go_sem,seval,h11,hs2]⟩
     ·have:j=(writesM s).length:=by omega
      subst this
      rw [List.take_length] at h10 h11
      clear h112 hwj hj
      have hnsh : ∀ c,ofThread p t c=true->isSh p c=false:=by
       intro c hc
       obtain ⟨h0,y,hy,hyt⟩:=ofThread_iff.1 hc
       unfold isSh ofThread
       rw [hy]; simp; omega
      have hshn : ∀ c,isSh p c=true->ofThread p t c=false:=by
       intro c hc
       cases ho:ofThread p t c with
       | false=>rfl
       | true=>rw [hnsh c ho] at hc; cases hc
      have hrs:=sortedM_sorted (s.guard.sup 2++s.set.flatMap fun a=>a.to.sup 2)
      have hws:=sortedM_sorted (s.set.map Assign.cell)
      by_cases k1:s.kind=1
      ·obtain ⟨ha,hb⟩:=hkf.k1 k1
       have c1:(readsM s).countP (isSh p)=0:=count_none fun c hc=>hnsh c (ha c hc)
       have c2:(writesM s).countP (isSh p)=0:=count_none fun c hc=>hnsh c (hb c hc)
       rw [c1] at h9
       rw [c2] at h10
       simp -dsimp -implicitDefEqProofs only [go_sem,seval,k1,h9,h10,h5,hw1,decide_true]
       show _/\_
       exact ⟨by omega,by simp -dsimp -implicitDefEqProofs only [go_sem,seval]⟩
      by_cases k2:s.kind=2
      ·obtain ⟨⟨n,hn1,hn2,hn3⟩,hb,hne⟩:=hkf.k2 k2
       have c1:(readsM s).countP (isSh p)=1:=count_one hrs hn1 hn2 fun c hc hf=>hn3 c hc hf (hshn c hf)
       have c2:(writesM s).countP (isSh p)=0:=count_none fun c hc=>hnsh c (hb c hc)
       have c3:decide (((writesM s).length:Int)>0)=true:=by have:=List.length_pos_iff.2 hne; simp; omega
       rw [c1] at h9
       rw [c2] at h10
       simp -dsimp -implicitDefEqProofs only [go_sem,seval,k1,k2,h9,h10,h5,hw1,c3,decide_true,decide_false]
       show _/\_
       exact ⟨by omega,by simp -dsimp -implicitDefEqProofs only [go_sem,seval]⟩
      by_cases k3:s.kind=3
      ·obtain ⟨ha,n,hn1,hn2,hn3,hn4⟩:=hkf.k3 k3
       have c1:(readsM s).countP (isSh p)=0:=count_none fun c hc=>hnsh c (ha c hc)
       have c2:(writesM s).countP (isReal p)=1:=count_one hws hn1 (by unfold isReal; rw [hn2,hn3]; rfl) fun c hc hf=>hn4 c hc (by unfold isReal at hf; simp only [Bool.and_eq_true,Bool.not_eq_true'] at hf; exact hf.2)
       rw [c1] at h9
       rw [c2] at h11
       simp -dsimp -implicitDefEqProofs only [go_sem,seval,k1,k2,k3,h9,h11,h5,hw1,decide_true,decide_false]
       show _/\_
       exact ⟨by omega,by simp -dsimp -implicitDefEqProofs only [go_sem,seval]⟩
      by_cases k5:4<s.kind
      ·obtain ⟨ha,hb⟩:=hkf.k5 k5
       have c1:(readsM s).length=0:=by rw [ha]; rfl
       have c2:(writesM s).length=0:=by rw [hb]; rfl
       have c3:decide (s.kind>4)=true:=by simpa using k5
       simp -dsimp -implicitDefEqProofs only [go_sem,seval,k1,k2,k3,c3,c1,c2,h5,hw1,decide_true,decide_false]
       show _/\_
       exact ⟨by omega,by simp -dsimp -implicitDefEqProofs only [go_sem,seval]⟩
      ·have c3:decide (s.kind>4)=false:=by simpa using k5
       simp -dsimp -implicitDefEqProofs only [go_sem,seval,k1,k2,k3,c3,h5,hw1,decide_true,decide_false]
       show _/\_
       exact ⟨by omega,by simp -dsimp -implicitDefEqProofs only [go_sem,seval]⟩
  ·show _/\_
   exact ⟨by omega,by simp -dsimp -implicitDefEqProofs only [go_sem,seval,hw]⟩
end Rg
end
