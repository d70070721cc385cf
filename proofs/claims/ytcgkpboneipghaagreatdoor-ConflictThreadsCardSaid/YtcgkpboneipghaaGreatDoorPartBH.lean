/- Part of the proof of the laws of the package relyguardlaw30: an abstract machine for the program's functions, what they compute, and that the machine is the program's. No condition. (H45c) -/
import Derived.Test.YtcgkpboneipghaaGreatDoorPartBG
set_option linter.unusedSimpArgs false
set_option linter.unusedVariables false
section
namespace Rg
open Go
def aloneN (l:List Acc) (i:Nat):Bool:=(l.take i).all fun a=>decide (a.th=(l.getD 0 default).th)
theorem aloneN_succ {l:List Acc} {i:Nat} {a:Acc} (h:l[i]? = some a):aloneN l (i+1)=(aloneN l i&&decide (a.th=(l.getD 0 default).th)):=by
 unfold aloneN
 rw [take_succ_of h,List.all_append]; simp
theorem alone_rob (p:Prog) (model:Int) (h:aloneN (accessesM p) (accessesM p).length=true):robM p model=validB p:=by
 cases hv:validB p
 ·unfold robM; rw [hv]; rfl
 ·have hok:p.ok:=by simpa [validB] using hv
  refine robust_alone (t:=((accessesM p).getD 0 default).th) (fun a ha => ?_) hok
  unfold aloneN at h
  rw [List.take_length,List.all_eq_true] at h
  have:=h a (by unfold accessesM; rw [hv,if_pos rfl]; exact ha)
  simpa using this
theorem accL_len (p:Prog):(accessesM p).length<=16384:=by
 unfold accessesM
 split
 ·rename_i hv
  have hp:p.ok:=by simpa [validB] using hv
  obtain ⟨⟨l1,l2,l3,l4⟩,l5⟩:=limits_iff.1 (ok_iff.1 hp).lim
  have h1:=accsN_len p l1 (fun x hx=>(l5 x hx).2.1) _ (Nat.le_refl _)
  unfold accsM; omega
 ·simp
set_option maxHeartbeats 4000000
theorem lawThreads30_den (p:Prog) (hl:p.lite7) (raw:Int) (hraw:0<=raw/\raw<256) (model:Int):Den Γ G 284 [(.agg [.t (.sl ((p).cells.map (Cell.enc))), .t (.sl ((p).modules.map (Contract.enc))), .t (.sl ((p).locks.map (Lock.enc))), .t (.sl ((p).threads.map (Thread.enc)))]), .t (.int .u8 raw),vi model]=some (vb true):=by
 have h0:=head30_den
 have h1:=fits_den p
 (refine den_ofY Γ284 rfl ?_; dsimp only [f284])
 cases hf:fits30 p
 ·rw [hf] at h1
  simp -dsimp -implicitDefEqProofs only [go_sem,seval,h0,h1]
 ·rw [hf] at h1
  have hS:=fits_small hf
  have hs:=hS.sane hl
  have hset:=small_set hS
  have ha:=accesses_den p hs hset
  have hr:=robust_den p hs hset model
  have hv:=validP7_den p hs
  have hal:=accL_len p
  have htl:=hS.threads
  have hz0:((p.threads.length:Int)=0)=(p.threads.length=0):=by simp
  simp -dsimp -implicitDefEqProofs only [go_sem,seval,h0,h1,hz0]
  by_cases hn:p.threads.length=0
  ·simp -dsimp -implicitDefEqProofs only [go_sem,seval,hn]
  ·have hn' : (p.threads.length=0)=False:=by simp [hn]
   have halo:=alone_rob p model
   simp -dsimp -implicitDefEqProofs only [go_sem,seval,hn',ha]
   generalize accessesM p=L at hal halo
   refine loopY 140737219921408 L.length (fun i f=>(f 10).v=vi i/\(f 9).v=vb (aloneN L i)) rfl rfl ⟨by simp -dsimp -implicitDefEqProofs only [go_sem,seval],by simp -dsimp -implicitDefEqProofs only [go_sem,seval]; rfl⟩ ?_
   rintro i f u kk bb hij ⟨h10,h9⟩
   have hw:=wrapS i (by omega)
   simp -dsimp -implicitDefEqProofs only [go_sem,seval,h10]
   refine csplit (fun h => ?_) (fun h => ?_) <;> (try rw [h]) <;> (try simp only [bools] at h) <;> (try simp -dsimp -implicitDefEqProofs only [go_sem,seval,h10])
   ·obtain ⟨a,hx,_⟩:=get_of ‹i<L.length›
    have hsu:=aloneN_succ hx
    have hL0:L[0]? = some (L.getD 0 default):=by
     rw [List.getD_eq_getElem?_getD]
     obtain ⟨b,hb,_⟩:=get_of (show 0<L.length by omega)
     rw [hb]; rfl
    simp -dsimp -implicitDefEqProofs only [go_sem,seval,h10,h9,hx,hL0,natE]
    cases hc:aloneN L i
    ·rw [hc,Bool.false_and] at hsu
     simp -dsimp -implicitDefEqProofs only [go_sem,seval,h10]
     exact ⟨by omega,by simp -dsimp -implicitDefEqProofs only [go_sem,seval,h10,hw],by simp -dsimp -implicitDefEqProofs only [go_sem,seval,hsu]⟩
    ·rw [hc,Bool.true_and] at hsu
     simp -dsimp -implicitDefEqProofs only [go_sem,seval,h10,hx,hL0,natE]
     exact ⟨by omega,by simp -dsimp -implicitDefEqProofs only [go_sem,seval,h10,hw],by simp -dsimp -implicitDefEqProofs only [go_sem,seval,hsu]⟩
   ·have:i=L.length:=by omega
    subst this
    have hvb:(decide ((validM p).1=0))=validB p:=rfl
    simp -dsimp -implicitDefEqProofs only [go_sem,seval,hv,h9]
    have hbb : ∀ b:Bool,((b==b) != true)=false:=by decide
    obtain ⟨i,hi,hil⟩ : ∃ i:Nat,raw.tmod (p.threads.length:Int)=i/\i<p.threads.length:=by
     refine ⟨(raw.tmod p.threads.length).toNat, ?_, ?_⟩
     ·rw [Int.tmod_eq_emod_of_nonneg hraw.1]; have:=Int.emod_nonneg raw (show (p.threads.length:Int)≠0 by omega); omega
     ·rw [Int.tmod_eq_emod_of_nonneg hraw.1]; have:=Int.emod_lt_of_pos raw (show (0:Int)<p.threads.length by omega); have:=Int.emod_nonneg raw (show (p.threads.length:Int)≠0 by omega); omega
    have hwr:IntKind.i64.wrap raw=raw:=wrap64 (by omega)
    obtain ⟨x,hx,hxm⟩:=get_of hil
    have hri:((p.threads.map Thread.enc).map (fun x=>x.map V.t))[i]? = some [.t (.str x.name), .t (ti x.points), .t (.sl (x.asserts.map Expr.enc)), .t (ints x.modules), .t (.sl (x.steps.map Step.enc)), .t (.sl (x.loops.map Loop.enc)), .t (tb x.asleep)]:=by rw [List.getElem?_map,List.getElem?_map,hx]; rfl
    have hil' : (i<p.threads.length)=True:=eq_true hil
    have hSq:(setThr p i { x with steps:=[] }).SmallP 40:=setThr_small (x' := { x with steps:=[] }) hS hx ⟨(hS.thr x hxm).1,(hS.thr x hxm).2.1,by simp,(hS.thr x hxm).2.2.2.1,(hS.thr x hxm).2.2.2.2⟩ (fun s h=>by simp at h) (hS.loops x hxm)
    have hq:=robust_den (setThr p i { x with steps:=[] }) (hSq.sane (setThr_lite hl hx rfl)) (small_set hSq) model
    have hrc:=robust_cut (model:=model) hx
    have hpre:aloneN L L.length=false\/(aloneN L L.length=true/\robM p model=validB p):=by
     cases hA:aloneN L L.length
     ·exact .inl rfl
     ·exact .inr ⟨rfl,halo hA⟩
    have hallr:(((p.threads.map Thread.enc).map (fun x=>x.map V.t)).all fun r=>decide (r.length=7))=true:=by simp [Thread.enc]
    clear halo h9 h10
    rcases hpre with hA | ⟨hA,hR⟩
    all_goals
     first
     | have hr2:=hr
       rw [hR] at hr2
       simp -dsimp -implicitDefEqProofs only [go_sem,seval,hA,hr2,hvb,hbb]
       clear hr2
     | simp -dsimp -implicitDefEqProofs only [go_sem,seval,hA]
     refine putA_appU (a:=[]) (by simp -dsimp -implicitDefEqProofs only [go_sem,seval]) rfl (by simp; omega) (by decide) hallr rfl ?_
     intro k hp hk hH hfr
     clear hfr
     rw [List.nil_append] at hH ⊢
     rw [List.length_map,List.length_map]
     simp -dsimp -implicitDefEqProofs only [go_sem,seval,hH,hwr,hi,hil',hri,hz0,hn',hr]
     cases hrob:robM p model
     ·simp -dsimp -implicitDefEqProofs only [go_sem,seval]
     ·rw [hrc hrob] at hq
      generalize hpC (updC (fun x=>none) (kk+4+9+9+3+0) (some (O.rows 7 [] false))) hp=H3
      have tq:=thr_treeX p i { x with steps:=[] } (k:=k) (by rw [updC_at,if_pos rfl]) (row:=[.t (.str x.name), .t (ti x.points), .t (.sl (x.asserts.map Expr.enc)), .t (ints x.modules),zn, .t (.sl (x.loops.map Loop.enc)), .t (tb x.asleep)]) (h:=updC H3 k (some (.rows 7 (((p.threads.map Thread.enc).map (fun x=>x.map V.t)).set i [.t (.str x.name), .t (ti x.points), .t (.sl (x.asserts.map Expr.enc)), .t (ints x.modules),zn, .t (.sl (x.loops.map Loop.enc)), .t (tb x.asleep)]) false)))
       (by simp [toT_t,T.norm,Thread.enc])
      simp -dsimp -implicitDefEqProofs only [go_sem,seval, ↓tq,hq]
end Rg
end
