/- Part of the proof of the laws of the package relyguardlaw30: an abstract machine for the program's functions, what they compute, and that the machine is the program's. No condition. (H47e) -/
import Derived.Test.YtcgkpboneipghaaGreatDoorPartBK
set_option linter.unusedSimpArgs false
set_option linter.unusedVariables false
section
namespace Rg
open Go
theorem accEq (u v:Acc):(decide ((u.th:Int)=(v.th:Int))&&(decide ((u.st:Int)=(v.st:Int))&&(decide ((u.ce:Int)=(v.ce:Int))&&u.wr==v.wr)))=decide (u=v):=by
 obtain ⟨a1,a2,a3,a4⟩:=u
 obtain ⟨b1,b2,b3,b4⟩:=v
 have e : ∀ a b:Nat,decide ((a:Int)=(b:Int))=decide (a=b):=fun a b=>by
  rw [decide_eq_decide]; omega
 have w : ∀ a b:Bool,(a==b)=decide (a=b):=by decide
 simp only [Acc.mk.injEq,Bool.decide_and,e,w]
set_option maxHeartbeats 2000000
theorem lawCycles30_den (p:Prog) (hl:p.lite7) (model:Int):Den Γ G 281 [(.agg [.t (.sl ((p).cells.map (Cell.enc))), .t (.sl ((p).modules.map (Contract.enc))), .t (.sl ((p).locks.map (Lock.enc))), .t (.sl ((p).threads.map (Thread.enc)))]),vi model]=some (vb true):=by
 have h0:=head30_den
 have h1:=fits_den p
 (refine den_ofY Γ281 rfl ?_; dsimp only [f281])
 cases hf:fits30 p
 ·rw [hf] at h1
  simp -dsimp -implicitDefEqProofs only [go_sem,seval,h0,h1]
 ·rw [hf] at h1
  have hS:=fits_small hf
  have hs:=hS.sane hl
  have hset:=small_set hS
  have hcy:=cycle_den p hs hset model
  have hr:=robust_den p hs hset model
  have hv:=validP7_den p hs
  have hd:=delays_den p hs hset model
  have hdl:=dl_len p hs model
  cases hc:cycleM p model with
  | none =>
    have hcy2:Den Γ G 288 [(.agg [.t (.sl ((p).cells.map (Cell.enc))), .t (.sl ((p).modules.map (Contract.enc))), .t (.sl ((p).locks.map (Lock.enc))), .t (.sl ((p).threads.map (Thread.enc)))]),vi model]=some (.tup [.t (.sl []),vb false]):=by rw [hcy,hc]; rfl
    have hro:=cycle_no hc
    rw [hro] at hr
    have hvb:((validB p)==decide ((validM p).1=0))=true:=by unfold validB; simp
    simp -dsimp -implicitDefEqProofs only [go_sem,seval,h0,h1,hcy2,hr,hv,hvb]
    rfl
  | some l =>
    have hcy2:Den Γ G 288 [(.agg [.t (.sl ((p).cells.map (Cell.enc))), .t (.sl ((p).modules.map (Contract.enc))), .t (.sl ((p).locks.map (Lock.enc))), .t (.sl ((p).threads.map (Thread.enc)))]),vi model]=some (.tup [.t (.sl (l.map Acc.enc)),vb true]):=by rw [hcy,hc]; rfl
    obtain ⟨hv1,hro,hco,hlen⟩:=cycle_ok hc
    have hok:p.ok:=by simpa [validB] using hv1
    have hcd:=cyclic_den p hok hset hco hlen
    rw [hro] at hr
    have hok1:(validM p).1=0:=hok
    obtain ⟨a,b,c,r,hle,_,_,_,hdm,_⟩:=hco.ok
    have g0:l[0]? = some a:=by rw [hle]; rfl
    have g1:l[1]? = some b:=by rw [hle]; rfl
    have c0:(0<l.length)=True:=eq_true (by rw [hle]; simp)
    have c1:(1<l.length)=True:=eq_true (by rw [hle]; simp)
    simp -dsimp -implicitDefEqProofs only [go_sem,seval,h0,h1,hcy2,hr,hv,hok1,hcd,hd]
    generalize delaysM p model=D at hdm hdl
    refine loopY 618970015031004119022178320 D.length (fun i f=>(f 12).v=vi i /\ ∀ j,j<i->D[j]? ≠ some (a,b)) rfl rfl ⟨by simp -dsimp -implicitDefEqProofs only [go_sem,seval],fun j hj=>by omega⟩ ?_
    rintro i f u kk bb hi ⟨h12,hno⟩
    have hwi:=wrapS i (by omega)
    simp -dsimp -implicitDefEqProofs only [go_sem,seval,h12]
    refine csplit (fun h => ?_) (fun h => ?_) <;> (try rw [h]) <;> (try simp only [bools] at h) <;> (try simp -dsimp -implicitDefEqProofs only [go_sem,seval,h12])
    ·obtain ⟨x,hx,_⟩:=get_of ‹i<D.length›
     have hi1:(i<D.length)=True:=eq_true ‹_›
     have q1:=accEq x.1 a
     have q2:=accEq x.2 b
     by_cases hxa:x.1=a
     ·have d1:decide (x.1=a)=true:=by simp [hxa]
      rw [d1] at q1
      by_cases hxb:x.2=b
      ·have d2:decide (x.2=b)=true:=by simp [hxb]
       rw [d2] at q2
       simp -dsimp -implicitDefEqProofs only [go_sem,seval,h12,hx,dlT,g0,g1,c0,c1,hi1,q1,q2,Bool.bne_false]
      ·have d2:decide (x.2=b)=false:=by simp [hxb]
       rw [d2] at q2
       simp -dsimp -implicitDefEqProofs only [go_sem,seval,h12,hx,dlT,g0,g1,c0,c1,hi1,q1,q2,Bool.bne_false]
       exact ⟨by omega,by simp -dsimp -implicitDefEqProofs only [go_sem,seval,hwi],fun j hj=>by
        rcases Nat.lt_or_ge j i with h1 | h1
        ·exact hno j h1
        ·have:j=i:=by omega
         subst this
         rw [hx]
         intro he; cases he
         exact hxb rfl⟩
     ·have d1:decide (x.1=a)=false:=by simp [hxa]
      rw [d1] at q1
      simp -dsimp -implicitDefEqProofs only [go_sem,seval,h12,hx,dlT,g0,g1,c0,c1,hi1,q1,q2,Bool.bne_false]
      exact ⟨by omega,by simp -dsimp -implicitDefEqProofs only [go_sem,seval,hwi],fun j hj=>by
       rcases Nat.lt_or_ge j i with h1 | h1
       ·exact hno j h1
       ·have:j=i:=by omega
        subst this
        rw [hx]
        intro he; cases he
        exact hxa rfl⟩
    ·obtain ⟨j,hj,he⟩:=List.mem_iff_getElem.1 hdm
     exact absurd (by rw [List.getElem?_eq_getElem hj,he]) (hno j (by omega))
end Rg
end
