/- Part of the proof of the laws of the package relyguardlaw12: an abstract machine for the program's functions, what they compute, and that the machine is the program's. No condition. (H22f) -/
import Derived.Test.YtadooimmjnipcaaGreatDoorPartBG
set_option linter.unusedSimpArgs false
set_option linter.unusedVariables false
section
namespace Rg
open Go
theorem lawS_den (p:Prog) (hl:p.lite) (m:Int) (hm:0<=m/\m<256) (picks:List Int) (hpk : ∀ k∈picks,0<=k/\k<256):Den Γ G 169 [(.agg [.t (.sl ((p).cells.map (Cell.enc))), .t (.sl ((p).modules.map (Contract.enc))), .t (.sl ((p).locks.map (Lock.enc))), .t (.sl ((p).threads.map (Thread.enc)))]), .t (.int .u8 m), .t (bytesT picks)]=some (vb true):=by
 (refine den_ofY Γ169 rfl ?_; dsimp only [f169])
 have h1:=fewM_den p hl.steps
 rcases goodB_cases p hl with hf | ⟨hf,hg,hs⟩ | ⟨hf,⟨hs,hg⟩⟩
 ·rw [hf] at h1
  simp -dsimp -implicitDefEqProofs only [go_sem,seval,headB_den,h1]
 ·rw [hf] at h1
  have h2:=okR_den p hs
  rw [hg] at h2
  simp -dsimp -implicitDefEqProofs only [go_sem,seval,headB_den,h1,h2]
 ·rw [hf] at h1
  have h2:=okR_den p hs
  rw [hg] at h2
  have h3:=atK_den p hs hg 0 (by omega) picks hpk
  have hc:=atK_is hg 0 picks
  generalize atK p 0 picks=c at *
  have hmw:IntKind.i64.wrap m=m:=wrap64 (by omega)
  have hmr:m.tmod 2=m % 2:=Int.tmod_eq_emod_of_nonneg hm.1
  obtain ⟨k,hkd⟩ : ∃ k:Int,k=1+m % 2:=⟨_,rfl⟩
  have hk:k=1\/k=2:=by omega
  have hmk:IntKind.i64.wrap (1+m % 2)=k:=by rw [wrap64 (by omega),hkd]
  have hq:=hc.q rfl
  have hcK:IsK p k c:=⟨hc.b,fun _=>hq⟩
  have hcC:=hc.c rfl
  have ek0:choicesK p 0 c=choicesM p c:=rfl
  have ekB:choicesK p k c=choicesM p c:=by rw [choicesK_eq hcK,quiet_choices hq]
  have e1:=enabledK_den p hs hg 0 (by omega) c hc
  have e2:=enabledK_den p hs hg k (by omega) c hcK
  have e3:=enabledPL_den p hs c (hc.b.sane hs)
  rw [ek0] at e1
  rw [ekB] at e2
  rw [enabledL_eq hg hcC] at e3
  have hlen:=choicesK_le hg hc
  rw [ek0] at hlen
  have s1:=sameChoices_den (choicesM p c) (choicesM p c) (by omega)
  rw [decide_eq_true rfl] at s1
  simp -dsimp -implicitDefEqProofs only [go_sem,seval,headB_den,h1,h2,h3,hmw,hmr,hmk,e1,e2,e3,s1]
  refine loopY 374144419156711147060143317175363841345900304658496 (choicesM p c).length (fun i f=>(f 12).v=vi i) rfl rfl (by simp -dsimp -implicitDefEqProofs only [go_sem,seval]) ?_
  rintro i f u kk bb hi h12
  have hw:=wrapS i (by omega)
  simp -dsimp -implicitDefEqProofs only [go_sem,seval,h12]
  refine csplit (fun h => ?_) (fun h => ?_) <;> (try rw [h]) <;> (try simp only [bools] at h) <;> (try simp -dsimp -implicitDefEqProofs only [go_sem,seval,h12])
  ·obtain ⟨y,hy,hym⟩:=get_of ‹i<(choicesM p c).length›
   obtain ⟨t,x,j,s,hx,hsj,he,rfl,hn,hd⟩:=next_ok hg hcC hym
   have hok:=formed_step hg hx hsj
   have htl:=(List.getElem?_eq_some_iff.1 hx).1
   have n0:=nextK_den p hs hg 0 (by omega) c hc ⟨t,j,0⟩
   have nM:=nextP_den p hs c (hc.b.sane hs) ⟨t,j,0⟩
   have nK:=nextK_den p hs hg k (by omega) c hcK ⟨t,j,0⟩
   have heB:enabledB p c t s=true:=by rw [quiet_enabled hq]; exact he
   have q0:nextK p 0 c ⟨t,j,0⟩=(execS p c t s,0):=by rw [nextK,if_pos rfl]; exact hn
   have qK:nextK p k c ⟨t,j,0⟩=(execB p c t s,0):=by rw [nextK,if_neg (by omega)]; exact nextB_step hx hsj heB
   rw [q0] at n0
   rw [hn] at nM
   rw [qK] at nK
   have dB:IsK p k (execB p c t s):=⟨execB_is hg hc.b hx hsj heB,fun h=>by omega⟩
   have dS:IsB p (execS p c t s):=isB_of (is_iff.1 hd)
   have sm:=same_den (execS p c t s) (execS p c t s) (dS.sane hs) (dS.ents hg)
   rw [decide_eq_true rfl] at sm
   have ft:=fitsK_den p hs hg k (by omega) _ dB
   by_cases hk3:s.kind=3
   ·obtain ⟨g1,g2⟩:=quiet_store (p:=p) (c:=c) hc.b.lb hq htl hk3 hok.set
    obtain ⟨a,r,hset,hval,hsh,_⟩:=store_parts hk3 hok.row
    have hhd:headC (entryOf p c.mem s.set)=a.cell:=by
     simp [headC,entryOf,hset,List.filter_cons,hsh]
    have n2:=nextK_den p hs hg k (by omega) _ dB ⟨t, -1,a.cell⟩
    have q2:nextK p k (execB p c t s) ⟨t, -1,a.cell⟩=(execS p c t s,0):=by
     rw [nextK,if_neg (by omega), <- hhd,nextB_commit dB.b htl g1 (by simp [openM]),g2]
    rw [q2] at n2
    have ha0:s.set[0]? = some a:=by rw [hset]; rfl
    simp -dsimp -implicitDefEqProofs only [go_sem,seval,h12,hy,n0,nM,nK,sm,ft,hx,hsj,hk3,ha0,n2]
    exact ⟨by omega,by simp -dsimp -implicitDefEqProofs only [go_sem,seval,hw]⟩
   ·have hxe:execB p c t s=execS p c t s:=quiet_exec hc.b.lb hq hk3
    rw [hxe] at nK ft
    simp -dsimp -implicitDefEqProofs only [go_sem,seval,h12,hy,n0,nM,nK,sm,ft,hx,hsj,hk3]
    exact ⟨by omega,by simp -dsimp -implicitDefEqProofs only [go_sem,seval,hw]⟩
end Rg
end
