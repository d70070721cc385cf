/- Part of the proof of the laws of the package relyguardlaw12: an abstract machine for the program's functions, what they compute, and that the machine is the program's. No condition. (H22i) -/
import Derived.Test.YtadooimmjnipcaaGreatDoorPartBG
set_option linter.unusedSimpArgs false
set_option linter.unusedVariables false
section
set_option maxRecDepth 4000
namespace Rg
open Go
theorem lawI_den (p:Prog) (hl:p.lite) (m:Int) (hm:0<=m/\m<256) (picks:List Int) (hpk : ∀ k∈picks,0<=k/\k<256):Den Γ G 173 [(.agg [.t (.sl ((p).cells.map (Cell.enc))), .t (.sl ((p).modules.map (Contract.enc))), .t (.sl ((p).locks.map (Lock.enc))), .t (.sl ((p).threads.map (Thread.enc)))]), .t (.int .u8 m), .t (bytesT picks)]=some (vb true):=by
 (refine den_ofY Γ173 rfl ?_; dsimp only [f173])
 have h1:=fewM_den p hl.steps
 rcases goodB_cases p hl with hf | ⟨hf,hg,hs⟩ | ⟨hf,⟨hs,hg⟩⟩
 ·rw [hf] at h1
  simp -dsimp -implicitDefEqProofs only [go_sem,seval,headB_den,h1]
 ·rw [hf] at h1
  have h2:=okR_den p hs
  rw [hg] at h2
  simp -dsimp -implicitDefEqProofs only [go_sem,seval,headB_den,h1,h2]
 ·rw [hf] at h1
  have h2:=okR_den p hs
  rw [hg] at h2
  have hmw:IntKind.i64.wrap m=m:=wrap64 (by omega)
  have hmr:m.tmod 2=m % 2:=Int.tmod_eq_emod_of_nonneg hm.1
  obtain ⟨k,hkd⟩ : ∃ k:Int,k=1+m % 2:=⟨_,rfl⟩
  have hk:0<=k/\k<=2:=by omega
  have hk0 : ¬ k=0:=by omega
  have hmk:IntKind.i64.wrap (1+m % 2)=k:=by rw [wrap64 (by omega),hkd]
  have h3:=atK_den p hs hg k hk picks hpk
  have hc:=atK_is hg k picks
  generalize atK p k picks=c at *
  have e1:=enabledK_den p hs hg k hk c hc
  have hel:=choicesK_le hg hc
  have hkB:=choicesK_eq hc
  rw [hkB] at e1 hel
  simp -dsimp -implicitDefEqProofs only [go_sem,seval,headB_den,h1,h2,hmw,hmr,hmk,h3,e1]
  refine loopY 784637716923335095479473677900958302012794149083035988032 (choicesB p k c).length (fun i f=>(f 12).v=vi i) rfl rfl (by simp -dsimp -implicitDefEqProofs only [go_sem,seval]) ?_
  rintro a f u kk bb ha h12
  have hw:=wrapS a (by omega)
  by_cases ha1:(a:Int)<((choicesB p k c).length:Int)
  ·by_cases ha2:(a:Int)<40
   ·obtain ⟨y,hy,hym⟩:=get_of (show a<(choicesB p k c).length by omega)
    rcases choicesB_mem.1 hym with ⟨t,x,i,s,hx,hsi,he,rfl⟩ | ⟨t,i,e,ht,hi,ho,rfl⟩
    ·have ht:=(List.getElem?_eq_some_iff.1 hx).1
     have hil:=(List.getElem?_eq_some_iff.1 hsi).1
     have hok:=formed_step hg hx hsi
     have t1 : ¬ (t:Int)<0:=by omega
     have t2 : ¬ (t:Int)>=(p.threads.length:Int):=by omega
     have i0 : ¬ (i:Int)<0:=by omega
     have i1 : ¬ (i:Int)>=(x.steps.length:Int):=by omega
     simp -dsimp -implicitDefEqProofs only [go_sem,seval,h12,ha1,ha2,hy,t1,t2,i0,i1,hx,hsi]
     by_cases hkd3:s.kind=1\/s.kind=3\/s.kind=5
     ·have dX:IsK p k (execB p c t s):=⟨execB_is hg hc.b hx hsi he,fun h=>absurd h hk0⟩
      have q1:nextK p k c ⟨t,i,0⟩=(execB p c t s,0):=by rw [nextK,if_neg hk0]; exact nextB_step hx hsi he
      have n1:=nextK_den p hs hg k hk c hc ⟨t,i,0⟩
      rw [q1] at n1
      have fin : ∀ (u q:Nat) (e:Entry),u<p.threads.length->(bufM c u)[q]? = some e->openM k (bufM c u) q e=true->u≠t ->
       ∃ b d:Config,Den Γ G 180 [(.agg [.t (.sl ((p).cells.map (Cell.enc))), .t (.sl ((p).modules.map (Contract.enc))), .t (.sl ((p).locks.map (Lock.enc))), .t (.sl ((p).threads.map (Thread.enc)))]),vi k,(.agg [.t (ints (c).mem), .t (ints (c).at_), .t (.sl ((c).buf.map (fun b=>[.sl (b.map Entry.enc)])))]), .agg [vi u,vi (-1),vi (headC e)]]=some (.tup [(.agg [.t (ints (b).mem), .t (ints (b).at_), .t (.sl ((b).buf.map (fun b=>[.sl (b.map Entry.enc)])))]),vi 0])/\Den Γ G 180 [(.agg [.t (.sl ((p).cells.map (Cell.enc))), .t (.sl ((p).modules.map (Contract.enc))), .t (.sl ((p).locks.map (Lock.enc))), .t (.sl ((p).threads.map (Thread.enc)))]),vi k,(.agg [.t (ints (execB p c t s).mem), .t (ints (execB p c t s).at_), .t (.sl ((execB p c t s).buf.map (fun b=>[.sl (b.map Entry.enc)])))]), .agg [vi u,vi (-1),vi (headC e)]]=some (.tup [(.agg [.t (ints (d).mem), .t (ints (d).at_), .t (.sl ((d).buf.map (fun b=>[.sl (b.map Entry.enc)])))]),vi 0]) /\
        Den Γ G 180 [(.agg [.t (.sl ((p).cells.map (Cell.enc))), .t (.sl ((p).modules.map (Contract.enc))), .t (.sl ((p).locks.map (Lock.enc))), .t (.sl ((p).threads.map (Thread.enc)))]),vi k,(.agg [.t (ints (b).mem), .t (ints (b).at_), .t (.sl ((b).buf.map (fun b=>[.sl (b.map Entry.enc)])))]), .agg [vi t,vi i,vi 0]]=some (.tup [(.agg [.t (ints (d).mem), .t (ints (d).at_), .t (.sl ((d).buf.map (fun b=>[.sl (b.map Entry.enc)])))]),vi 0])/\Den Γ G 11 [(.agg [.t (ints (d).mem), .t (ints (d).at_), .t (.sl ((d).buf.map (fun b=>[.sl (b.map Entry.enc)])))]),(.agg [.t (ints (d).mem), .t (ints (d).at_), .t (.sl ((d).buf.map (fun b=>[.sl (b.map Entry.enc)])))])]=some (vb true):=fun u q e hu hq ho hut=>by
       have L:Loc p c t u x s q e:=⟨hc.b,hx,hok,hkd3,hut,hu,hq⟩
       have q2:nextK p k c ⟨u, -1,headC e⟩=(commitB c u q,0):=by rw [nextK,if_neg hk0]; exact nextB_commit hc.b hu hq ho
       have dY:IsK p k (commitB c u q):=⟨commitB_is hc.b hq,fun h=>absurd h hk0⟩
       have q3:nextK p k (execB p c t s) ⟨u, -1,headC e⟩=(commitB (execB p c t s) u q,0):=by
        rw [nextK,if_neg hk0]; exact nextB_commit dX.b hu (by rw [L.bufU]; exact hq) (by rw [L.bufU]; exact ho)
       have q4:nextK p k (commitB c u q) ⟨t,i,0⟩=(commitB (execB p c t s) u q,0):=by
        rw [nextK,if_neg hk0, <- L.exchange]; exact nextB_step hx hsi (by rw [L.enabled]; exact he)
       have dZ:IsB p (commitB (execB p c t s) u q):=commitB_is dX.b (by rw [L.bufU]; exact hq)
       have n2:=nextK_den p hs hg k hk c hc ⟨u, -1,headC e⟩
       have n3:=nextK_den p hs hg k hk _ dX ⟨u, -1,headC e⟩
       have n4:=nextK_den p hs hg k hk _ dY ⟨t,i,0⟩
       have sm:=same_den _ (commitB (execB p c t s) u q) (dZ.sane hs) (dZ.ents hg)
       rw [decide_eq_true rfl] at sm
       rw [q2] at n2
       rw [q3] at n3
       rw [q4] at n4
       exact ⟨_,_,n2,n3,n4,sm⟩
      rcases hkd3 with hk1 | hk1 | hk1
      all_goals
       simp -dsimp -implicitDefEqProofs only [go_sem,seval,hk1]
       refine loopY 784637716923335095479463293307241232357537369565354229824 (choicesB p k c).length (fun b g=>(g 15).v=vi b) rfl rfl (by simp -dsimp -implicitDefEqProofs only [go_sem,seval]) ?_
       rintro b g u2 kk2 bb2 hb h15
       have hw2:=wrapS b (by omega)
       by_cases hb1:(b:Int)<((choicesB p k c).length:Int)
       ·by_cases hb2:(b:Int)<40
        ·obtain ⟨y,hy2,hym2⟩:=get_of (show b<(choicesB p k c).length by omega)
         rcases choicesB_mem.1 hym2 with ⟨u,x',j,s',_,_,_,rfl⟩ | ⟨u,q,e,hu,hq,ho,rfl⟩
         ·have j0:(j:Int)>=0:=by omega
          simp -dsimp -implicitDefEqProofs only [go_sem,seval,h15,hb1,hb2,hy2,j0]
          exact ⟨by omega,by simp -dsimp -implicitDefEqProofs only [go_sem,seval,hw2]⟩
         ·by_cases hut:(u:Int)=(t:Int)
          ·simp -dsimp -implicitDefEqProofs only [go_sem,seval,h15,hb1,hb2,hy2,hut]
           exact ⟨by omega,by simp -dsimp -implicitDefEqProofs only [go_sem,seval,hw2]⟩
          ·obtain ⟨cb,cd,n2,n3,n4,sm⟩:=fin u q e hu hq ho (by omega)
           simp -dsimp -implicitDefEqProofs only [go_sem,seval,h15,hb1,hb2,hy2,hut,n1,n2,n3,n4,sm]
           exact ⟨by omega,by simp -dsimp -implicitDefEqProofs only [go_sem,seval,hw2]⟩
        ·simp -dsimp -implicitDefEqProofs only [go_sem,seval,h15,hb1,hb2,h12]
         exact ⟨by omega,by simp -dsimp -implicitDefEqProofs only [go_sem,seval,hw]⟩
       ·simp -dsimp -implicitDefEqProofs only [go_sem,seval,h15,hb1,h12]
        exact ⟨by omega,by simp -dsimp -implicitDefEqProofs only [go_sem,seval,hw]⟩
     ·have k3 : ¬ s.kind=3:=by omega
      have k1 : ¬ s.kind=1:=by omega
      have k5 : ¬ s.kind=5:=by omega
      simp -dsimp -implicitDefEqProofs only [go_sem,seval,k3,k1,k5,h12]
      exact ⟨by omega,by simp -dsimp -implicitDefEqProofs only [go_sem,seval,hw]⟩
    ·have s1:(-1:Int)<0:=by omega
     simp -dsimp -implicitDefEqProofs only [go_sem,seval,h12,ha1,ha2,hy]
     exact ⟨by omega,by simp -dsimp -implicitDefEqProofs only [go_sem,seval,hw]⟩
   ·simp -dsimp -implicitDefEqProofs only [go_sem,seval,h12,ha1,ha2]
  ·simp -dsimp -implicitDefEqProofs only [go_sem,seval,h12,ha1]
end Rg
end
