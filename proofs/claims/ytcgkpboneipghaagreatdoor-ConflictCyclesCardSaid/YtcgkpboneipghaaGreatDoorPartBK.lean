/- Part of the proof of the laws of the package relyguardlaw30: an abstract machine for the program's functions, what they compute, and that the machine is the program's. No condition. (H47d) -/
import Derived.Test.YtcgkpboneipghaaGreatDoorPartBJ
set_option linter.unusedSimpArgs false
set_option linter.unusedVariables false
section
namespace Rg
open Go
def CycInv (p:Prog) (a:Acc) (l:List Acc) (n many:Nat) (S:List Int):Prop :=
 (n=0/\many=2/\S=[(a.th:Int)])\/(1<=n /\ ∃ prev op m,l[n]? = some prev/\prev∈accsM p/\1<=many/\many<=3/\(op=true->many=1)/\(∀ v∈S, ∃ t:Nat,v=t/\m.testBit t=true)/\Trail p a prev op m (l.drop (n+1)))
set_option maxHeartbeats 2000000
theorem cyclic_den (p:Prog) (hp:p.ok) (hset : ∀ x∈p.threads, ∀ s∈x.steps,s.set.length<2^20) {model:Int} {l:List Acc} (hc:CycOk p model l) (hlen:l.length<=2*p.threads.length+2) :
 Den Γ G 290 [(.agg [.t (.sl ((p).cells.map (Cell.enc))), .t (.sl ((p).modules.map (Contract.enc))), .t (.sl ((p).locks.map (Lock.enc))), .t (.sl ((p).threads.map (Thread.enc)))]), .t (.sl (l.map Acc.enc))]=some (vb true):=by
 obtain ⟨⟨l1,l2,l3,l4⟩,l5⟩:=limits_iff.1 (ok_iff.1 hp).lim
 obtain ⟨a,b,c,r,hl,ha,hb,hth,_,hT⟩:=hc.ok
 have g0:l[0]? = some a:=by rw [hl]; rfl
 have g1:l[1]? = some b:=by rw [hl]; rfl
 have g2:l[2]? = some c:=by rw [hl]; rfl
 have hl3:3<=l.length:=by rw [hl]; simp
 have hd2:l.drop 2=c::r:=by rw [hl]; rfl
 have hbc:b.th≠c.th:=by
  obtain ⟨_,⟨h,_⟩ | ⟨h,_⟩⟩:=hT
  ·cases h
  ·rw [bit_one,decide_eq_false_iff_not] at h; exact h
 have e1:((l.length:Int)<3)=False:=eq_false (by omega)
 have e2:((a.th:Int)=(b.th:Int))=True:=eq_true (by omega)
 have e3:((b.th:Int)=(c.th:Int))=False:=eq_false (by omega)
 have c0:(0<l.length)=True:=eq_true (by omega)
 have c1:(1<l.length)=True:=eq_true (by omega)
 have c2:(2<l.length)=True:=eq_true (by omega)
 (refine den_ofY Γ290 rfl ?_; dsimp only [f290])
 simp -dsimp -implicitDefEqProofs only [go_sem,seval,e1,e2,e3,g0,g1,g2]
 refine loopYH 1496577676626844588240573268701473812126575412380656 (l.length-1) (fun n f h z=>(f 7).v=vi ((n+1:Nat):Int) /\ ∃ (many:Nat) (k:Nat) (S:List Int),(f 6).v=vi many/\(f 5).v = .ms k 0 S.length/\k<z/\h k=some (.rows 1 (rowsI S) false)/\S.length<=n+1/\CycInv p a l n many S) rfl
  ⟨by simp -dsimp -implicitDefEqProofs only [go_sem,seval],2,31,[(a.th:Int)],by simp -dsimp -implicitDefEqProofs only [go_sem,seval],by simp -dsimp -implicitDefEqProofs only [go_sem,seval],by simp -dsimp -implicitDefEqProofs only [go_sem,seval],by simp -dsimp -implicitDefEqProofs only [go_sem,seval]; rfl,by simp, .inl ⟨rfl,rfl,rfl⟩⟩ ?_
 rintro n f u H q bq hn ⟨h7,many,k,S,h6,h5,hkq,hk,hSl,hI⟩
 have hw:IntKind.i64.wrap (((n+1:Nat):Int)+1)=((n+1+1:Nat):Int):=wrapS (n+1) (by omega)
 have hwm:IntKind.i64.wrap (((n+1:Nat):Int)-1)=(n:Int):=by rw [wrap64 (by omega)]; omega
 have hlt0:(((n+1:Nat):Int)<(l.length:Int))=(n+1<l.length):=propext ⟨fun h=>by omega,fun h=>by omega⟩
 simp -dsimp -implicitDefEqProofs only [go_sem,seval,h7]
 by_cases hlt:n+1<l.length
 ·have hlt1:=eq_true hlt
  obtain ⟨cur,hcur,hcm⟩:=get_of hlt
  obtain ⟨prev,hprev,hpm⟩:=get_of (show n<l.length by omega)
  have hn1:(n<l.length)=True:=eq_true (by omega)
  rcases hI with ⟨rfl,rfl,rfl⟩ | ⟨hn0,prev',op,m,hp',hpa,hm1,hm3,hop,hS,hTr⟩
  ·rw [g0] at hprev; cases hprev
   rw [g1] at hcur; cases hcur
   have r1:=real_den p hp hset b hb
   have r2:=real_den p hp hset a ha
   obtain ⟨x,s,hx,_⟩:=step_get hb
   have e4:((b.th:Int)=(a.th:Int))=True:=eq_true (by omega)
   have e5:(((0+1:Nat):Int)>1)=False:=eq_false (by omega)
   have e6:(1<((0+1:Nat):Int))=False:=eq_false (by omega)
   simp -dsimp -implicitDefEqProofs only [go_sem,seval,hlt0,hlt1,g0,g1,hwm,h7,hn1,r1,r2,e4,hx,h6,e5,e6]
   refine ⟨by omega,by simp -dsimp -implicitDefEqProofs only [go_sem,seval,hw],3,k,[(a.th:Int)],by simp -dsimp -implicitDefEqProofs only [go_sem,seval],by simp -dsimp -implicitDefEqProofs only [go_sem,seval,h5],by simp -dsimp -implicitDefEqProofs only [go_sem,seval]; omega,by simp -dsimp -implicitDefEqProofs only [go_sem,seval,hk],by simp, .inr ⟨by omega,b,false,1 <<< b.th,g1,hb,by omega,by omega,by simp,fun v hv=>⟨a.th,List.mem_singleton.1 hv,by rw [bit_one,hth]; simp⟩,by rw [hd2]; exact hT⟩⟩
  ·rw [hp'] at hprev; cases hprev
   rw [drop_of hcur] at hTr
   obtain ⟨hca,hTr⟩:=hTr
   have r1:=real_den p hp hset cur hca
   have r2:=real_den p hp hset prev hpa
   obtain ⟨x,s,hx,hs,_⟩:=step_get hca
   have hxl:=(l5 x (List.mem_of_getElem? hx)).2.1
   have e5:(((n+1:Nat):Int)>1)=True:=eq_true (by omega)
   rcases hTr with ⟨rfl,t1,t2,t3,t4,hTr⟩ | ⟨t1,t2,hTr⟩
   ·have hmm:=hop rfl
    subst hmm
    have e4:((cur.th:Int)=(prev.th:Int))=True:=eq_true (by omega)
    have hfin : ∀ (H' : Nat->Option O) (z:Nat),CycInv p a l (n+1) 2 S:=fun _ _ => .inr ⟨by omega,cur,false,m,hcur,hca,by omega,by omega,by simp,hS,hTr⟩
    by_cases hst:cur.st=prev.st
    ·have e6:((cur.st:Int)=(prev.st:Int))=True:=eq_true (by omega)
     have hne:(decide ((cur.ce:Int)=(prev.ce:Int))&&cur.wr==prev.wr)=false:=by
      cases hb:(decide ((cur.ce:Int)=(prev.ce:Int))&&cur.wr==prev.wr)
      ·rfl
      ·exfalso
       simp only [Bool.and_eq_true,decide_eq_true_eq,beq_iff_eq] at hb
       apply t2
       obtain ⟨c1,c2,c3,c4⟩:=cur
       obtain ⟨d1,d2,d3,d4⟩:=prev
       simp only at hb t1 hst
       simp only [Acc.mk.injEq]
       exact ⟨t1,hst,by omega,hb.2⟩
     simp -dsimp -implicitDefEqProofs only [go_sem,seval,hlt0,hlt1,hcur,hp',hwm,h7,hn1,r1,r2,e4,hx,h6,e5,e6,hne,Bool.bne_false]
     refine ⟨by omega,by simp -dsimp -implicitDefEqProofs only [go_sem,seval,hw],2,k,S,by simp -dsimp -implicitDefEqProofs only [go_sem,seval],by simp -dsimp -implicitDefEqProofs only [go_sem,seval,h5],by simp -dsimp -implicitDefEqProofs only [go_sem,seval]; omega,by simp -dsimp -implicitDefEqProofs only [go_sem,seval,hk],by omega,hfin H q⟩
    ·have e6:((cur.st:Int)=(prev.st:Int))=False:=eq_false (by omega)
     have hpath:Path x.steps prev.st cur.st:=by
      rcases t3 with t3 | t3
      ·exact absurd t3 hst
      ·rw [List.getD_eq_getElem?_getD,hx] at t3; exact t3
     have f1:=follows_den x hxl prev.st cur.st hpath
     simp -dsimp -implicitDefEqProofs only [go_sem,seval,hlt0,hlt1,hcur,hp',hwm,h7,hn1,r1,r2,e4,hx,h6,e5,e6,f1,Bool.bne_false,Bool.false_and]
     refine ⟨by omega,by simp -dsimp -implicitDefEqProofs only [go_sem,seval,hw],2,k,S,by simp -dsimp -implicitDefEqProofs only [go_sem,seval],by simp -dsimp -implicitDefEqProofs only [go_sem,seval,h5],by simp -dsimp -implicitDefEqProofs only [go_sem,seval]; omega,by simp -dsimp -implicitDefEqProofs only [go_sem,seval,hk],by omega,hfin H q⟩
   ·have e4:((cur.th:Int)=(prev.th:Int))=False:=eq_false (by have:=t2.1; omega)
    simp -dsimp -implicitDefEqProofs only [go_sem,seval,hlt0,hlt1,hcur,hp',hwm,h7,hn1,r1,r2,e4,hx,h6,e5]
    refine loopYH 1427225914634476940996624313474619503217213968 S.length (fun j f h z=>(f 9).v=vi j/\h k=some (.rows 1 (rowsI S) false)/\q<=z) rfl ⟨by simp -dsimp -implicitDefEqProofs only [go_sem,seval],by simp -dsimp -implicitDefEqProofs only [go_sem,seval,hk],by simp -dsimp -implicitDefEqProofs only [go_sem,seval]; omega⟩ ?_
    rintro j f3 u3 H3 q3 b3 hj ⟨h9,hk3,hq3⟩
    have hwj:=wrapS j (by omega)
    simp -dsimp -implicitDefEqProofs only [go_sem,seval,h9,h5,hk3]
    refine csplit (fun h => ?_) (fun h => ?_) <;> (try rw [h]) <;> (try simp only [bools] at h) <;> (try simp -dsimp -implicitDefEqProofs only [go_sem,seval,h9,h5,hk3])
    ·obtain ⟨w,hww,hwm2⟩:=get_of ‹j<S.length›
     have hw3:=rowsI_at' hww
     have hj1:(j<S.length)=True:=eq_true ‹_›
     obtain ⟨tt,rfl,htt⟩:=hS w hwm2
     have e6:((tt:Int)=(cur.th:Int))=False:=eq_false (fun h=>by
      have:tt=cur.th:=by omega
      rw [this,t1] at htt; cases htt)
     simp -dsimp -implicitDefEqProofs only [go_sem,seval,h9,h5,hk3,hw3,hj1,h7,hcur,hlt1,e6]
     exact ⟨by omega,by simp -dsimp -implicitDefEqProofs only [go_sem,seval,hwj],by simp -dsimp -implicitDefEqProofs only [go_sem,seval,hk3],by simp -dsimp -implicitDefEqProofs only [go_sem,seval]; omega⟩
    ·have r3:=before_den p hp prev cur hpa hca t2
     have hkz:(k=q3+4+6)=False:=eq_false (by omega)
     have hrl:(rowsI S).length=S.length:=by simp [rowsI]
     have htk:(rowsI S).take S.length=rowsI S:=List.take_of_length_le (by omega)
     simp -dsimp -implicitDefEqProofs only [go_sem,seval,h5,h7,hcur,hk3,hkz,hrl,htk,Nat.le_refl]
     refine putA_appM (x:=q3) (by simp -dsimp -implicitDefEqProofs only [go_sem,seval,hkz,hk3]) hrl.symm (by omega) (by omega) (by rw [hrl]; simp; omega) (by decide) (by simp) (by simp [rowsI]) ?_
     intro k4 hp hk4 hH _ _
     have e1:rowsI S++[[V.t (ti (cur.th:Int))]]=rowsI (S++[(cur.th:Int)]):=by simp [rowsI]
     rw [e1] at hH ⊢
     have hrl2:(rowsI (S++[(cur.th:Int)])).length=(S++[(cur.th:Int)]).length:=by simp [rowsI]
     rw [hrl2]
     simp -dsimp -implicitDefEqProofs only [go_sem,seval,h7,hcur,hp',hwm,hlt1,hn1,r3]
     refine ⟨by omega,by simp -dsimp -implicitDefEqProofs only [go_sem,seval,hw],1,k4,S++[(cur.th:Int)],by simp -dsimp -implicitDefEqProofs only [go_sem,seval],by simp -dsimp -implicitDefEqProofs only [go_sem,seval],by simp -dsimp -implicitDefEqProofs only [go_sem,seval]; omega,by simp -dsimp -implicitDefEqProofs only [go_sem,seval,hH],by simp; omega, .inr ⟨by omega,cur,true,m ||| 1 <<< cur.th,hcur,hca,by omega,by omega,fun _=>rfl,fun v hv => ?_,hTr⟩⟩
     rcases List.mem_append.1 hv with h1 | h1
     ·obtain ⟨tt,h2,h3⟩:=hS v h1
      exact ⟨tt,h2,by rw [Gr.or_bit,h3]; rfl⟩
     ·exact ⟨cur.th,List.mem_singleton.1 h1,by rw [Gr.or_bit]; simp⟩
 ·have hlt1:=eq_false hlt
  have hne:n+1=l.length:=by omega
  rcases hI with ⟨rfl,_⟩ | ⟨hn0,prev,op,m,hp',hpa,hm1,hm3,hop,hS,hTr⟩
  ·omega
  ·rw [hne,List.drop_length] at hTr
   have r3:=before_den p hp prev a hpa ha hTr
   have hlm:IntKind.i64.wrap ((l.length:Int)-1)=(n:Int):=by rw [wrap64 (by omega)]; omega
   have hn1:(n<l.length)=True:=eq_true (by omega)
   simp -dsimp -implicitDefEqProofs only [go_sem,seval,hlt0,hlt1,hlm,hp',g0,c0,hn1,r3]
end Rg
end
