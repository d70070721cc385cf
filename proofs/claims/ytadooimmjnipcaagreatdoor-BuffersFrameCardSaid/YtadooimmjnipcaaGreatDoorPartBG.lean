/- Part of the proof of the laws of the package relyguardlaw12: an abstract machine for the program's functions, what they compute, and that the machine is the program's. No condition. (H22c H22d) -/
import Derived.Test.YtadooimmjnipcaaGreatDoorPartBF
set_option linter.unusedSimpArgs false
set_option linter.unusedVariables false
section
-- FULL
namespace Rg
open Go
theorem exB_formed:formedM exampleB=true:=by decide +kernel
theorem exB_valid:validM exampleB=(0, -1, -1):=by decide +kernel
theorem exB_sane:exampleB.sane:=by
 constructor <;> decide +kernel
def exB1:Config:=⟨[0,0],[2],[[⟨[0],[1]⟩,⟨[1],[1]⟩]]⟩
def exB2:Config:=⟨[0,1],[2],[[⟨[0],[1]⟩]]⟩
def exB3:Config:=⟨[1,1],[2],[[]]⟩
theorem exB_ok1:okK exampleB 1 (startM exampleB) [⟨0,0,0⟩,⟨0,1,0⟩]=true:=by decide +kernel
theorem exB_ok2:okK exampleB 2 (startM exampleB) [⟨0,0,0⟩,⟨0,1,0⟩,⟨0, -1,1⟩]=true:=by decide +kernel
theorem exB_ok3:okK exampleB 0 (startM exampleB) [⟨0,0,0⟩,⟨0,1,0⟩]=true:=by decide +kernel
theorem exB_go1:goK exampleB 1 (startM exampleB) [⟨0,0,0⟩,⟨0,1,0⟩]=exB1:=by decide +kernel
theorem exB_go2:goK exampleB 2 (startM exampleB) [⟨0,0,0⟩,⟨0,1,0⟩,⟨0, -1,1⟩]=exB2:=by decide +kernel
theorem exB_go3:goK exampleB 0 (startM exampleB) [⟨0,0,0⟩,⟨0,1,0⟩]=exB3:=by decide +kernel
theorem exB_e1:choicesK exampleB 1 exB1=[⟨0, -1,0⟩]:=by decide +kernel
theorem exB_e2:choicesK exampleB 2 exB1=[⟨0, -1,0⟩,⟨0, -1,1⟩]:=by decide +kernel
theorem exB_n:nextK exampleB 1 exB1 ⟨0, -1,1⟩=(zeroC,110):=by decide +kernel
theorem exB_q1:quietM exB1=false:=by decide +kernel
theorem exB_q3:quietM exB3=true:=by decide +kernel
theorem exB_v:viewM exB2 0=[1,1]:=by decide +kernel
theorem exB_is1:IsK exampleB 1 exB1:=by
 rw [<- exB_go1]; exact goK_is exB_formed _ _ (startK_is exB_formed 1) exB_ok1
theorem exB_is1' : IsK exampleB 2 exB1:=⟨exB_is1.b,fun h=>by omega⟩
theorem exB_is2:IsK exampleB 2 exB2:=by
 rw [<- exB_go2]; exact goK_is exB_formed _ _ (startK_is exB_formed 2) exB_ok2
theorem one_ev:exOne.eval [] []=1:=by decide +kernel
theorem denS_run {r:V} {h:Nat->Option O} {a b:V} {K:V->(Nat->Option O)->Prop} {w:WK K} {k n:Nat} {rs:List (List V)} {fz:Bool} (hk:h k=some (.rows 3 rs fz)) (hf : ∀ r∈rs, ∀ v∈r,V.tree v=true)
 (ha : [a,b].flatMap (reach1 h)=[]) (hK : ∀ h',K r h'):denS (some r) false h [a,b, .ms k 0 n] K w:=by
 refine denS_ms hk ?_ fun h' _ _=>hK h'
 have:=reach_ms (i:=0) (n:=n) hk hf
 rw [show [a,b,V.ms k 0 n]=[a,b]++[V.ms k 0 n] from rfl,List.flatMap_append,ha,this]; rfl
theorem headB_den:Den Γ G 175 []=some (vb true):=by
 (refine den_ofY Γ175 rfl ?_; dsimp only [f175])
 have a0:=validP7_den exampleB exB_sane
 rw [exB_valid] at a0
 have c0:=const_den 1 1
 have c1:Den Γ G 27 [(.agg [.t (ti (exOne).op), .t (ti (exOne).w), .t (ti (exOne).n), .t (.sl ((exOne).kids.map (Expr.enc)))]), .t (.sl []), .t (.sl [])]=some (vi 1):=(evalP_den exOne [] []).trans (by rw [one_ev])
 have r1:=run_den exampleB exB_sane exB_formed 1 (by omega) _ (by decide) exB_ok1
 have r2:=run_den exampleB exB_sane exB_formed 2 (by omega) _ (by decide) exB_ok2
 have r3:=run_den exampleB exB_sane exB_formed 0 (by omega) _ (by decide) exB_ok3
 rw [exB_go1] at r1
 rw [exB_go2] at r2
 rw [exB_go3] at r3
 have e1:=enabledK_den exampleB exB_sane exB_formed 1 (by omega) _ exB_is1
 have e2:=enabledK_den exampleB exB_sane exB_formed 2 (by omega) _ exB_is1'
 rw [exB_e1] at e1
 rw [exB_e2] at e2
 have n1:=nextK_den exampleB exB_sane exB_formed 1 (by omega) _ exB_is1 ⟨0, -1,1⟩
 rw [exB_n] at n1
 have q1:=quietB_den exB1 (by decide)
 have q3:=quietB_den exB3 (by decide)
 rw [exB_q1] at q1
 rw [exB_q3] at q3
 have v1:=viewB_den exampleB exB_sane exB_formed exB2 exB_is2.b 0 (by decide)
 rw [exB_v] at v1
 have s1:Den Γ G 40 [.t (.sl ([⟨0, -1,0⟩].map Choice.enc)), .t (.sl ([⟨0, -1,0⟩].map Choice.enc))]=some (vb true):=(sameChoices_den _ _ (by decide)).trans rfl
 have s2:Den Γ G 40 [.t (.sl ([⟨0, -1,0⟩,⟨0, -1,1⟩].map Choice.enc)), .t (.sl ([⟨0, -1,0⟩,⟨0, -1,1⟩].map Choice.enc))]=some (vb true):=(sameChoices_den _ _ (by decide)).trans rfl
 have t1:Den Γ G 34 [.t (ints [0,1]), .t (.sl [[.int .i64 0],[.int .i64 1]])]=some (vb true):=(sameInts_den [0,1] [0,1] (by decide)).trans rfl
 have t2:Den Γ G 34 [.t (ints [1,1]), .t (.sl [[.int .i64 1],[.int .i64 1]])]=some (vb true):=(sameInts_den [1,1] [1,1] (by decide)).trans rfl
 simp only [go_sem,exB1,exB2,exB3,exOne,zeroC,Choice.enc,Entry.enc,List.map_cons,List.map_nil] at a0 c0 c1 r1 r2 r3 e1 e2 n1 q1 q3 v1 s1 s2 t1 t2
 have tr : ∀ (l:List (List V)),(l.all fun r=>r.all V.tree)=true -> ∀ r∈l, ∀ v∈r,V.tree v=true:=fun l h r hr v hv=>List.all_eq_true.1 (List.all_eq_true.1 h r hr) v hv
 simp -dsimp -implicitDefEqProofs [go_sem,exampleB_den,a0,c0,c1,r1,r2,r3,e1,e2,n1,q1,q3,v1,s1,s2,t1,t2]
 refine denS_run (by simp -dsimp -implicitDefEqProofs [go_sem]; exact ⟨rfl,rfl⟩) (tr _ rfl) rfl fun h1 => ?_
 simp -dsimp -implicitDefEqProofs [go_sem,e1,e2,n1,q1,q3,v1,s1,s2,t1,t2,exampleB_den,r2]
 refine denS_run (by simp -dsimp -implicitDefEqProofs [go_sem]; exact ⟨rfl,rfl⟩) (tr _ rfl) rfl fun h2 => ?_
 simp -dsimp -implicitDefEqProofs [go_sem,e1,e2,n1,q1,q3,v1,s1,s2,t1,t2,exampleB_den,r3]
 refine denS_run (by simp -dsimp -implicitDefEqProofs [go_sem]; exact ⟨rfl,rfl⟩) (tr _ rfl) rfl fun h3 => ?_
 simp -dsimp -implicitDefEqProofs [go_sem,e1,e2,n1,q1,q3,v1,s1,s2,t1,t2,exampleB_den]
end Rg
end
section
namespace Rg
open Go
theorem IsB.ents {p:Prog} (hf:formedM p=true) {c:Config} (hc:IsB p c) : ∀ l∈c.buf,entriesSane l:=by
 intro l hl
 obtain ⟨t,ht⟩:=List.getElem?_of_mem hl
 obtain ⟨⟨m1,m2,m3,m4⟩,_⟩:=limits_points (formed_limits hf).1
 obtain ⟨b1,b2,_⟩:=hc.buf t l ht
 refine ⟨by omega,fun e he => ?_⟩
 have hp:=b2 e he
 have h1:=proper_len hp
 have h2:=hp.len
 exact ⟨by omega,by omega⟩
structure Ready (p:Prog):Prop where
 s:p.sane
 f:formedM p=true
theorem goodB_cases (p:Prog) (hl:p.lite):fewM p=false\/(fewM p=true/\formedM p=false/\p.sane)\/(fewM p=true/\Ready p):=by
 cases hf:fewM p
 ·exact .inl rfl
 ·have hs:=few_sane hl hf
  cases hg:formedM p
  ·exact .inr (.inl ⟨rfl,rfl,hs⟩)
  ·exact .inr (.inr ⟨rfl,hs,hg⟩)
theorem lawM_den (p:Prog) (hl:p.lite) (picks:List Int) (hpk : ∀ k∈picks,0<=k/\k<256):Den Γ G 171 [(.agg [.t (.sl ((p).cells.map (Cell.enc))), .t (.sl ((p).modules.map (Contract.enc))), .t (.sl ((p).locks.map (Lock.enc))), .t (.sl ((p).threads.map (Thread.enc)))]), .t (bytesT picks)]=some (vb true):=by
 (refine den_ofY Γ171 rfl ?_; dsimp only [f171])
 have h1:=fewM_den p hl.steps
 rcases goodB_cases p hl with hf | ⟨hf,hg,hs⟩ | ⟨hf,⟨hs,hg⟩⟩
 ·rw [hf] at h1
  simp -dsimp -implicitDefEqProofs only [go_sem,seval,headB_den,h1]
 ·rw [hf] at h1
  have h2:=okR_den p hs
  rw [hg] at h2
  simp -dsimp -implicitDefEqProofs only [go_sem,seval,headB_den,h1,h2]
 ·rw [hf] at h1
  have h2:=okR_den p hs
  rw [hg] at h2
  have h3:=atK_den p hs hg 2 (by omega) picks hpk
  have hc:=atK_is hg 2 picks
  generalize atK p 2 picks=c at *
  have hc1:IsK p 1 c:=⟨hc.b,fun h=>by omega⟩
  have e1:=enabledK_den p hs hg 1 (by omega) c hc1
  have e2:=enabledK_den p hs hg 2 (by omega) c hc
  have k1:choicesK p 1 c=choicesB p 1 c:=choicesK_eq hc1
  have k2:choicesK p 2 c=choicesB p 2 c:=choicesK_eq hc
  rw [k1] at e1
  rw [k2] at e2
  have l1:=choicesB_len hg (k:=1) hc.b
  have l2:=choicesB_len hg (k:=2) hc.b
  have lm:=len_mono p c
  simp -dsimp -implicitDefEqProofs only [go_sem,seval,headB_den,h1,h2,h3,e1,e2]
  refine loopY 19342813113833929356377104 (choicesB p 1 c).length (fun i f=>(f 10).v=vi i) rfl rfl (by simp -dsimp -implicitDefEqProofs only [go_sem,seval]) ?_
  rintro i f u kk bb hi h10
  have hw:=wrapS i (by omega)
  simp -dsimp -implicitDefEqProofs only [go_sem,seval,h10]
  refine csplit (fun h => ?_) (fun h => ?_) <;> (try rw [h]) <;> (try simp only [bools] at h) <;> (try simp -dsimp -implicitDefEqProofs only [go_sem,seval,h10])
  ·obtain ⟨y,hy,hym⟩:=get_of ‹i<(choicesB p 1 c).length›
   have n1:=nextK_den p hs hg 1 (by omega) c hc1 y
   have n2:=nextK_den p hs hg 2 (by omega) c hc y
   have q2:nextK p 2 c y=nextK p 1 c y:=by
    simp only [nextK]
    rw [if_neg (by omega),if_neg (by omega)]
    exact next_mono hc.b hym
   obtain ⟨d,hn,hd⟩:=nextK_ok hg hc1 (by rw [k1]; exact hym)
   rw [q2] at n2
   rw [hn] at n1 n2
   have sm:=same_den d d (hd.b.sane hs) (hd.b.ents hg)
   rw [decide_eq_true rfl] at sm
   have hh:=has_den (choicesB p 2 c) y (by omega)
   rw [(hasM_iff _ _).2 (choices_mono hym)] at hh
   simp -dsimp -implicitDefEqProofs only [go_sem,seval,h10,hy,n1,n2,sm,hh]
   exact ⟨by omega,by simp -dsimp -implicitDefEqProofs only [go_sem,seval,hw]⟩
  ·have hge:((choicesB p 2 c).length:Int)>=((choicesB p 1 c).length:Int):=by omega
   simp -dsimp -implicitDefEqProofs only [go_sem,seval,hge]
end Rg
end
