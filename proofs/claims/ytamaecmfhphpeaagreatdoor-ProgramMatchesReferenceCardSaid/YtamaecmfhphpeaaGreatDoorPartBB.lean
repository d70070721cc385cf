/- Part of the proof of the laws of the package relyguardlaw07: an abstract machine for the program's functions, what they compute, and that the machine is the program's. No condition. (H10g H10h H30v H30d H30e) -/
import Derived.Test.YtamaecmfhphpeaaGreatDoorPartBA
import Derived.Test.YtamaecmfhphpeaaGreatDoorPartAX
set_option linter.unusedSimpArgs false
set_option linter.unusedVariables false
section
namespace Rg
open Go
theorem thread1Is (p:Prog):IsF (.fn 103 [] [progT p]) (fun m=>inR m p.modules.length):=by
 refine IsP.isF ⟨by simp [progT,T.norm],fun n => ?_⟩
 simp only [List.map_cons,List.map_nil,progT]
 (refine den_ofY Γ103 rfl ?_; dsimp only [f103])
 have h1:=below_den n p.modules.length
 simp -dsimp -implicitDefEqProofs only [go_sem,seval,h1]
def thrT (x:Thread):T:=.ip [.str x.name,ti x.points, .sl (x.asserts.map Expr.enc),ints x.modules, .sl (x.steps.map Step.enc), .sl (x.loops.map Loop.enc),tb x.asleep]
def loopT (l:Loop):T:=.ip [ti l.head,ints l.body,ti l.variant.op,ti l.variant.w,ti l.variant.n, .sl (l.variant.kids.map Expr.enc)]
theorem thread2Is (x:Thread) (l:Loop):IsF (.fn 106 [] [thrT x,loopT l]) (fun q=>inR q x.points&&decide (q≠l.head)):=by
 refine IsP.isF ⟨by simp [thrT,loopT,T.norm],fun n => ?_⟩
 simp only [List.map_cons,List.map_nil,thrT,loopT]
 (refine den_ofY Γ106 rfl ?_; dsimp only [f106])
 have h1:=below_den n x.points
 simp -dsimp -implicitDefEqProofs only [go_sem,seval,h1]
 repeat' (refine csplit (fun h => ?_) (fun h => ?_) <;> (try rw [h]) <;> (try simp only [bools] at h) <;> (try simp -dsimp -implicitDefEqProofs only [go_sem,seval]))
 all_goals (simp [*])
theorem bitSees (p:Prog) (t:Int) (e:Expr) (pair:Bool):Den Γ G 99 [(.agg [.t (.sl ((p).cells.map (Cell.enc))), .t (.sl ((p).modules.map (Contract.enc))), .t (.sl ((p).locks.map (Lock.enc))), .t (.sl ((p).threads.map (Thread.enc)))]),(.agg [.t (ti (e).op), .t (ti (e).w), .t (ti (e).n), .t (.sl ((e).kids.map (Expr.enc)))]),vb pair, .t (.fn 134 [] [progT p, .ip [.fn 146 [] [progT p, .ip [ti t]]]])]=some (vb (truthOk p e pair t)):=by
 rw [bitP_den p e pair _ _ (seesF p t),truthOk,overOk,mayP_sees]
theorem overSees (p:Prog) (t:Int) (e:Expr):Den Γ G 108 [(.agg [.t (ti (e).op), .t (ti (e).w), .t (ti (e).n), .t (.sl ((e).kids.map (Expr.enc)))]), .t (.fn 134 [] [progT p, .ip [.fn 146 [] [progT p, .ip [ti t]]]])]=some (vb (overOk p e true t)):=by
 rw [overP_den e _ _ (seesF p t),overOk,mayP_sees]
def HT (p:Prog) (x:Thread) (n k:Nat) (es:List (T×V)) (h:Nat->Option O) (y:Nat):Prop :=
 h (n+0)=some (.rows 4 [[.t (.sl (p.cells.map Cell.enc)), .t (.sl (p.modules.map Contract.enc)), .t (.sl (p.locks.map Lock.enc)), .t (.sl (p.threads.map Thread.enc))]] false) /\
 h (n+1)=some (.rows 7 [[.t (.str x.name), .t (ti x.points), .t (.sl (x.asserts.map Expr.enc)), .t (ints x.modules), .t (.sl (x.steps.map Step.enc)), .t (.sl (x.loops.map Loop.enc)), .t (tb x.asleep)]] false) /\
 h k=some (.map es)/\n+2<=y
set_option maxHeartbeats 4000000 in
theorem threadP_den (p:Prog) (hs:p.sane) (i:Nat) (x:Thread) (hx:p.threads[i]? = some x) (hxp:x.points<2^40) (H:Nat->Option O) (n k:Nat) (hkn:k<n) (hmap:H k=some (.map (setS ((p.threads.take i).map Thread.name)))) :
 ∃ r h' n',DenR Γ G 83 [(.agg [.t (.sl ((p).cells.map (Cell.enc))), .t (.sl ((p).modules.map (Contract.enc))), .t (.sl ((p).locks.map (Lock.enc))), .t (.sl ((p).threads.map (Thread.enc)))]),vi i,(.agg [.t (.str (x).name), .t (ti (x).points), .t (.sl ((x).asserts.map Expr.enc)), .t (ints (x).modules), .t (.sl ((x).steps.map Step.enc)), .t (.sl ((x).loops.map Loop.enc)), .t (tb (x).asleep)]), .mm k] H n=some (r,h',n')/\(n<=n' /\ r = .tup [vi (threadErr p i x).1,vi (threadErr p i x).2])/\((threadErr p i x).1=0->h' k=some (.map (setS ((p.threads.take (i+1)).map Thread.name)))):=by
 have hxm:=List.mem_of_getElem? hx
 obtain ⟨s1,s2,s3,s4,s5⟩:=hs.thr x hxm
 have hl:=labelP_den x.name
 have hne0 : ¬ k=n:=by omega
 have hne1:=ne_add hkn
 have hne2:=ne_add2 hkn
 have hraw:=fun H' n' hH' => taken_full k x.name ((p.threads.take i).map Thread.name) H' n' hH'
 have hany:((p.threads.take i).map Thread.name).any (fun d=>d.toList==x.name.toList)=(p.threads.take i).any (fun d=>d.name.toList==x.name.toList):=by rw [List.any_map]; rfl
 (refine denR_ofY Γ83 rfl ?_; dsimp only [f83])
 simp -dsimp -implicitDefEqProofs only [go_sem,seval,hl]
 refine csplit (fun h => ?_) (fun h => ?_) <;> (try rw [h]) <;> (try simp only [bools] at h) <;> (try simp -dsimp -implicitDefEqProofs only [go_sem,seval])
 ·have:threadErr p i x=(1, -1):=by rw [threadErr,if_pos (by simp [h])]
  rw [this]
  exact ⟨⟨by simp -dsimp -implicitDefEqProofs only [go_sem,seval]; omega,by simp -dsimp -implicitDefEqProofs only [go_sem,seval]⟩,fun h0=>by simp at h0⟩
 ·have e1:isLabel x.name=true:=by assumption
  refine rawK_of (hraw _ _ (by simp -dsimp -implicitDefEqProofs only [go_sem,seval,hne1,hmap])) ?_
  rintro r h' n' ⟨⟨hn',rfl⟩,es,he,hes⟩
  rw [hany] at hes
  have q1 : ¬ n+1=k:=by omega
  have q2 : ¬ n+0=k:=by omega
  have q3 : ¬ n+0=n+1:=by omega
  have g4:h' (n+0)=some (.rows 4 [[.t (.sl (p.cells.map Cell.enc)), .t (.sl (p.modules.map Contract.enc)), .t (.sl (p.locks.map Lock.enc)), .t (.sl (p.threads.map Thread.enc))]] false):=by
   rw [he]; simp -dsimp -implicitDefEqProofs only [go_sem,seval,q2,q3]
  have g6:h' (n+1)=some (.rows 7 [[.t (.str x.name), .t (ti x.points), .t (.sl (x.asserts.map Expr.enc)), .t (ints x.modules), .t (.sl (x.steps.map Step.enc)), .t (.sl (x.loops.map Loop.enc)), .t (tb x.asleep)]] false):=by
   rw [he]; simp -dsimp -implicitDefEqProofs only [go_sem,seval,q1]
  have gk:h' k=some (.map es):=by rw [he]; simp -dsimp -implicitDefEqProofs only [go_sem,seval]
  clear he
  simp -dsimp -implicitDefEqProofs only [go_sem,seval,hany]
  refine csplit (fun h => ?_) (fun h => ?_) <;> (try rw [h]) <;> (try simp only [bools] at h) <;> (try simp -dsimp -implicitDefEqProofs only [go_sem,seval,g6])
  ·have:threadErr p i x=(41, -1):=by rw [threadErr,if_neg (by simp [e1]),if_pos h]
   rw [this]
   exact ⟨⟨by simp -dsimp -implicitDefEqProofs only [go_sem,seval]; omega,by simp -dsimp -implicitDefEqProofs only [go_sem,seval]⟩,fun h0=>by simp at h0⟩
  ·have e2:(p.threads.take i).any (fun d=>d.name.toList==x.name.toList)=false:=by assumption
   rw [hes e2,show (p.threads.take i).map Thread.name++[x.name]=(p.threads.take (i+1)).map Thread.name from by rw [take_succ_of hx]; simp] at gk
   clear hes hraw hmap
   by_cases hpt:x.points<1 \/ ¬ (x.asserts.length:Int)=x.points \/ ¬ (x.modules.length:Int)=x.points
   ·have:threadErr p i x=(1, -1):=by rw [threadErr,if_neg (by simp [e1]),if_neg (by simp [e2]),if_pos hpt]
    rw [this]
    repeat' (refine csplit (fun h => ?_) (fun h => ?_) <;> (try rw [h]) <;> (try simp only [bools] at h) <;> (try simp -dsimp -implicitDefEqProofs only [go_sem,seval,g6]))
    all_goals first
     | (exfalso; omega)
     | exact ⟨⟨by simp -dsimp -implicitDefEqProofs only [go_sem,seval]; omega,by simp -dsimp -implicitDefEqProofs only [go_sem,seval]⟩,fun h0=>by simp at h0⟩
   ·have f1 : ¬ x.points<1:=by omega
    have f2:(x.asserts.length:Int)=x.points:=by omega
    have f3:(x.modules.length:Int)=x.points:=by omega
    have hth:threadErr p i x=if !x.modules.all (fun m=>inR m p.modules.length) then (1, -1)
     else if !x.asserts.all (fun e=>truthOk p e false i) then (60, -1)
     else if ¬ (feGo (fun _ s=>stepErr p i x.points s) 0 x.steps).1=0 then feGo (fun _ s=>stepErr p i x.points s) 0 x.steps
     else ((feGo (fun _ l=>loopErr p i x.points l) 0 x.loops).1, -1):=by
     rw [threadErr,if_neg (by simp [e1]),if_neg (by simp [e2]),if_neg hpt]
    have f2' : decide (¬ (x.asserts.length:Int)=x.points)=false:=by simp [f2]
    have f3' : decide (¬ (x.modules.length:Int)=x.points)=false:=by simp [f3]
    have hwi:=within_den _ _ (thread1Is p) x.modules (by omega)
    simp only [progT] at hwi
    simp -dsimp -implicitDefEqProofs only [go_sem,seval,f1,f2',f3',g6,g4,hwi]
    have hvis:=visible_den p i
    refine csplit (fun h => ?_) (fun h => ?_) <;> (try rw [h]) <;> (try simp only [bools] at h) <;> (try simp -dsimp -implicitDefEqProofs only [go_sem,seval,g4,hvis,g6])
    ·have:threadErr p i x=(1, -1):=by rw [hth]; simp [h]
     rw [this]
     exact ⟨⟨by simp -dsimp -implicitDefEqProofs only [go_sem,seval]; omega,by simp -dsimp -implicitDefEqProofs only [go_sem,seval]⟩,fun h0=>by simp at h0⟩
    ·rw [h] at hth
     simp only [Bool.not_true,Bool.false_eq_true,if_false] at hth
     clear hwi h
     refine loopYH 147429837401600561920 x.asserts.length (fun j f h y=>(f 57).v=vi j/\HT p x n k (setS ((p.threads.take (i+1)).map Thread.name)) h y/\x.asserts.all (fun e=>truthOk p e false i)=(x.asserts.drop j).all (fun e=>truthOk p e false i)) rfl ⟨by simp -dsimp -implicitDefEqProofs only [go_sem,seval],⟨g4,g6,gk,by simp -dsimp -implicitDefEqProofs only [go_sem,seval]; omega⟩,rfl⟩ ?_
     clear g4 g6 gk
     rintro j f u hh y bs hj ⟨h57,⟨g4,g6,gk,gn⟩,hall⟩
     have hw:=wrapS j (by omega)
     simp -dsimp -implicitDefEqProofs only [go_sem,seval,h57]
     refine csplit (fun h => ?_) (fun h => ?_) <;> (try rw [h]) <;> (try simp only [bools] at h) <;> (try simp -dsimp -implicitDefEqProofs only [go_sem,seval,h57])
     ·obtain ⟨e,he,_⟩:=get_of ‹j<x.asserts.length›
      have hb:=bitSees p i e false
      simp -dsimp -implicitDefEqProofs only [go_sem,seval,h57,he,g4,hb]
      refine csplit (fun h => ?_) (fun h => ?_) <;> (try rw [h]) <;> (try simp only [bools] at h) <;> (try simp -dsimp -implicitDefEqProofs only [go_sem,seval,h57])
      ·have:threadErr p i x=(60, -1):=by rw [hth,hall,all_stop he h]; simp
       rw [this]
       exact ⟨⟨by simp -dsimp -implicitDefEqProofs only [go_sem,seval]; omega,by simp -dsimp -implicitDefEqProofs only [go_sem,seval]⟩,fun h0=>by simp at h0⟩
      ·refine ⟨by omega,by simp -dsimp -implicitDefEqProofs only [go_sem,seval,hw],⟨by simp -dsimp -implicitDefEqProofs only [go_sem,seval,g4],by simp -dsimp -implicitDefEqProofs only [go_sem,seval,g6],by simp -dsimp -implicitDefEqProofs only [go_sem,seval,gk],by simp -dsimp -implicitDefEqProofs only [go_sem,seval]; omega⟩, ?_⟩
       rw [hall,all_step he h]
     ·have:j=x.asserts.length:=by omega
      subst this
      rw [all_end] at hall
      rw [hall] at hth
      simp only [Bool.not_true,Bool.false_eq_true,if_false] at hth
      clear hall h57 hw
      simp -dsimp -implicitDefEqProofs only [go_sem,seval,g6]
      refine loopYH 38684445636047416179352320 x.steps.length (fun j f h y=>(f 70).v=vi j/\HT p x n k (setS ((p.threads.take (i+1)).map Thread.name)) h y/\feGo (fun _ s=>stepErr p i x.points s) 0 x.steps=feGo (fun _ s=>stepErr p i x.points s) j (x.steps.drop j)) rfl ⟨by simp -dsimp -implicitDefEqProofs only [go_sem,seval],⟨by simp -dsimp -implicitDefEqProofs only [go_sem,seval,g4],by simp -dsimp -implicitDefEqProofs only [go_sem,seval,g6],by simp -dsimp -implicitDefEqProofs only [go_sem,seval,gk],by simp -dsimp -implicitDefEqProofs only [go_sem,seval]; omega⟩,rfl⟩ ?_
      clear g4 g6 gk
      rintro j f u hh y bs hj ⟨h70,⟨g4,g6,gk,gn⟩,hm⟩
      have hw:=wrapS j (by omega)
      simp -dsimp -implicitDefEqProofs only [go_sem,seval,h70]
      refine csplit (fun h => ?_) (fun h => ?_) <;> (try rw [h]) <;> (try simp only [bools] at h) <;> (try simp -dsimp -implicitDefEqProofs only [go_sem,seval,h70])
      ·obtain ⟨s,hsx,hsm⟩:=get_of ‹j<x.steps.length›
       have hst:=stepP_den p i x ⟨by omega,hxp⟩ s (hs.sets x hxm s hsm)
       simp -dsimp -implicitDefEqProofs only [go_sem,seval,h70,hsx,g4,g6,hst]
       refine csplit (fun h => ?_) (fun h => ?_) <;> (try rw [h]) <;> (try simp only [bools] at h) <;> (try simp -dsimp -implicitDefEqProofs only [go_sem,seval,h70])
       ·have h2:=hm.trans (fe_stop (f:=fun _ s=>stepErr p i x.points s) hsx (by simpa using h))
        have:threadErr p i x=(stepErr p i x.points s,(j:Int)):=by rw [hth,h2,if_pos (by simpa using h)]
        rw [this]
        exact ⟨⟨by simp -dsimp -implicitDefEqProofs only [go_sem,seval]; omega,by simp -dsimp -implicitDefEqProofs only [go_sem,seval]⟩,fun h0=>absurd h0 h⟩
       ·refine ⟨by omega,by simp -dsimp -implicitDefEqProofs only [go_sem,seval,hw],⟨by simp -dsimp -implicitDefEqProofs only [go_sem,seval,g4],by simp -dsimp -implicitDefEqProofs only [go_sem,seval,g6],by simp -dsimp -implicitDefEqProofs only [go_sem,seval,gk],by simp -dsimp -implicitDefEqProofs only [go_sem,seval]; omega⟩, ?_⟩
        rw [hm,fe_step hsx (by simpa using h)]
      ·have:j=x.steps.length:=by omega
       subst this
       rw [fe_end] at hm
       rw [hm,if_neg (by simp)] at hth
       clear hm h70 hw
       simp -dsimp -implicitDefEqProofs only [go_sem,seval,g6]
       refine loopYH 10633823965969841973409111413518369536 x.loops.length (fun j f h y=>(f 88).v=vi j/\HT p x n k (setS ((p.threads.take (i+1)).map Thread.name)) h y/\feGo (fun _ l=>loopErr p i x.points l) 0 x.loops=feGo (fun _ l=>loopErr p i x.points l) j (x.loops.drop j)) rfl ⟨by simp -dsimp -implicitDefEqProofs only [go_sem,seval],⟨by simp -dsimp -implicitDefEqProofs only [go_sem,seval,g4],by simp -dsimp -implicitDefEqProofs only [go_sem,seval,g6],by simp -dsimp -implicitDefEqProofs only [go_sem,seval,gk],by simp -dsimp -implicitDefEqProofs only [go_sem,seval]; omega⟩,rfl⟩ ?_
       clear g4 g6 gk
       rintro j f u hh y bs hj ⟨h88,⟨g4,g6,gk,gn⟩,hm⟩
       have hw:=wrapS j (by omega)
       simp -dsimp -implicitDefEqProofs only [go_sem,seval,h88]
       refine csplit (fun h => ?_) (fun h => ?_) <;> (try rw [h]) <;> (try simp only [bools] at h) <;> (try simp -dsimp -implicitDefEqProofs only [go_sem,seval,h88])
       ·obtain ⟨l,hlx,hlm⟩:=get_of ‹j<x.loops.length›
        have hbl:=hs.loops x hxm l hlm
        have hstop : ∀ k' : Int,k' ≠ 0->loopErr p i x.points l=k' -> threadErr p i x=(k', -1):=fun k' hk' h0=>by
         have h2:=hm.trans (fe_stop (f:=fun _ l=>loopErr p i x.points l) hlx (by rw [h0]; exact hk'))
         rw [hth,h2,h0]
        have hin:=below_den l.head x.points
        have hri:=increasing_den l.body (by omega)
        have hwi:=within_den _ _ (thread2Is x l) l.body (by omega)
        simp only [thrT,loopT] at hwi
        have hv:=validP_den l.variant p.cells false
        have hov:=overSees p i l.variant
        have r1 : ¬ n=y+2:=by omega
        have r2 : ∀ a b:Nat,¬ n+0=y+a+b:=by intros; omega
        have r3 : ∀ a b:Nat,¬ k=y+a+b:=by intros; omega
        simp -dsimp -implicitDefEqProofs only [go_sem,seval,h88,hlx,g4,g6,r1,r2,hin]
        refine csplit (fun h => ?_) (fun h => ?_) <;> (try rw [h]) <;> (try simp only [bools] at h) <;> (try simp -dsimp -implicitDefEqProofs only [go_sem,seval,h88,r1,r2,g4,g6,hri])
        ·rw [hstop 1 (by decide) (by simp [loopErr,h])]
         exact ⟨⟨by simp -dsimp -implicitDefEqProofs only [go_sem,seval]; omega,by simp -dsimp -implicitDefEqProofs only [go_sem,seval]⟩,fun h0=>by simp at h0⟩
        ·have u1:inR l.head x.points=true:=by assumption
         refine csplit (fun h => ?_) (fun h => ?_) <;> (try rw [h]) <;> (try simp only [bools] at h) <;> (try simp -dsimp -implicitDefEqProofs only [go_sem,seval,h88,r1,r2,g4,g6,hwi])
         ·rw [hstop 1 (by decide) (by simp [loopErr,h])]
          exact ⟨⟨by simp -dsimp -implicitDefEqProofs only [go_sem,seval]; omega,by simp -dsimp -implicitDefEqProofs only [go_sem,seval]⟩,fun h0=>by simp at h0⟩
         ·have u2:rising l.body=true:=by assumption
          refine csplit (fun h => ?_) (fun h => ?_) <;> (try rw [h]) <;> (try simp only [bools] at h) <;> (try simp -dsimp -implicitDefEqProofs only [go_sem,seval,h88,r1,r2,g4,g6,hv])
          ·rw [hstop 1 (by decide) (by rw [loopErr,if_pos (by rw [h]; simp)])]
           exact ⟨⟨by simp -dsimp -implicitDefEqProofs only [go_sem,seval]; omega,by simp -dsimp -implicitDefEqProofs only [go_sem,seval]⟩,fun h0=>by simp at h0⟩
          ·have u3:(l.body.all fun q=>inR q x.points&&decide (q≠l.head))=true:=by assumption
           have hle:loopErr p i x.points l=if !l.variant.valid p.cells false || !overOk p l.variant true i then 60 else 0:=by
            rw [loopErr,if_neg (by rw [u1,u2,u3]; simp)]
           refine csplit (fun h => ?_) (fun h => ?_) <;> (try rw [h]) <;> (try simp only [bools] at h) <;> (try simp -dsimp -implicitDefEqProofs only [go_sem,seval,h88,r1,r2,g4,g6,hov])
           ·rw [hstop 60 (by decide) (by rw [hle]; simp [h])]
            exact ⟨⟨by simp -dsimp -implicitDefEqProofs only [go_sem,seval]; omega,by simp -dsimp -implicitDefEqProofs only [go_sem,seval]⟩,fun h0=>by simp at h0⟩
           ·have u4:l.variant.valid p.cells false=true:=by assumption
            refine csplit (fun h => ?_) (fun h => ?_) <;> (try rw [h]) <;> (try simp only [bools] at h) <;> (try simp -dsimp -implicitDefEqProofs only [go_sem,seval,h88])
            ·rw [hstop 60 (by decide) (by rw [hle]; simp [h])]
             exact ⟨⟨by simp -dsimp -implicitDefEqProofs only [go_sem,seval]; omega,by simp -dsimp -implicitDefEqProofs only [go_sem,seval]⟩,fun h0=>by simp at h0⟩
            ·refine ⟨by omega,by simp -dsimp -implicitDefEqProofs only [go_sem,seval,hw],⟨by simp -dsimp -implicitDefEqProofs only [go_sem,seval,g4,r2],by simp -dsimp -implicitDefEqProofs only [go_sem,seval,g6,r1],by simp -dsimp -implicitDefEqProofs only [go_sem,seval,gk,r3],by simp -dsimp -implicitDefEqProofs only [go_sem,seval]; omega⟩, ?_⟩
             rw [hm,fe_step hlx (by rw [hle]; simp [h,u4])]
       ·have:j=x.loops.length:=by omega
        subst this
        rw [fe_end] at hm
        rw [hth,hm]
        exact ⟨⟨by simp -dsimp -implicitDefEqProofs only [go_sem,seval]; omega,by simp -dsimp -implicitDefEqProofs only [go_sem,seval]⟩,fun _=>by simp -dsimp -implicitDefEqProofs only [go_sem,seval,gk]⟩
end Rg
end
section
namespace Rg
open Go
@[go_sem] theorem fnK_fa (g:Nat) (c:List T) (K:Nat->List V->List V->Prop) (w:WK K):fnK (some (.t (.fa g c))) K w=K g [.agg (c.map V.t)] []:=rfl
theorem validP7_den (p:Prog) (hs:p.sane):Den Γ G 64 [(.agg [.t (.sl ((p).cells.map (Cell.enc))), .t (.sl ((p).modules.map (Contract.enc))), .t (.sl ((p).locks.map (Lock.enc))), .t (.sl ((p).threads.map (Thread.enc)))])]=some (.tup [vi (validM p).1,vi (validM p).2.1,vi (validM p).2.2]):=by
 (refine den_ofY Γ64 rfl ?_; dsimp only [f64])
 have h1:=limitsP_den p hs
 simp -dsimp -implicitDefEqProofs only [go_sem,seval,h1]
 refine csplit (fun h => ?_) (fun h => ?_) <;> (try rw [h]) <;> (try simp only [bools] at h) <;> (try simp -dsimp -implicitDefEqProofs only [go_sem,seval])
 ·have h0 : ¬ (limitsM p).1=0:=by simpa using h
  have:validM p=((limitsM p).1,(limitsM p).2, -1):=by rw [validM,if_pos h0]
  rw [this]; simp
 ·have h0:(limitsM p).1=0:=by simpa using h
  obtain ⟨⟨l1,l2,l3,l4⟩,l5⟩:=limits_points h0
  have hv1:validM p=if ¬ cellsM p=0 then (cellsM p, -1, -1) else if ¬ modulesM p=0 then (modulesM p, -1, -1) else if ¬ locksM p=0 then (locksM p, -1, -1) else thrGo p 0 p.threads:=by
   rw [validM,if_neg (by simpa using h0)]
  have c1:=cellsP_den p hs
  have c2:=modulesP_den p hs
  have c3:=locksP_den p hs
  refine wL_step ?_
  simp -dsimp -implicitDefEqProofs only [go_sem,seval,c1]
  refine csplit (fun h => ?_) (fun h => ?_) <;> (try rw [h]) <;> (try simp only [bools] at h) <;> (try simp -dsimp -implicitDefEqProofs only [go_sem,seval])
  ·have:validM p=(cellsM p, -1, -1):=by rw [hv1,if_pos (by simpa using h)]
   rw [this]; simp
  ·have h2:cellsM p=0:=by simpa using h
   rw [if_neg (by simpa using h2)] at hv1
   refine wL_step ?_
   simp -dsimp -implicitDefEqProofs only [go_sem,seval,c2]
   refine csplit (fun h => ?_) (fun h => ?_) <;> (try rw [h]) <;> (try simp only [bools] at h) <;> (try simp -dsimp -implicitDefEqProofs only [go_sem,seval])
   ·have:validM p=(modulesM p, -1, -1):=by rw [hv1,if_pos (by simpa using h)]
    rw [this]; simp
   ·have h3:modulesM p=0:=by simpa using h
    rw [if_neg (by simpa using h3)] at hv1
    refine wL_step ?_
    simp -dsimp -implicitDefEqProofs only [go_sem,seval,c3]
    refine csplit (fun h => ?_) (fun h => ?_) <;> (try rw [h]) <;> (try simp only [bools] at h) <;> (try simp -dsimp -implicitDefEqProofs only [go_sem,seval])
    ·have:validM p=(locksM p, -1, -1):=by rw [hv1,if_pos (by simpa using h)]
     rw [this]; simp
    ·have h4:locksM p=0:=by simpa using h
     rw [if_neg (by simpa using h4)] at hv1
     refine wL_step ?_
     simp -dsimp -implicitDefEqProofs only [go_sem,seval]
     refine loopYH 73786835557349912604 p.threads.length (fun i f h y=>(f 47).v=vi i/\56<y/\h 56=some (.map (setS ((p.threads.take i).map Thread.name)))/\validM p=thrGo p i (p.threads.drop i)) rfl ⟨by simp -dsimp -implicitDefEqProofs only [go_sem,seval],by simp -dsimp -implicitDefEqProofs only [go_sem,seval],by simp -dsimp -implicitDefEqProofs only [go_sem,seval]; rfl,hv1⟩ ?_
     rintro i f u hh y bs hi ⟨h47,hy,hmap,hm⟩
     have hw:=wrapS i (by omega)
     simp -dsimp -implicitDefEqProofs only [go_sem,seval,h47]
     refine csplit (fun h => ?_) (fun h => ?_) <;> (try rw [h]) <;> (try simp only [bools] at h) <;> (try simp -dsimp -implicitDefEqProofs only [go_sem,seval,h47])
     ·obtain ⟨x,hx,hxm⟩:=get_of ‹i<p.threads.length›
      simp -dsimp -implicitDefEqProofs only [go_sem,seval,h47,hx]
      refine rawK_of (threadP_den p hs i x hx (by have:=(l5 x hxm).1; omega) hh _ 56 (by omega) hmap) ?_
      rintro r h' n' ⟨⟨hn,rfl⟩,hk⟩
      simp -dsimp -implicitDefEqProofs only [go_sem,seval,h47]
      refine csplit (fun h => ?_) (fun h => ?_) <;> (try rw [h]) <;> (try simp only [bools] at h) <;> (try simp -dsimp -implicitDefEqProofs only [go_sem,seval,h47])
      ·rw [hm,thr_stop hx (by simpa using h)]; simp
      ·have hk' := hk (by simpa using h)
       refine ⟨by omega,by simp -dsimp -implicitDefEqProofs only [go_sem,seval,hw],by simp -dsimp -implicitDefEqProofs only [go_sem,seval]; omega,by simp -dsimp -implicitDefEqProofs only [go_sem,seval,hk'], ?_⟩
       rw [hm,thr_step hx (by simpa using h)]
     ·have:i=p.threads.length:=by omega
      subst this
      rw [hm,thr_end]; simp
theorem fe_all {α:Type} {f:Nat->α->Int} : ∀ {l:List α} {i:Nat},(feGo f i l).1=0 <-> ∀ (j:Nat) (x:α),l[j]? = some x->f (i+j) x=0
 | [],i=>by simp [feGo]
 | y::r,i=>by
  rw [feGo]
  constructor
  ·intro h j x hj
   split at h
   ·rename_i h0
    cases j with
    | zero=>simp at hj; subst hj; exact h0
    | succ j =>
     have:=(fe_all (l:=r) (i:=i+1)).1 h j x (by simpa using hj)
     rwa [show i+1+j=i+(j+1) by omega] at this
   ·rename_i h0; exact absurd h h0
  ·intro h
   have h0:f i y=0:=h 0 y rfl
   rw [if_pos h0]
   refine (fe_all (l:=r) (i:=i+1)).2 fun j x hj => ?_
   have:=h (j+1) x (by simpa using hj)
   rwa [show i+(j+1)=i+1+j by omega] at this
theorem thr_all {p:Prog} : ∀ {l:List Thread} {i:Nat},(thrGo p i l).1=0 <-> ∀ (j:Nat) (x:Thread),l[j]? = some x->(threadErr p (i+j) x).1=0
 | [],i=>by simp [thrGo]
 | y::r,i=>by
  rw [thrGo]
  constructor
  ·intro h j x hj
   split at h
   ·rename_i h0
    cases j with
    | zero=>simp at hj; subst hj; exact h0
    | succ j =>
     have:=(thr_all (l:=r) (i:=i+1)).1 h j x (by simpa using hj)
     rwa [show i+1+j=i+(j+1) by omega] at this
   ·rename_i h0; exact absurd h h0
  ·intro h
   have h0:(threadErr p i y).1=0:=h 0 y rfl
   rw [if_pos h0]
   refine (thr_all (l:=r) (i:=i+1)).2 fun j x hj => ?_
   have:=h (j+1) x (by simpa using hj)
   rwa [show i+(j+1)=i+1+j by omega] at this
abbrev Prog.ok (p:Prog):Prop:=(validM p).1=0
structure Rules (p:Prog):Prop where
 lim:(limitsM p).1=0
 cells : ∀ (i:Nat) (c:Cell),p.cells[i]? = some c->cellErr p i c=0
 modules : ∀ (i:Nat) (m:Contract),p.modules[i]? = some m->modErr p i m=0
 locks : ∀ (i:Nat) (l:Lock),p.locks[i]? = some l->lockErr p i l=0
 threads : ∀ (i:Nat) (x:Thread),p.threads[i]? = some x->(threadErr p i x).1=0
theorem ok_iff {p:Prog}:p.ok<->Rules p:=by
 unfold Prog.ok validM
 constructor
 ·intro h
  split at h
  ·rename_i h0; exact absurd h h0
  ·rename_i h0
   split at h
   ·rename_i h1; exact absurd h h1
   ·rename_i h1
    split at h
    ·rename_i h2; exact absurd h h2
    ·rename_i h2
     split at h
     ·rename_i h3; exact absurd h h3
     ·rename_i h3
      simp only [Decidable.not_not] at h0 h1 h2 h3
      exact ⟨h0,by simpa [cellsM,fe_all] using h1,by simpa [modulesM,fe_all] using h2,by simpa [locksM,fe_all] using h3,by simpa [thr_all] using h⟩
 ·rintro ⟨h0,h1,h2,h3,h4⟩
  have g1:cellsM p=0:=by unfold cellsM; rw [fe_all]; simpa using h1
  have g2:modulesM p=0:=by unfold modulesM; rw [fe_all]; simpa using h2
  have g3:locksM p=0:=by unfold locksM; rw [fe_all]; simpa using h3
  rw [if_neg (by simpa using h0),if_neg (by simpa using g1),if_neg (by simpa using g2),if_neg (by simpa using g3),thr_all]
  simpa using h4
theorem cellErr_iff {p:Prog} {i:Nat} {c:Cell}:cellErr p i c=0<->cellBad p c=false/\(p.cells.take i).any (fun d=>d.name.toList==c.name.toList)=false:=by
 unfold cellErr
 cases cellBad p c <;> cases (p.cells.take i).any (fun d=>d.name.toList==c.name.toList) <;> simp
theorem modErr_iff {p:Prog} {i:Nat} {m:Contract}:modErr p i m=0<->(isLabel m.name=true/\isLabel m.owner=true)/\(p.modules.take i).any (fun d=>d.name.toList==m.name.toList)=false /\
 ((m.rely.absent=true\/truthOk p m.rely true (-1)=true)/\truthOk p m.guar true (-1)=true)/\rising m.frame=true/\m.frame.all (ofThread p (-1))=true:=by
 unfold modErr
 cases isLabel m.name <;> cases isLabel m.owner <;> cases (p.modules.take i).any (fun d=>d.name.toList==m.name.toList) <;> cases m.rely.absent <;> cases truthOk p m.rely true (-1) <;> cases truthOk p m.guar true (-1) <;>
  cases rising m.frame <;> cases m.frame.all (ofThread p (-1)) <;> simp
theorem lockErr_iff {p:Prog} {i:Nat} {l:Lock}:lockErr p i l=0<->(ofThread p (-1) l.cell=true/\cellIs p l.cell (fun x=>decide (x.w=1))=true/\cellIs p l.cell Cell.ghost=false/\inR l.module p.modules.length=true) /\
 (p.locks.take i).any (fun d=>decide (d.cell=l.cell))=false/\truthOk p l.inv false (-1)=true:=by
 unfold lockErr
 cases ofThread p (-1) l.cell <;> cases cellIs p l.cell (fun x=>decide (x.w=1)) <;> cases cellIs p l.cell Cell.ghost <;> cases inR l.module p.modules.length <;> cases (p.locks.take i).any (fun d=>decide (d.cell=l.cell)) <;>
  cases truthOk p l.inv false (-1) <;> simp
theorem setErr_iff {p:Prog} {set:List Assign} {i:Nat} {a:Assign}:setErr p set i a=0<->(inR a.cell p.cells.length=true/\(set.take i).any (fun b=>decide (b.cell=a.cell))=false)/\a.to.valid p.cells false=true/\cellIs p a.cell (fun x=>decide (a.to.w=x.w))=true:=by
 unfold setErr
 cases inR a.cell p.cells.length <;> cases (set.take i).any (fun b=>decide (b.cell=a.cell)) <;> cases a.to.valid p.cells false <;> cases cellIs p a.cell (fun x=>decide (a.to.w=x.w)) <;> simp
theorem stepErr_iff {p:Prog} {t n:Int} {s:Step}:stepErr p t n s=0<->stepBad p n s=false/\(s.guard.valid p.cells false=true/\s.guard.w=1)/\(∀ (j:Nat) (a:Assign),s.set[j]? = some a->setErr p s.set j a=0)/\kindOk p t s=true:=by
 unfold stepErr
 have hfe:(feGo (setErr p s.set) 0 s.set).1=0 <-> ∀ (j:Nat) (a:Assign),s.set[j]? = some a->setErr p s.set j a=0:=by rw [fe_all]; simp
 cases stepBad p n s
 ·cases s.guard.valid p.cells false
  ·simp
  ·by_cases hw:s.guard.w=1
   ·simp only [hw,ne_eq,not_true_eq_false,decide_false,Bool.not_true,Bool.or_false,Bool.false_eq_true,if_false,true_and]
    by_cases h0:(feGo (setErr p s.set) 0 s.set).1=0
    ·rw [if_neg (by simpa using h0)]
     have:=hfe.1 h0
     cases kindOk p t s <;> simp_all
    ·rw [if_pos h0]
     constructor
     ·intro h; exact absurd h h0
     ·intro h; exact absurd (hfe.2 h.1) h0
   ·simp [hw]
 ·simp
theorem loopErr_iff {p:Prog} {t n:Int} {l:Loop}:loopErr p t n l=0<->(inR l.head n=true/\rising l.body=true/\l.body.all (fun k=>inR k n&&decide (k≠l.head))=true)/\l.variant.valid p.cells false=true/\overOk p l.variant true t=true:=by
 unfold loopErr
 cases inR l.head n <;> cases rising l.body <;> cases l.body.all (fun k=>inR k n&&decide (k≠l.head)) <;> cases l.variant.valid p.cells false <;> cases overOk p l.variant true t <;> simp
theorem threadErr_iff {p:Prog} {i:Nat} {x:Thread}:(threadErr p i x).1=0<->isLabel x.name=true/\(p.threads.take i).any (fun d=>d.name.toList==x.name.toList)=false/\(1<=x.points/\(x.asserts.length:Int)=x.points/\(x.modules.length:Int)=x.points) /\
 x.modules.all (fun m=>inR m p.modules.length)=true/\x.asserts.all (fun e=>truthOk p e false i)=true/\(∀ (j:Nat) (s:Step),x.steps[j]? = some s->stepErr p i x.points s=0)/\(∀ (j:Nat) (l:Loop),x.loops[j]? = some l->loopErr p i x.points l=0):=by
 unfold threadErr
 have hs:(feGo (fun _ s=>stepErr p i x.points s) 0 x.steps).1=0 <-> ∀ (j:Nat) (s:Step),x.steps[j]? = some s->stepErr p i x.points s=0:=by rw [fe_all]
 have hl:(feGo (fun _ l=>loopErr p i x.points l) 0 x.loops).1=0 <-> ∀ (j:Nat) (l:Loop),x.loops[j]? = some l->loopErr p i x.points l=0:=by rw [fe_all]
 rw [<- hs, <- hl]
 cases isLabel x.name
 ·simp
 ·cases (p.threads.take i).any (fun d=>d.name.toList==x.name.toList)
  ·by_cases h1:x.points<1 \/ ¬ (x.asserts.length:Int)=x.points \/ ¬ (x.modules.length:Int)=x.points
   ·simp only [Bool.not_true,Bool.false_eq_true,if_false,if_pos h1]
    constructor
    ·intro h; cases h
    ·rintro ⟨_,_,h,_⟩; omega
   ·have h1' : 1<=x.points/\(x.asserts.length:Int)=x.points/\(x.modules.length:Int)=x.points:=by omega
    simp only [Bool.not_true,Bool.false_eq_true,if_false,if_neg h1]
    cases x.modules.all (fun m=>inR m p.modules.length)
    ·simp
    ·cases x.asserts.all (fun e=>truthOk p e false i)
     ·simp
     ·by_cases h0:(feGo (fun _ s=>stepErr p i x.points s) 0 x.steps).1=0
      ·simp [h0,h1']
      ·simp [h0,h1']
  ·simp
theorem limits_iff {p:Prog}:(limitsM p).1=0<->(p.cells.length<=32/\p.modules.length<=6/\p.locks.length<=4/\p.threads.length<=4) /\ ∀ x∈p.threads,x.points<=48/\x.steps.length<=64/\x.loops.length<=8:=by
 unfold limitsM
 split
 ·rename_i h
  constructor
  ·intro h; cases h
  ·rintro ⟨h',_⟩; omega
 ·rename_i h
  rw [fe_all]
  constructor
  ·intro h2
   refine ⟨by omega,fun x hx => ?_⟩
   obtain ⟨j,hj,rfl⟩:=List.mem_iff_getElem.1 hx
   have:=h2 j _ (List.getElem?_eq_getElem hj)
   cases hb:threadBad p.threads[j]
   ·simp only [threadBad,Bool.or_eq_false_iff,decide_eq_false_iff_not] at hb
    omega
   ·simp [hb] at this
  ·rintro ⟨_,h2⟩ j x hx
   have:=h2 x (List.mem_of_getElem? hx)
   have hb:threadBad x=false:=by
    simp only [threadBad,Bool.or_eq_false_iff,decide_eq_false_iff_not]; omega
   simp [hb]
end Rg
end
section
set_option maxRecDepth 100000
namespace Rg
open Go
def lineT (ws:List (List UInt8)):List UInt8:=Go.Lib.join ws [32]++[10]
theorem join_len (ws:List (List UInt8)):(Go.Lib.join ws [32]).length<=(ws.map List.length).sum+ws.length:=by
 cases ws with
 | nil=>simp [Go.Lib.join_nil]
 | cons x r =>
  rw [Go.Lib.join_length]
  have:Go.Lib.lens (x::r)=((x::r).map List.length).sum:=rfl
  rw [this]
  simp only [List.length_cons,List.length_nil]
  omega
theorem lineT_len (ws:List (List UInt8)):(lineT ws).length<=(ws.map List.length).sum+ws.length+1:=by
 have:=join_len ws
 simp only [lineT,List.length_append,List.length_cons,List.length_nil]; omega
def rowsW (ws:List (List UInt8)):List (List V):=ws.map fun x=>[.t (.str (bs x))]
theorem rowsW_len (ws:List (List UInt8)):(rowsW ws).length=ws.length:=by simp [rowsW]
theorem rowsW_app (a b:List (List UInt8)):rowsW (a++b)=rowsW a++rowsW b:=by simp [rowsW]
theorem rowsW_all (ws:List (List UInt8)):((rowsW ws).all fun r=>decide (r.length=1))=true:=by simp [rowsW]
theorem rowsW_mapM (h:Nat->Option O) (d:Nat) (ws:List (List UInt8)):(rowsW ws).mapM (fun row=>row.mapM (toT h d))=some (ws.map fun x=>[.str (bs x)]):=by
 have e:rowsW ws=(ws.map fun x=>[T.str (bs x)]).map (·.map V.t):=by simp [rowsW]
 rw [e,rows_toT h d _ (by
  intro e he t ht
  obtain ⟨x,_,rfl⟩:=List.mem_map.1 he
  simp at ht; subst ht; rfl)]
theorem rowsW_take (ws:List (List UInt8)):List.take ws.length (rowsW ws)=rowsW ws:=List.take_of_length_le (by rw [rowsW_len]; exact Nat.le_refl _)
theorem strsOf_map (ws:List (List UInt8)):strsOf (ws.map fun x=>[T.str (bs x)])=some (ws.map bs):=by
 induction ws with
 | nil=>rfl
 | cons x r ih=>simp only [List.map_cons,strsOf,ih,Option.map_some]
theorem join_den (ws:List (List UInt8)) (h:(Go.Lib.join ws [32]).length<=140737488355328) (h2:ws.length<=140737488355328) :
 Den Γ G 259 [.t (.sl (ws.map fun x=>[.str (bs x)])), .t (.str (bs [32]))]=some (.t (.str (bs (Go.Lib.join ws [32])))):=by
 refine den_ext (e:=.joinS) Γ259 rfl rfl ?_
 have e:joinB (ws.map bs) (bs [32])=bs (Go.Lib.join ws [32]):=by
  unfold joinB
  rw [List.map_map]
  have:(fun x:ByteArray=>x.data.toList) ∘ bs=id:=by funext x; exact bs_list x
  rw [this,List.map_id]
  rfl
 show (strsOf _).bind _=_
 rw [strsOf_map]
 simp only [Option.bind_some,e]
 rw [if_pos ⟨by simpa using h2,by rw [bs_size]; exact h⟩]
theorem line_den {h:Nat->Option O} {n kb kw:Nat} {l:List UInt8} {ws:List (List UInt8)} {fz:Bool} (hk:h kw=some (.rows 1 (rowsW ws) fz)) (hb:Bld h kb l) (hn:Fresh h n)
 (hl:l.length+(ws.map List.length).sum+ws.length+1<=1099511627776) :
 ∃ r h' n',DenR Γ G 241 [.mp kb 0 0, .ms kw 0 ws.length] h n=some (r,h',n')/\(r = .tup []/\Bld h' kb (l++lineT ws)/\KeepR h h' /\ n<=n' /\ Fresh h' n'):=by
 have hj:=join_len ws
 have h1:=join_den ws (by omega) (by omega)
 have h2:=fun d=>rowsW_mapM h d ws
 (refine denR_ofY Γ241 rfl ?_; dsimp only [f241])
 simp -dsimp -implicitDefEqProofs only [go_sem,seval,hk,rowsW_len,Nat.le_refl,rowsW_take,h2,h1]
 refine rawK_of (bldS_den (s:=bs (Go.Lib.join ws [32])) hb (hn.mono (by first | omega | (simp only [addC_eq]; omega))) (by rw [bs_size]; omega)) ?_
 rintro r h3 n3 ⟨hb3,hk3,hn3,hf3⟩
 rw [bs_list] at hb3
 simp -dsimp -implicitDefEqProofs only [go_sem,seval]
 refine rawK_of (bldB_den (z:=10) hb3 (hf3.mono (by first | omega | (simp only [addC_eq]; omega) | exact addC_le _ _)) (by omega) (by rw [List.length_append]; omega)) ?_
 rintro r h4 n4 ⟨hb4,hk4,hn4,hf4⟩
 simp -dsimp -implicitDefEqProofs only [go_sem,seval]
 refine ⟨rfl, ?_,hk3.trans hk4,by (try simp only [addC_eq] at hn3); (try simp only [addC_eq] at hn4); omega,hf4⟩
 have e10:UInt8.ofNat (Int.toNat 10)=10:=rfl
 rw [e10] at hb4
 simpa only [lineT,List.append_assoc] using hb4
theorem flagT_den (b:Bool):Den Γ G 242 [vb b]=some (.t (.str (bs (if b then [49] else [48])))):=by
 (refine den_ofY Γ242 rfl ?_; dsimp only [f242])
 cases b <;> simp -dsimp -implicitDefEqProofs only [go_sem,seval]
theorem putA_appC {h:Nat->Option O} {q sz bytes k0 n0:Nat} {a b:List (List V)} {K:V->List (Nat×O)->Prop} {w:WK K}
 (hh:h k0=some (.rows sz a false)) (hn:n0=a.length) (hlen:a.length+b.length<=2^32) (hby:bytes<=2^12) (hb:(b.all fun r=>decide (r.length=sz))=true) (ha:(a.all fun r=>decide (r.length=sz))=true) (hne:b≠[])
 (hK : ∀ hp,hpC h hp=updC (updC h k0 (some .dead)) q (some (.rows sz (a++b) false))->K (.ms q 0 (a++b).length) hp) :
 putA false (appS h q sz bytes (.ms k0 0 n0) a b) K w:=by
 subst hn
 unfold appS
 rw [if_pos ⟨⟨hlen,hby⟩,hb,ha⟩]
 cases b with
 | nil=>exact absurd rfl hne
 | cons r b =>
  simp only [List.isEmpty_cons,Bool.false_eq_true,if_false,hh,and_self,if_true,putA_some,appRows_self]
  have:=hK [(k0, .dead),(q, .rows sz (a++r::b) false)] (by simp [hpC_cons,hpC_nil])
  simpa only [List.length_append] using this
def inI (z:Int):Prop := -9223372036854775808<=z/\z<=9223372036854775807
theorem with_den {h:Nat->Option O} {n kw:Nat} {ws:List (List UInt8)} {fl:List Int} (hk:h kw=some (.rows 1 (rowsW ws) false)) (hn:Fresh h n) (hi : ∀ z∈fl,inI z) (hl:ws.length+fl.length<2^30) :
 ∃ r h' n',DenR Γ G 244 [.ms kw 0 ws.length, .t (ints fl)] h n=some (r,h',n')/\(∃ k,r = .ms k 0 (ws++fl.map num).length/\h' k=some (.rows 1 (rowsW (ws++fl.map num)) false)/\(∀ j,j<n->j≠kw->h' j=h j)/\n<=n' /\ Fresh h' n'):=by
 (refine denR_ofY Γ244 rfl ?_; dsimp only [f244])
 simp -dsimp -implicitDefEqProofs only [go_sem,seval]
 have hkn:kw<n:=by
  rcases Nat.lt_or_ge kw n with h0 | h0
  ·exact h0
  ·have:=hn kw h0; rw [hk] at this; cases this
 refine loopYH 523841 fl.length (fun i f hh x=>(f 9).v=vi i/\(∃ k,(f 0).v = .ms k 0 (rowsW (ws++(fl.take i).map num)).length/\k<x/\hh k=some (.rows 1 (rowsW (ws++(fl.take i).map num)) false)/\(k=kw\/n<=k))/\(∀ j,j<n->j≠kw->hh j=h j)/\n<=x/\Fresh hh x) rfl ?_ ?_
 ·refine ⟨by simp -dsimp -implicitDefEqProofs only [go_sem,seval],⟨kw, ?_, ?_, ?_, .inl rfl⟩,fun _ _ _=>rfl, ?_, ?_⟩
  ·simp -dsimp -implicitDefEqProofs only [go_sem,seval,List.take_zero,List.map_nil,List.append_nil,rowsW_len]
  ·simp only [addC_eq]; omega
  ·simpa using hk
  ·simp only [addC_eq]; omega
  ·exact hn.mono (by simp only [addC_eq]; omega)
 rintro i f u hh x bq hi2 ⟨h9,⟨k,h0,hkx,hkk,hor⟩,hkeep,hnx,hfx⟩
 have hw:=wrapS i (by omega)
 simp -dsimp -implicitDefEqProofs only [go_sem,seval,h9]
 refine csplit (fun h => ?_) (fun h => ?_) <;> (try simp only [bools] at h) <;> (try simp -dsimp -implicitDefEqProofs only [go_sem,seval,h9, *])
 ·obtain ⟨z,hz,hzm⟩:=get_of ‹i<fl.length›
  have hi3:=itoa_den z (hi z hzm)
  have hx1:=take_succ_of hz
  have hll:(fl.take i).length<=fl.length:=by simp; omega
  simp -dsimp -implicitDefEqProofs only [go_sem,seval,h9,h0,hz,hi3,hkk,ne_add hkx,ne_add2 hkx,ne_add3 hkx,List.take_length,Nat.le_refl]
  have hne7:k≠x+1+3+3:=by omega
  have hup:updC hh (x+1+3+3) (some (O.rows 1 [[V.t (T.str (bs (num z)))]] false)) k=some (.rows 1 (rowsW (ws++(fl.take i).map num)) false):=by rw [updC_at,if_neg hne7]; exact hkk
  refine putA_appC hup rfl (by rw [rowsW_len,List.length_append,List.length_map]; simp; omega) (by decide) rfl (rowsW_all _) (by simp) ?_
  intro hp hph
  have he:rowsW (ws++(fl.take i).map num)++[[V.t (T.str (bs (num z)))]]=rowsW (ws++(fl.take (i+1)).map num):=by
   rw [hx1,List.map_append, <- List.append_assoc,rowsW_app (ws++_)]; rfl
  rw [he] at hph ⊢
  simp -dsimp -implicitDefEqProofs only [go_sem,seval,h9,hw]
  refine ⟨by omega,by simp -dsimp -implicitDefEqProofs only [go_sem,seval,hw],⟨x+1+3+4,by simp -dsimp -implicitDefEqProofs only [go_sem,seval], ?_,by simp -dsimp -implicitDefEqProofs only [go_sem,seval,hph],by omega⟩,fun j hj hjk => ?_, ?_,fun q hq => ?_⟩
  ·simp only [addC_eq,List.length_cons,List.length_nil]; omega
  ·simp -dsimp -implicitDefEqProofs only [go_sem,seval,hph]
   have hjk2:j≠k:=by rintro rfl; rcases hor with rfl | h0 <;> first | exact hjk rfl | omega
   rw [if_neg (by omega),if_neg hjk2,if_neg (by omega)]
   exact hkeep j hj hjk
  ·simp only [addC_eq]; omega
  ·simp -dsimp -implicitDefEqProofs only [go_sem,seval,hph]
   simp only [addC_eq,List.length_cons,List.length_nil] at hq
   rw [if_neg (by omega),if_neg (by omega),if_neg (by omega)]
   exact hfx q (by omega)
 ·have:i=fl.length:=by omega
  subst this
  rw [List.take_length] at h0 hkk
  refine ⟨k, ?_,hkk,hkeep,by simp only [addC_eq]; omega,hfx.mono (by simp only [addC_eq]; omega)⟩
  simp -dsimp -implicitDefEqProofs only [go_sem,seval,h0,rowsW_len]
  rw [List.take_length]
end Rg
end
section
set_option maxRecDepth 100000
namespace Rg
open Go
def flagT (b:Bool):List UInt8:=if b then [49] else [48]
abbrev byt (s:ByteArray):List UInt8:=s.data.toList
def relyT (e:Expr):List UInt8:=if e.absent then [110,111,110,101] else e.text
def cellW (c:Cell):List (List UInt8):=[[99,101,108,108],byt c.name,num c.w,num c.init,num c.thread,flagT c.ghost,num c.module]
def modW (m:Contract):List (List UInt8):=[[109,111,100,117,108,101],byt m.name,byt m.owner,relyT m.rely,m.guar.text]
def lockW (l:Lock):List (List UInt8):=[[108,111,99,107],num l.cell,l.inv.text,num l.module]
def headW (x:Thread):List (List UInt8):=[[116,104,114,101,97,100],byt x.name,flagT x.asleep]
def pointW (q:Int×Expr):List (List UInt8):=[[112,111,105,110,116],num q.1,q.2.text]
def setW (a:Assign):List (List UInt8):=[num a.cell,a.to.text]
def stepW (s:Step):List (List UInt8):=[[115,116,101,112],num s.kind,num s.fr,num s.to,s.guard.text,flagT s.release,num s.target,num s.module]
def loopW (l:Loop):List (List UInt8):=[[108,111,111,112],num l.head,l.variant.text]
def cellT (c:Cell):List UInt8:=lineT (cellW c)
def modT (m:Contract):List UInt8:=lineT (modW m++m.frame.map num)
def lockT (l:Lock):List UInt8:=lineT (lockW l)
def pointT (q:Int×Expr):List UInt8:=lineT (pointW q)
def stepT (s:Step):List UInt8:=lineT (stepW s++s.set.flatMap setW)
def loopX (l:Loop):List UInt8:=lineT (loopW l++l.body.map num)
def threadT (x:Thread):List UInt8:=lineT (headW x)++(x.modules.zip x.asserts).flatMap pointT++x.steps.flatMap stepT++x.loops.flatMap loopX
def textM (p:Prog):List UInt8:=p.cells.flatMap cellT++p.modules.flatMap modT++p.locks.flatMap lockT++p.threads.flatMap threadT
def textP (p:Prog):List UInt8:=if (validM p).1=0 then textM p else []
structure Prog.few (p:Prog):Prop where
 frame : ∀ m∈p.modules,m.frame.length<=60
 sets : ∀ x∈p.threads, ∀ s∈x.steps,s.set.length<=40
 body : ∀ x∈p.threads, ∀ l∈x.loops,l.body.length<=60
theorem flagT_len (b:Bool):(flagT b).length=1:=by cases b <;> rfl
theorem relyT_len (e:Expr):(relyT e).length<=36000:=by
 unfold relyT
 split
 ·simp
 ·exact text_len e
theorem label_len {b:ByteArray} (h:isLabel b=true):(byt b).length<=64:=by
 unfold isLabel at h
 simp only [Bool.and_eq_true,decide_eq_true_eq] at h
 have:(byt b).length=b.size:=by rw [Array.length_toList]; rfl
 omega
theorem sum_map_le (l:List (List UInt8)) (K:Nat) (h : ∀ x∈l,x.length<=K):(l.map List.length).sum<=l.length*K:=by
 induction l with
 | nil=>simp
 | cons a r ih =>
  have h1:=h a (by simp)
  have h2:=ih fun x hx=>h x (by simp [hx])
  simp only [List.map_cons,List.sum_cons,List.length_cons,Nat.add_mul]; omega
theorem flatMap_len {α:Type} (f:α->List UInt8) (l:List α) (K:Nat) (h : ∀ x∈l,(f x).length<=K):(l.flatMap f).length<=l.length*K:=by
 induction l with
 | nil=>simp
 | cons a r ih =>
  have h1:=h a (by simp)
  have h2:=ih fun x hx=>h x (by simp [hx])
  simp only [List.flatMap_cons,List.length_append,List.length_cons,Nat.add_mul]; omega
theorem flatMap_take {α:Type} (f:α->List UInt8) (l:List α) (i:Nat):((l.take i).flatMap f).length<=(l.flatMap f).length:=by
 conv=>rhs; rw [<- List.take_append_drop i l,List.flatMap_append,List.length_append]
 omega
theorem flatMap_succ {α β:Type} (f:α->List β) {l:List α} {i:Nat} {x:α} (h:l[i]? = some x):(l.take (i+1)).flatMap f=(l.take i).flatMap f++f x:=by
 rw [take_succ_of h,List.flatMap_append]; simp
theorem inR_inI {z n:Int} (h:inR z n=true) (hn:n<=1000):inI z:=by
 unfold inR at h
 simp only [decide_eq_true_eq] at h
 unfold inI; omega
structure Nums (p:Prog):Prop where
 cell : ∀ c∈p.cells,isLabel c.name=true/\inI c.w/\inI c.init/\inI c.thread/\inI c.module
 mods : ∀ m∈p.modules,isLabel m.name=true/\isLabel m.owner=true /\ ∀ z∈m.frame,inI z
 lock : ∀ l∈p.locks,inI l.cell/\inI l.module
 thr : ∀ x∈p.threads,isLabel x.name=true/\x.asserts.length<=48/\x.modules.length=x.asserts.length/\x.steps.length<=64/\x.loops.length<=8/\(∀ z∈x.modules,inI z) /\
  (∀ s∈x.steps,inI s.kind/\inI s.fr/\inI s.to/\inI s.target/\inI s.module /\ ∀ a∈s.set,inI a.cell) /\ ∀ l∈x.loops,inI l.head /\ ∀ z∈l.body,inI z
 lens:p.cells.length<=32/\p.modules.length<=6/\p.locks.length<=4/\p.threads.length<=4
theorem ofThread_rng {p:Prog} {t c:Int} (h:ofThread p t c=true):0<=c/\c<p.cells.length:=by
 unfold ofThread at h
 simp only [Bool.and_eq_true,decide_eq_true_eq] at h
 refine ⟨h.1, ?_⟩
 rcases hx:p.cells[c.toNat]? with _ | x
 ·rw [hx] at h; simp at h
 ·have:=(List.getElem?_eq_some_iff.1 hx).1
  omega
theorem kind_target {p:Prog} {t n:Int} {s:Step} (hb:stepBad p n s=false) (hk:kindOk p t s=true):s.target=0\/inR s.target p.threads.length=true:=by
 unfold stepBad at hb
 simp only [Bool.or_eq_false_iff,Bool.and_eq_false_iff,decide_eq_false_iff_not,Bool.not_eq_false',Bool.or_eq_true,decide_eq_true_eq,ne_eq,Decidable.not_not] at hb
 obtain ⟨⟨⟨⟨⟨⟨b1,b2⟩,b3⟩,b4⟩,b5⟩,b6⟩,b7⟩:=hb
 rcases b7 with h | h
 ·exact .inl h
 ·right
  unfold kindOk at hk
  rcases h with h | h
  ·rw [h] at hk
   simp [joinOk] at hk
   exact hk.1.2
  ·rw [h] at hk
   simp [joinOk] at hk
   exact hk.2
theorem nums_of {p:Prog} (h:p.ok):Nums p:=by
 obtain ⟨hl,hc,hm,hk,ht⟩:=ok_iff.1 h
 obtain ⟨⟨l1,l2,l3,l4⟩,l5⟩:=limits_iff.1 hl
 refine ⟨fun c hcm => ?_,fun m hmm => ?_,fun l hlm => ?_,fun x hxm => ?_,⟨l1,l2,l3,l4⟩⟩
 ·obtain ⟨i,hi,rfl⟩:=List.mem_iff_getElem.1 hcm
  obtain ⟨b1,b2,b3,b4,b5,b6,b7,b8⟩:=cellBad_parts (cellErr_iff.1 (hc i _ (List.getElem?_eq_getElem hi))).1
  have hp:(2:Int)^(p.cells[i]).w.toNat<=2^8:=pow2_le (by omega)
  have hp' : (2:Int)^8=256:=rfl
  refine ⟨b1, ?_, ?_, ?_,inR_inI b8 (by omega)⟩ <;> (unfold inI; omega)
 ·obtain ⟨i,hi,rfl⟩:=List.mem_iff_getElem.1 hmm
  obtain ⟨⟨b1,b2⟩,_,_,_,b5⟩:=modErr_iff.1 (hm i _ (List.getElem?_eq_getElem hi))
  refine ⟨b1,b2,fun z hz => ?_⟩
  have:=ofThread_rng (List.all_eq_true.1 b5 z hz)
  unfold inI; omega
 ·obtain ⟨i,hi,rfl⟩:=List.mem_iff_getElem.1 hlm
  obtain ⟨⟨b1,_,_,b4⟩,_⟩:=lockErr_iff.1 (hk i _ (List.getElem?_eq_getElem hi))
  have:=ofThread_rng b1
  exact ⟨by unfold inI; omega,inR_inI b4 (by omega)⟩
 ·have hx5:=l5 x hxm
  obtain ⟨i,hi,rfl⟩:=List.mem_iff_getElem.1 hxm
  obtain ⟨b1,_,b3,b4,_,b6,b7⟩:=threadErr_iff.1 (ht i _ (List.getElem?_eq_getElem hi))
  refine ⟨b1,by omega,by omega,by omega,by omega,fun z hz=>inR_inI (List.all_eq_true.1 b4 z hz) (by omega),fun s hs => ?_,fun l hl => ?_⟩
  ·obtain ⟨j,hj,rfl⟩:=List.mem_iff_getElem.1 hs
   obtain ⟨c1,_,c3,c4⟩:=stepErr_iff.1 (b6 j _ (List.getElem?_eq_getElem hj))
   have htg:=kind_target c1 c4
   unfold stepBad at c1
   simp only [Bool.or_eq_false_iff,Bool.and_eq_false_iff,decide_eq_false_iff_not,Bool.not_eq_false',Bool.or_eq_true,decide_eq_true_eq,ne_eq,Decidable.not_not] at c1
   obtain ⟨⟨⟨⟨⟨⟨d1,d2⟩,d3⟩,d4⟩,d5⟩,_⟩,_⟩:=c1
   refine ⟨by unfold inI; omega,inR_inI d3 (by omega),inR_inI d4 (by omega), ?_,inR_inI d5 (by omega),fun a ha => ?_⟩
   ·rcases htg with h | h
    ·rw [h]; unfold inI; omega
    ·exact inR_inI h (by omega)
   ·obtain ⟨q,hq,rfl⟩:=List.mem_iff_getElem.1 ha
    exact inR_inI (setErr_iff.1 (c3 q _ (List.getElem?_eq_getElem hq))).1.1 (by omega)
  ·obtain ⟨j,hj,rfl⟩:=List.mem_iff_getElem.1 hl
   obtain ⟨⟨c1,_,c3⟩,_⟩:=loopErr_iff.1 (b7 j _ (List.getElem?_eq_getElem hj))
   refine ⟨inR_inI c1 (by omega),fun z hz => ?_⟩
   have:=List.all_eq_true.1 c3 z hz
   simp only [Bool.and_eq_true] at this
   exact inR_inI this.1 (by omega)
end Rg
end
