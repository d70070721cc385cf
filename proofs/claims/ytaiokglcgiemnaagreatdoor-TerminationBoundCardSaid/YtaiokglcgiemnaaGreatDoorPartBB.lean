/- Part of the proof of the laws of the package relyguardlaw36: an abstract machine for the program's functions, what they compute, and that the machine is the program's. No condition. (H10e H10f H10g H10h H14a H61a H11a) -/
import Derived.Test.YtaiokglcgiemnaaGreatDoorPartBA
set_option linter.unusedSimpArgs false
set_option linter.unusedVariables false
section
namespace Rg
open Go
theorem overOwn (p:Prog) (t:Int) (e:Expr):Den Γ G 108 [(.agg [.t (ti (e).op),.t (ti (e).w),.t (ti (e).n),.t (.sl ((e).kids.map (Expr.enc)))]),.t (.fn 146 [] [progT p,.ip [ti t]])]=some (vb (overOk p e false t)):=by
 rw[overP_den e _ _ (ownF p t),overOk,mayP_own]
theorem assign_all (r:List Assign):((r.map Assign.enc).all fun x=>decide (x.length=5))=true:=by
 simp[Assign.enc,Expr.enc_eq]
theorem pred_nat (n:Nat):(((n+1:Nat):Int)-1).toNat=n:=by omega
theorem take_map {α β:Type} (f:α->β) (r:List α):List.take r.length (r.map f)=r.map f:=List.take_of_length_le (by simp)
theorem fitsLoad_den (p:Prog) (t:Int) (s:Step) (hl:s.set.length<2^48) (hr:RangeOk p s):Den Γ G 148 [(.agg [.t (.sl ((p).cells.map (Cell.enc))),.t (.sl ((p).modules.map (Contract.enc))),.t (.sl ((p).locks.map (Lock.enc))),.t (.sl ((p).threads.map (Thread.enc)))]),vi t,(.agg [.t (ti (s).kind),.t (ti (s).fr),.t (ti (s).to),.t (ti ((s).guard).op),.t (ti ((s).guard).w),.t (ti ((s).guard).n),.t (.sl (((s).guard).kids.map Expr.enc)),.t (.sl ((s).set.map Assign.enc)),.t (tb (s).release),.t (ti (s).target),.t (ti (s).module)])]=some (vb (loadOk p t s)):=by
 (refine den_ofY Γ148 rfl ?_;dsimp only[f148])
 have h1:=own_den p t
 have hg:=overOwn p t s.guard
 rcases hs:s.set with _ | ⟨a,r⟩
 ·simp -dsimp -implicitDefEqProofs only[go_sem,seval,h1,hs]
  simp[loadOk,hs]
 ·have hne: ¬(((r.length+1:Nat):Int)=0):=by omega
  have hle:(1:Int)<=((r.length+1:Nat):Int):=by omega
  have hK:loadOk p t s=(overOk p s.guard false t&&ofThread p t a.cell&& !cellIs p a.cell Cell.ghost&&decide (a.to.op=2)&&ofThread p (-1) a.to.n&& !cellIs p a.to.n Cell.ghost&&
   r.all fun b=>ofThread p t b.cell&&cellIs p b.cell Cell.ghost&&overOk p b.to false t):=by rw[loadOk,hs]
  have ham:a∈s.set:=by rw[hs];simp
  obtain⟨d0,x,hx⟩:=cell_in (hr.2 a ham).1
  have ho:=ownP_den p t a.cell
  have hgh:=ghost_den p a.cell x d0 hx
  have o2:=cellIs_at (g:=Cell.ghost) hx
  have hsh:=sharedP_den p a.to.n
  simp -dsimp -implicitDefEqProofs only[go_sem,seval,h1,hs,hne,hg]
  refine csplit (fun h=> ?_) (fun h=> ?_)<;>(try rw[h])<;>(try simp only[bools]at h)<;>(try simp -dsimp -implicitDefEqProofs only[go_sem,seval,hs,ho,progT])
  ·rw[hK,h];simp
  ·have e0:overOk p s.guard false t=true:=by assumption
   refine csplit (fun h=> ?_) (fun h=> ?_)<;>(try rw[h])<;>(try simp only[bools]at h)<;>(try simp -dsimp -implicitDefEqProofs only[go_sem,seval,hgh,hs])
   ·rw[hK,h];simp
   ·have e1:ofThread p t a.cell=true:=by assumption
    refine csplit (fun h=> ?_) (fun h=> ?_)<;>(try rw[h])<;>(try simp only[bools]at h)<;>(try simp -dsimp -implicitDefEqProofs only[go_sem,seval,hs])
    ·rw[hK,o2,h];simp
    ·have e2:x.ghost=false:=by assumption
     refine csplit (fun h=> ?_) (fun h=> ?_)<;>(try rw[h])<;>(try simp only[bools]at h)<;>(try simp -dsimp -implicitDefEqProofs only[go_sem,seval,hsh])
     ·rw[hK];simp[h]
     ·have e3:a.to.op=2:=by assumption
      obtain⟨d1,y,hy⟩:=cell_in (valid_cell (hr.2 a ham).2 e3)
      have hgh2:=ghost_den p a.to.n y d1 hy
      have q2:=cellIs_at (g:=Cell.ghost) hy
      refine csplit (fun h=> ?_) (fun h=> ?_)<;>(try rw[h])<;>(try simp only[bools]at h)<;>(try simp -dsimp -implicitDefEqProofs only[go_sem,seval,hgh2])
      ·rw[hK,h];simp
      ·have e4:ofThread p (-1) a.to.n=true:=by assumption
       refine csplit (fun h=> ?_) (fun h=> ?_)<;>(try rw[h])<;>(try simp only[bools]at h)<;>(try simp -dsimp -implicitDefEqProofs only[go_sem,seval,hs,hle])
       ·rw[hK,q2,h];simp
       ·rw[o2,q2,e0,e1,e2,e4,h]at hK
        simp only[e3,decide_true,Bool.not_false,Bool.and_true,Bool.true_and]at hK
        have t1:=assign_all r
        have t2:=pred_nat r.length
        have t3:=take_map Assign.enc r
        simp -dsimp -implicitDefEqProofs only[go_sem,seval,t1,t2,t3,Int.le_refl]
        refine loopY 2475879930996807960121837632 r.length (fun j f'=>(f' 67).v=vi j/\loadOk p t s=(r.drop j).all fun b=>ofThread p t b.cell&&cellIs p b.cell Cell.ghost&&overOk p b.to false t) rfl rfl ⟨by simp -dsimp -implicitDefEqProofs only[go_sem,seval],hK⟩ ?_
        rintro j f' u' kk' bb' hj ⟨h67,hall⟩
        have hw':=wrapS j (by rw[hs]at hl;simp at hl;omega)
        simp -dsimp -implicitDefEqProofs only[go_sem,seval,h67]
        refine csplit (fun h=> ?_) (fun h=> ?_)<;>(try rw[h])<;>(try simp only[bools]at h)<;>(try simp -dsimp -implicitDefEqProofs only[go_sem,seval,h67])
        ·obtain⟨b,hb,hbr⟩:=get_of ‹j<r.length›
         obtain⟨d2,z,hz⟩:=cell_in (hr.2 b (by rw[hs];simp[hbr])).1
         have hob:=ownP_den p t b.cell
         have hgz:=ghost_den p b.cell z d2 hz
         have z2:=cellIs_at (g:=Cell.ghost) hz
         have hov:=overOwn p t b.to
         simp only[progT]at hov
         simp -dsimp -implicitDefEqProofs only[go_sem,seval,h67,hb,hob,progT]
         repeat'(refine csplit (fun h=> ?_) (fun h=> ?_)<;>(try rw[h])<;>(try simp only[bools]at h)<;>(try simp -dsimp -implicitDefEqProofs only[go_sem,seval,h67,hgz,hov,progT]))
         all_goals first
          | (rw[hall,all_stop hb (by rw[z2];simp[*])];done)
          | (refine⟨by omega,by simp -dsimp -implicitDefEqProofs only[go_sem,seval,hw'],?_⟩
             rw[hall,all_step hb (by rw[z2];simp[*])])
        ·have:j=r.length:=by omega
         subst this
         rw[hall,all_end]
theorem store1 (p:Prog) (t:Int):IsFo (.fn 164 [] [progT p,.ip [.fn 134 [] [progT p,.ip [.fn 146 [] [progT p,.ip [ti t]]]]]]) (fun c=>cellIs p c Cell.ghost&&sees p t c) (fun c=>inR c p.cells.length=true):=by
 have hb:IsP 134 [progT p,.ip [.fn 146 [] [progT p,.ip [ti t]]]] (sees p t):=visibleIs p t
 have hn: ∀x∈[progT p,.ip [.fn 134 [] [progT p,.ip [.fn 146 [] [progT p,.ip [ti t]]]]]],T.norm x=x:=by simp[progT,T.norm]
 refine⟨rfl,164,[],[progT p,.ip [.fn 134 [] [progT p,.ip [.fn 146 [] [progT p,.ip [ti t]]]]]].map V.t,rfl,fun hh n=> ?_,fun n=> ?_,fun n hin=> ?_⟩
 ·exact toT1_trees hh (ti n::[progT p,.ip [.fn 134 [] [progT p,.ip [.fn 146 [] [progT p,.ip [ti t]]]]]]) (fun x hx=>(List.mem_cons.1 hx).elim (fun e=>by rw[e];rfl) (hn x))
 ·exact trees_all (ti n::[progT p,.ip [.fn 134 [] [progT p,.ip [.fn 146 [] [progT p,.ip [ti t]]]]]])
 ·obtain⟨d0,x,hx⟩:=cell_in hin
  have hgh:=ghost_den p n x d0 hx
  have o2:=cellIs_at (g:=Cell.ghost) hx
  have hd:=hb.2 n
  simp only[List.map_cons,List.map_nil,progT,List.nil_append,List.cons_append]at hd⊢
  (refine den_ofY Γ164 rfl ?_;dsimp only[f164])
  simp -dsimp -implicitDefEqProofs only[go_sem,seval,hgh]
  refine csplit (fun h=> ?_) (fun h=> ?_)<;>(try rw[h])<;>(try simp only[bools]at h)<;>(try simp -dsimp -implicitDefEqProofs only[go_sem,seval,hd])
  ·rw[o2,h];simp
  ·rw[o2,h];simp
theorem fitsStore_den (p:Prog) (t:Int) (s:Step) (hl:s.set.length<2^48) (hr:RangeOk p s):Den Γ G 149 [(.agg [.t (.sl ((p).cells.map (Cell.enc))),.t (.sl ((p).modules.map (Contract.enc))),.t (.sl ((p).locks.map (Lock.enc))),.t (.sl ((p).threads.map (Thread.enc)))]),vi t,(.agg [.t (ti (s).kind),.t (ti (s).fr),.t (ti (s).to),.t (ti ((s).guard).op),.t (ti ((s).guard).w),.t (ti ((s).guard).n),.t (.sl (((s).guard).kids.map Expr.enc)),.t (.sl ((s).set.map Assign.enc)),.t (tb (s).release),.t (ti (s).target),.t (ti (s).module)])]=some (vb (storeOk p t s)):=by
 (refine den_ofY Γ149 rfl ?_;dsimp only[f149])
 have h1:=own_den p t
 have hv:Den Γ G 161 [(.agg [.t (ti (s).kind),.t (ti (s).fr),.t (ti (s).to),.t (ti ((s).guard).op),.t (ti ((s).guard).w),.t (ti ((s).guard).n),.t (.sl (((s).guard).kids.map Expr.enc)),.t (.sl ((s).set.map Assign.enc)),.t (tb (s).release),.t (ti (s).target),.t (ti (s).module)]),.t (.fn 146 [] [progT p,.ip [ti t]])]=some (vb (valuesOk p s false t)):=by
  rw[valuesP_den s _ _ (ownF p t) hl];simp only[valuesOk,overOk,mayP_own]
 by_cases he:s.set=[]
 ·simp -dsimp -implicitDefEqProofs only[go_sem,seval,h1,he]
  simp[storeOk,he]
 ·obtain⟨a,r,hs⟩: ∃a r,s.set=a::r:=by
   rcases h:s.set with _ | ⟨a,r⟩
   ·exact absurd h he
   ·exact⟨a,r,rfl⟩
  have hsl:s.set.length=r.length+1:=by rw[hs];rfl
  have h0:s.set[0]? =some a:=by rw[hs];rfl
  have hd1:List.drop 1 (s.set.map Assign.enc)=r.map Assign.enc:=by rw[hs];rfl
  have hne: ¬(((r.length+1:Nat):Int)=0):=by omega
  have hle:(1:Int)<=((r.length+1:Nat):Int):=by omega
  have hK:storeOk p t s=(valuesOk p s false t&&ofThread p (-1) a.cell&& !cellIs p a.cell Cell.ghost&&r.all fun b=>cellIs p b.cell Cell.ghost&&sees p t b.cell):=by rw[storeOk,hs]
  have ham:a∈s.set:=by rw[hs];simp
  obtain⟨d0,x,hx⟩:=cell_in (hr.2 a ham).1
  have hgh:=ghost_den p a.cell x d0 hx
  have o2:=cellIs_at (g:=Cell.ghost) hx
  have hsh:=sharedP_den p a.cell
  have hvis:=visible_den p t
  have hta:=targets_den r _ _ _ (store1 p t) (fun b hb=>(hr.2 b (by rw[hs];simp[hb])).1) (by omega)
  have t1:=assign_all s.set
  have t2:=pred_nat r.length
  have t3:=take_map Assign.enc r
  simp -dsimp -implicitDefEqProofs only[go_sem,seval,h1,hsl,hne,hv,h0]
  refine csplit (fun h=> ?_) (fun h=> ?_)<;>(try rw[h])<;>(try simp only[bools]at h)<;>(try simp -dsimp -implicitDefEqProofs only[go_sem,seval,h0,hsh])
  ·rw[hK,h];simp
  ·have e0:valuesOk p s false t=true:=by assumption
   refine csplit (fun h=> ?_) (fun h=> ?_)<;>(try rw[h])<;>(try simp only[bools]at h)<;>(try simp -dsimp -implicitDefEqProofs only[go_sem,seval,hgh])
   ·rw[hK,h];simp
   ·have e1:ofThread p (-1) a.cell=true:=by assumption
    refine csplit (fun h=> ?_) (fun h=> ?_)<;>(try rw[h])<;>(try simp only[bools]at h)<;>(try simp -dsimp -implicitDefEqProofs only[go_sem,seval,hvis,hsl,hd1,t1,t2,t3,hle,Int.le_refl,hta])
    ·rw[hK,o2,h];simp
    ·rw[o2,e0,e1,h]at hK
     simp only[Bool.not_false,Bool.and_true,Bool.true_and]at hK
     rw[hK]
     have hpt:T.ip [.sl (p.cells.map Cell.enc),.sl (p.modules.map Contract.enc),.sl (p.locks.map Lock.enc),.sl (p.threads.map Thread.enc)]=progT p:=rfl
     simp -dsimp -implicitDefEqProofs only[go_sem,seval,hpt,hta]
end Rg
end
section
namespace Rg
open Go
theorem kinds_den:Den Γ G 135 []=some (.agg [.t .nilf,.t (.fn 147 [] []),.t (.fn 148 [] []),.t (.fn 149 [] []),.t (.fn 150 [] []),.t (.fn 151 [] []),.t (.fn 152 [] []),.t (.fn 153 [] [])]):=by
 (refine den_ofY Γ135 rfl ?_;dsimp only[f135])
 simp -dsimp -implicitDefEqProofs only[go_sem,seval]
set_option maxHeartbeats 4000000 in
theorem stepP_den (p:Prog) (t:Int) (x:Thread) (hxp: -2^48<x.points/\x.points<2^48) (s:Step) (hlen:s.set.length<2^48):
 Den Γ G 105 [(.agg [.t (.sl ((p).cells.map (Cell.enc))),.t (.sl ((p).modules.map (Contract.enc))),.t (.sl ((p).locks.map (Lock.enc))),.t (.sl ((p).threads.map (Thread.enc)))]),vi t,(.agg [.t (.str (x).name),.t (ti (x).points),.t (.sl ((x).asserts.map Expr.enc)),.t (ints (x).modules),.t (.sl ((x).steps.map Step.enc)),.t (.sl ((x).loops.map Loop.enc)),.t (tb (x).asleep)]),(.agg [.t (ti (s).kind),.t (ti (s).fr),.t (ti (s).to),.t (ti ((s).guard).op),.t (ti ((s).guard).w),.t (ti ((s).guard).n),.t (.sl (((s).guard).kids.map Expr.enc)),.t (.sl ((s).set.map Assign.enc)),.t (tb (s).release),.t (ti (s).target),.t (ti (s).module)])]=some (vi (stepErr p t x.points s)):=by
 (refine den_ofY Γ105 rfl ?_;dsimp only[f105])
 have hw1:IntKind.i64.wrap (x.points-1)=x.points-1:=wrap64 (by omega)
 have hi1:=below_den s.fr (x.points-1)
 have hi2:=below_den s.to x.points
 have hi3:=below_den s.module p.modules.length
 have hv:=validP_den s.guard p.cells false
 simp -dsimp -implicitDefEqProofs only[go_sem,seval]
 by_cases hbad:stepBad p x.points s=true
 ·rw[stepErr,if_pos hbad]
  repeat'(refine csplit (fun h=> ?_) (fun h=> ?_)<;>(try rw[h])<;>(try simp only[bools]at h)<;>(try simp -dsimp -implicitDefEqProofs only[go_sem,seval,hw1,hi1,hi2,hi3]))
  all_goals(exfalso;simp only[stepBad,Bool.or_eq_true,Bool.and_eq_true,Bool.not_eq_true',decide_eq_true_eq]at hbad;simp_all;try omega)
 ·have hse:stepErr p t x.points s=if !s.guard.valid p.cells false||decide (s.guard.w≠1)then 60 else if ¬(feGo (setErr p s.set) 0 s.set).1=0 then(feGo (setErr p s.set) 0 s.set).1 else if kindOk p t s then 0 else 70:=by rw[stepErr,if_neg hbad]
  have hb':stepBad p x.points s=false:=by simpa using hbad
  simp only[stepBad,Bool.or_eq_false_iff,Bool.and_eq_false_iff,Bool.not_eq_false',decide_eq_false_iff_not]at hb'
  obtain⟨⟨⟨⟨⟨⟨b1,b2⟩,b3⟩,b4⟩,b5⟩,b6⟩,b7⟩:=hb'
  rw[b3]at hi1
  rw[b4]at hi2
  rw[b5]at hi3
  have hcs: ∀Q:Prop,(∀(c3 c6 c7 r tz:Bool),decide (s.kind=6)=c6->decide (s.kind=7)=c7->decide (s.kind=3)=c3->s.release=r->decide (s.target=0)=tz->
   ((c6=true/\r=false)\/(c6=false/\c7=true/\r=false)\/(c6=false/\c7=false/\tz=true/\r=false)\/(c6=false/\c7=false/\tz=true/\r=true/\c3=true))->Q)->Q:=fun Q q=>by
   refine q _ _ _ _ _ rfl rfl rfl rfl rfl ?_
   simp only[decide_eq_true_eq,decide_eq_false_iff_not]
   by_cases h6:s.kind=6<;>by_cases h7:s.kind=7<;>by_cases h3:s.kind=3<;>cases hr:s.release<;>by_cases hz:s.target=0<;>simp_all
  refine hcs _ (fun c3 c6 c7 r tz e6 e7 e3 er ez hc=> ?_)
  have hmid:s.guard.valid p.cells false=true->s.guard.w=1->stepErr p t x.points s=if ¬(feGo (setErr p s.set) 0 s.set).1=0 then(feGo (setErr p s.set) 0 s.set).1 else if kindOk p t s then 0 else 70:=fun g1 g2=>by rw[hse,if_neg (by simp[g1,g2])]
  have hg60:(s.guard.valid p.cells false=false\/ ¬s.guard.w=1)->stepErr p t x.points s=60:=fun g=>by rw[hse,if_pos (by rcases g with g | g<;>simp[g])]
  have b1':1<=s.kind/\s.kind<=7:=by omega
  have e3':(decide ¬s.kind=3)= !c3:=by rw[<- e3];simp
  have ez':(decide ¬s.target=0)= !tz:=by rw[<- ez];simp
  rcases hc with⟨rfl,rfl⟩ | ⟨rfl,rfl,rfl⟩ | ⟨rfl,rfl,rfl,rfl⟩ | ⟨rfl,rfl,rfl,rfl,rfl⟩
  all_goals(try cases tz)
  all_goals(try cases c3)
  all_goals(try(exfalso;simp only[decide_eq_true_eq]at e3 e6 e7;omega))
  all_goals(
   (try simp only[Bool.not_true,Bool.not_false]at e3' ez')
   simp -dsimp -implicitDefEqProofs only[go_sem,seval,hw1,hi1,hi2,hi3,b1,b2,e6,e7,e3',ez',er,hv]
   repeat'(refine csplit (fun h=> ?_) (fun h=> ?_)<;>(try rw[h])<;>(try simp only[bools]at h)<;>(try simp -dsimp -implicitDefEqProofs only[go_sem,seval,hv])))
  all_goals(try(rw[hg60 (.inl ‹_›)];done))
  all_goals(try(rw[hg60 (.inr ‹_›)];done))
  all_goals(
   have hgv:s.guard.valid p.cells false=true:=by assumption
   have hgw:s.guard.w=1:=by assumption
   have hmid:=hmid hgv hgw
   clear hcs hg60 hse hv hi1 hi2 hi3 e3' ez' er e3 e6
   refine loopYH 2722258935367498036300439942420748071168 s.set.length (fun i f h y=>(f 83).v=vi i/\h 74=some (.map (setI ((s.set.take i).map Assign.cell)))/\feGo (setErr p s.set) 0 s.set=feGo (setErr p s.set) i (s.set.drop i)) rfl ⟨by simp -dsimp -implicitDefEqProofs only[go_sem,seval],by simp -dsimp -implicitDefEqProofs only[go_sem,seval];rfl,rfl⟩ ?_
   rintro i f u hh y bs hi ⟨h83,hmap,hm⟩
   have hw:=wrapS i (by omega)
   simp -dsimp -implicitDefEqProofs only[go_sem,seval,h83]
   refine csplit (fun h=> ?_) (fun h=> ?_)<;>(try rw[h])<;>(try simp only[bools]at h)<;>(try simp -dsimp -implicitDefEqProofs only[go_sem,seval,h83])
   ·obtain⟨a,ha,ham⟩:=get_of ‹i<s.set.length›
    have hi1:=below_den a.cell p.cells.length
    have hstop: ∀k:Int,k≠0->setErr p s.set i a=k->stepErr p t x.points s=k:=fun k hk h0=>by
     have h2:=hm.trans (fe_stop ha (by rw[h0];exact hk))
     rw[hmid,h2,h0,if_pos hk]
    have hany:((s.set.take i).map Assign.cell).any (fun d=>decide (d=a.cell))=(s.set.take i).any (fun d=>decide (d.cell=a.cell)):=by rw[List.any_map];rfl
    have hfi:=findI a.cell ((s.set.take i).map Assign.cell)
    rw[hany]at hfi
    cases hc:(s.set.take i).any (fun d=>decide (d.cell=a.cell))
    ·rw[hc]at hfi hany
     have hpu:=putI a.cell _ hany
     simp -dsimp -implicitDefEqProofs only[go_sem,seval,h83,ha,hmap,hfi,Option.getD_none,Option.getD_some,Option.isSome_none,Bool.false_eq_true,if_true,if_false,hi1]
     cases hir:inR a.cell p.cells.length
     ·simp -dsimp -implicitDefEqProofs only[go_sem,seval,h83]
      rw[hstop 70 (by decide) (by simp[setErr,hir])]
     ·obtain⟨d0,z,hz⟩:=cell_in hir
      have hv2:=validP_den a.to p.cells false
      have hci:=cellIs_at (g:=fun x=>decide (a.to.w=x.w)) hz
      have hsx:setErr p s.set i a=if !a.to.valid p.cells false || !cellIs p a.cell (fun x=>decide (a.to.w=x.w))then 60 else 0:=by
       rw[setErr,if_neg (by rw[hir,hc];simp)]
      rw[hci]at hsx
      simp -dsimp -implicitDefEqProofs only[go_sem,seval,h83,hmap,hpu,d0,hz]
      refine csplit (fun h=> ?_) (fun h=> ?_)<;>(try rw[h])<;>(try simp only[bools]at h)<;>(try simp -dsimp -implicitDefEqProofs only[go_sem,seval,h83,hv2])
      ·rw[hstop 60 (by decide) (by rw[hsx];simp[h])]
      ·have hvt:a.to.w=z.w:=by assumption
       refine csplit (fun h=> ?_) (fun h=> ?_)<;>(try rw[h])<;>(try simp only[bools]at h)<;>(try simp -dsimp -implicitDefEqProofs only[go_sem,seval,h83])
       ·rw[hstop 60 (by decide) (by rw[hsx];simp[h])]
       ·refine⟨by omega,by simp -dsimp -implicitDefEqProofs only[go_sem,seval,hw],?_,?_⟩
        ·simp -dsimp -implicitDefEqProofs only[go_sem,seval]
         rw[take_succ_of ha];simp
        ·rw[hm,fe_step ha (by rw[hsx];simp[h,hvt])]
    ·rw[hc]at hfi
     simp -dsimp -implicitDefEqProofs only[go_sem,seval,h83,ha,hmap,hfi,Option.getD_none,Option.getD_some,Option.isSome_none,Bool.false_eq_true,if_true,if_false]
     rw[hstop 70 (by decide) (by rw[setErr,if_pos (by rw[hc];simp)])]
   ·have:i=s.set.length:=by omega
    subst this
    rw[fe_end]at hm
    rw[hm,if_neg (by simp)]at hmid
    have hr:RangeOk p s:=⟨hgv,setErr_range (i:=0) (set:=s.set) (by rw[hm])⟩
    have hkk:=kinds_den
    have f1:=fitsLocal_den p t s hlen
    have f2:=fitsLoad_den p t s hlen hr
    have f3:=fitsStore_den p t s hlen hr
    have f4:=fitsAtomic_den p t s hlen
    have f5:=fitsFence_den p t s
    have f6:=fitsSpawn_den p t s
    have f7:=fitsJoin_den p t s
    have hks:s.kind=1\/s.kind=2\/s.kind=3\/s.kind=4\/s.kind=5\/s.kind=6\/s.kind=7:=by omega
    rw[hmid]
    clear hmid hm hmap
    rcases hks with k | k | k | k | k | k | k
    all_goals(try(exfalso;simp only[decide_eq_false_iff_not]at e7;omega))
    all_goals(
     simp only[k]at f1 f2 f3 f4 f5 f6 f7
     simp -dsimp -implicitDefEqProofs only[go_sem,seval,hkk,k,f1,f2,f3,f4,f5,f6,f7]
     refine csplit (fun h=> ?_) (fun h=> ?_)<;>(try rw[h])<;>(try simp only[bools]at h)<;>(try simp -dsimp -implicitDefEqProofs only[go_sem,seval])
     all_goals(simp[kindOk,k,h])))
end Rg
end
section
namespace Rg
open Go
theorem thread1Is (p:Prog):IsF (.fn 103 [] [progT p]) (fun m=>inR m p.modules.length):=by
 refine IsP.isF ⟨by simp[progT,T.norm],fun n=> ?_⟩
 simp only[List.map_cons,List.map_nil,progT]
 (refine den_ofY Γ103 rfl ?_;dsimp only[f103])
 have h1:=below_den n p.modules.length
 simp -dsimp -implicitDefEqProofs only[go_sem,seval,h1]
def thrT (x:Thread):T:=.ip [.str x.name,ti x.points,.sl (x.asserts.map Expr.enc),ints x.modules,.sl (x.steps.map Step.enc),.sl (x.loops.map Loop.enc),tb x.asleep]
def loopT (l:Loop):T:=.ip [ti l.head,ints l.body,ti l.variant.op,ti l.variant.w,ti l.variant.n,.sl (l.variant.kids.map Expr.enc)]
theorem thread2Is (x:Thread) (l:Loop):IsF (.fn 106 [] [thrT x,loopT l]) (fun q=>inR q x.points&&decide (q≠l.head)):=by
 refine IsP.isF ⟨by simp[thrT,loopT,T.norm],fun n=> ?_⟩
 simp only[List.map_cons,List.map_nil,thrT,loopT]
 (refine den_ofY Γ106 rfl ?_;dsimp only[f106])
 have h1:=below_den n x.points
 simp -dsimp -implicitDefEqProofs only[go_sem,seval,h1]
 repeat'(refine csplit (fun h=> ?_) (fun h=> ?_)<;>(try rw[h])<;>(try simp only[bools]at h)<;>(try simp -dsimp -implicitDefEqProofs only[go_sem,seval]))
 all_goals(simp[*])
theorem bitSees (p:Prog) (t:Int) (e:Expr) (pair:Bool):Den Γ G 99 [(.agg [.t (.sl ((p).cells.map (Cell.enc))),.t (.sl ((p).modules.map (Contract.enc))),.t (.sl ((p).locks.map (Lock.enc))),.t (.sl ((p).threads.map (Thread.enc)))]),(.agg [.t (ti (e).op),.t (ti (e).w),.t (ti (e).n),.t (.sl ((e).kids.map (Expr.enc)))]),vb pair,.t (.fn 134 [] [progT p,.ip [.fn 146 [] [progT p,.ip [ti t]]]])]=some (vb (truthOk p e pair t)):=by
 rw[bitP_den p e pair _ _ (seesF p t),truthOk,overOk,mayP_sees]
theorem overSees (p:Prog) (t:Int) (e:Expr):Den Γ G 108 [(.agg [.t (ti (e).op),.t (ti (e).w),.t (ti (e).n),.t (.sl ((e).kids.map (Expr.enc)))]),.t (.fn 134 [] [progT p,.ip [.fn 146 [] [progT p,.ip [ti t]]]])]=some (vb (overOk p e true t)):=by
 rw[overP_den e _ _ (seesF p t),overOk,mayP_sees]
def HT (p:Prog) (x:Thread) (n k:Nat) (es:List (T×V)) (h:Nat->Option O) (y:Nat):Prop:=
 h (n+0)=some (.rows 4 [[.t (.sl (p.cells.map Cell.enc)),.t (.sl (p.modules.map Contract.enc)),.t (.sl (p.locks.map Lock.enc)),.t (.sl (p.threads.map Thread.enc))]] false)/\
 h (n+1)=some (.rows 7 [[.t (.str x.name),.t (ti x.points),.t (.sl (x.asserts.map Expr.enc)),.t (ints x.modules),.t (.sl (x.steps.map Step.enc)),.t (.sl (x.loops.map Loop.enc)),.t (tb x.asleep)]] false)/\
 h k=some (.map es)/\n+2<=y
set_option maxHeartbeats 4000000 in
theorem threadP_den (p:Prog) (hs:p.sane) (i:Nat) (x:Thread) (hx:p.threads[i]? =some x) (hxp:x.points<2^48) (H:Nat->Option O) (n k:Nat) (hkn:k<n) (hmap:H k=some (.map (setS ((p.threads.take i).map Thread.name)))):
 ∃r h' n',DenR Γ G 83 [(.agg [.t (.sl ((p).cells.map (Cell.enc))),.t (.sl ((p).modules.map (Contract.enc))),.t (.sl ((p).locks.map (Lock.enc))),.t (.sl ((p).threads.map (Thread.enc)))]),vi i,(.agg [.t (.str (x).name),.t (ti (x).points),.t (.sl ((x).asserts.map Expr.enc)),.t (ints (x).modules),.t (.sl ((x).steps.map Step.enc)),.t (.sl ((x).loops.map Loop.enc)),.t (tb (x).asleep)]),.mm k] H n=some (r,h',n')/\(n<=n'/\r= .tup [vi (threadErr p i x).1,vi (threadErr p i x).2])/\((threadErr p i x).1=0->h' k=some (.map (setS ((p.threads.take (i+1)).map Thread.name)))):=by
 have hxm:=List.mem_of_getElem? hx
 obtain⟨s1,s2,s3,s4,s5⟩:=hs.thr x hxm
 have hl:=labelP_den x.name
 have hne0: ¬k=n:=by omega
 have hne1:=ne_add hkn
 have hne2:=ne_add2 hkn
 have hraw:=fun H' n' hH'=>taken_full k x.name ((p.threads.take i).map Thread.name) H' n' hH'
 have hany:((p.threads.take i).map Thread.name).any (fun d=>d.toList==x.name.toList)=(p.threads.take i).any (fun d=>d.name.toList==x.name.toList):=by rw[List.any_map];rfl
 (refine denR_ofY Γ83 rfl ?_;dsimp only[f83])
 simp -dsimp -implicitDefEqProofs only[go_sem,seval,hl]
 refine csplit (fun h=> ?_) (fun h=> ?_)<;>(try rw[h])<;>(try simp only[bools]at h)<;>(try simp -dsimp -implicitDefEqProofs only[go_sem,seval])
 ·have:threadErr p i x=(1,-1):=by rw[threadErr,if_pos (by simp[h])]
  rw[this]
  exact⟨⟨by simp -dsimp -implicitDefEqProofs only[go_sem,seval];omega,by simp -dsimp -implicitDefEqProofs only[go_sem,seval]⟩,fun h0=>by simp at h0⟩
 ·have e1:isLabel x.name=true:=by assumption
  refine rawK_of (hraw _ _ (by simp -dsimp -implicitDefEqProofs only[go_sem,seval,hne1,hmap])) ?_
  rintro r h' n' ⟨⟨hn',rfl⟩,es,he,hes⟩
  rw[hany]at hes
  have q1: ¬n+1=k:=by omega
  have q2: ¬n+0=k:=by omega
  have q3: ¬n+0=n+1:=by omega
  have g4:h' (n+0)=some (.rows 4 [[.t (.sl (p.cells.map Cell.enc)),.t (.sl (p.modules.map Contract.enc)),.t (.sl (p.locks.map Lock.enc)),.t (.sl (p.threads.map Thread.enc))]] false):=by
   rw[he];simp -dsimp -implicitDefEqProofs only[go_sem,seval,q2,q3]
  have g6:h' (n+1)=some (.rows 7 [[.t (.str x.name),.t (ti x.points),.t (.sl (x.asserts.map Expr.enc)),.t (ints x.modules),.t (.sl (x.steps.map Step.enc)),.t (.sl (x.loops.map Loop.enc)),.t (tb x.asleep)]] false):=by
   rw[he];simp -dsimp -implicitDefEqProofs only[go_sem,seval,q1]
  have gk:h' k=some (.map es):=by rw[he];simp -dsimp -implicitDefEqProofs only[go_sem,seval]
  clear he
  simp -dsimp -implicitDefEqProofs only[go_sem,seval,hany]
  refine csplit (fun h=> ?_) (fun h=> ?_)<;>(try rw[h])<;>(try simp only[bools]at h)<;>(try simp -dsimp -implicitDefEqProofs only[go_sem,seval,g6])
  ·have:threadErr p i x=(41,-1):=by rw[threadErr,if_neg (by simp[e1]),if_pos h]
   rw[this]
   exact⟨⟨by simp -dsimp -implicitDefEqProofs only[go_sem,seval];omega,by simp -dsimp -implicitDefEqProofs only[go_sem,seval]⟩,fun h0=>by simp at h0⟩
  ·have e2:(p.threads.take i).any (fun d=>d.name.toList==x.name.toList)=false:=by assumption
   rw[hes e2,show(p.threads.take i).map Thread.name++[x.name]=(p.threads.take (i+1)).map Thread.name from by rw[take_succ_of hx];simp]at gk
   clear hes hraw hmap
   by_cases hpt:x.points<1\/ ¬(x.asserts.length:Int)=x.points\/ ¬(x.modules.length:Int)=x.points
   ·have:threadErr p i x=(1,-1):=by rw[threadErr,if_neg (by simp[e1]),if_neg (by simp[e2]),if_pos hpt]
    rw[this]
    repeat'(refine csplit (fun h=> ?_) (fun h=> ?_)<;>(try rw[h])<;>(try simp only[bools]at h)<;>(try simp -dsimp -implicitDefEqProofs only[go_sem,seval,g6]))
    all_goals first
     | (exfalso;omega)
     | exact⟨⟨by simp -dsimp -implicitDefEqProofs only[go_sem,seval];omega,by simp -dsimp -implicitDefEqProofs only[go_sem,seval]⟩,fun h0=>by simp at h0⟩
   ·have f1: ¬x.points<1:=by omega
    have f2:(x.asserts.length:Int)=x.points:=by omega
    have f3:(x.modules.length:Int)=x.points:=by omega
    have hth:threadErr p i x=if !x.modules.all (fun m=>inR m p.modules.length)then(1,-1)
     else if !x.asserts.all (fun e=>truthOk p e false i)then(60,-1)
     else if ¬(feGo (fun _ s=>stepErr p i x.points s) 0 x.steps).1=0 then feGo (fun _ s=>stepErr p i x.points s) 0 x.steps
     else((feGo (fun _ l=>loopErr p i x.points l) 0 x.loops).1,-1):=by
     rw[threadErr,if_neg (by simp[e1]),if_neg (by simp[e2]),if_neg hpt]
    have f2':decide (¬(x.asserts.length:Int)=x.points)=false:=by simp[f2]
    have f3':decide (¬(x.modules.length:Int)=x.points)=false:=by simp[f3]
    have hwi:=within_den _ _ (thread1Is p) x.modules (by omega)
    simp only[progT]at hwi
    simp -dsimp -implicitDefEqProofs only[go_sem,seval,f1,f2',f3',g6,g4,hwi]
    have hvis:=visible_den p i
    refine csplit (fun h=> ?_) (fun h=> ?_)<;>(try rw[h])<;>(try simp only[bools]at h)<;>(try simp -dsimp -implicitDefEqProofs only[go_sem,seval,g4,hvis,g6])
    ·have:threadErr p i x=(1,-1):=by rw[hth];simp[h]
     rw[this]
     exact⟨⟨by simp -dsimp -implicitDefEqProofs only[go_sem,seval];omega,by simp -dsimp -implicitDefEqProofs only[go_sem,seval]⟩,fun h0=>by simp at h0⟩
    ·rw[h]at hth
     simp only[Bool.not_true,Bool.false_eq_true,if_false]at hth
     clear hwi h
     refine loopYH 147429837401600561920 x.asserts.length (fun j f h y=>(f 57).v=vi j/\HT p x n k (setS ((p.threads.take (i+1)).map Thread.name)) h y/\x.asserts.all (fun e=>truthOk p e false i)=(x.asserts.drop j).all (fun e=>truthOk p e false i)) rfl ⟨by simp -dsimp -implicitDefEqProofs only[go_sem,seval],⟨g4,g6,gk,by simp -dsimp -implicitDefEqProofs only[go_sem,seval];omega⟩,rfl⟩ ?_
     clear g4 g6 gk
     rintro j f u hh y bs hj ⟨h57,⟨g4,g6,gk,gn⟩,hall⟩
     have hw:=wrapS j (by omega)
     simp -dsimp -implicitDefEqProofs only[go_sem,seval,h57]
     refine csplit (fun h=> ?_) (fun h=> ?_)<;>(try rw[h])<;>(try simp only[bools]at h)<;>(try simp -dsimp -implicitDefEqProofs only[go_sem,seval,h57])
     ·obtain⟨e,he,_⟩:=get_of ‹j<x.asserts.length›
      have hb:=bitSees p i e false
      simp -dsimp -implicitDefEqProofs only[go_sem,seval,h57,he,g4,hb]
      refine csplit (fun h=> ?_) (fun h=> ?_)<;>(try rw[h])<;>(try simp only[bools]at h)<;>(try simp -dsimp -implicitDefEqProofs only[go_sem,seval,h57])
      ·have:threadErr p i x=(60,-1):=by rw[hth,hall,all_stop he h];simp
       rw[this]
       exact⟨⟨by simp -dsimp -implicitDefEqProofs only[go_sem,seval];omega,by simp -dsimp -implicitDefEqProofs only[go_sem,seval]⟩,fun h0=>by simp at h0⟩
      ·refine⟨by omega,by simp -dsimp -implicitDefEqProofs only[go_sem,seval,hw],⟨by simp -dsimp -implicitDefEqProofs only[go_sem,seval,g4],by simp -dsimp -implicitDefEqProofs only[go_sem,seval,g6],by simp -dsimp -implicitDefEqProofs only[go_sem,seval,gk],by simp -dsimp -implicitDefEqProofs only[go_sem,seval];omega⟩,?_⟩
       rw[hall,all_step he h]
     ·have:j=x.asserts.length:=by omega
      subst this
      rw[all_end]at hall
      rw[hall]at hth
      simp only[Bool.not_true,Bool.false_eq_true,if_false]at hth
      clear hall h57 hw
      simp -dsimp -implicitDefEqProofs only[go_sem,seval,g6]
      refine loopYH 38684445636047416179352320 x.steps.length (fun j f h y=>(f 70).v=vi j/\HT p x n k (setS ((p.threads.take (i+1)).map Thread.name)) h y/\feGo (fun _ s=>stepErr p i x.points s) 0 x.steps=feGo (fun _ s=>stepErr p i x.points s) j (x.steps.drop j)) rfl ⟨by simp -dsimp -implicitDefEqProofs only[go_sem,seval],⟨by simp -dsimp -implicitDefEqProofs only[go_sem,seval,g4],by simp -dsimp -implicitDefEqProofs only[go_sem,seval,g6],by simp -dsimp -implicitDefEqProofs only[go_sem,seval,gk],by simp -dsimp -implicitDefEqProofs only[go_sem,seval];omega⟩,rfl⟩ ?_
      clear g4 g6 gk
      rintro j f u hh y bs hj ⟨h70,⟨g4,g6,gk,gn⟩,hm⟩
      have hw:=wrapS j (by omega)
      simp -dsimp -implicitDefEqProofs only[go_sem,seval,h70]
      refine csplit (fun h=> ?_) (fun h=> ?_)<;>(try rw[h])<;>(try simp only[bools]at h)<;>(try simp -dsimp -implicitDefEqProofs only[go_sem,seval,h70])
      ·obtain⟨s,hsx,hsm⟩:=get_of ‹j<x.steps.length›
       have hst:=stepP_den p i x ⟨by omega,hxp⟩ s (hs.sets x hxm s hsm)
       simp -dsimp -implicitDefEqProofs only[go_sem,seval,h70,hsx,g4,g6,hst]
       refine csplit (fun h=> ?_) (fun h=> ?_)<;>(try rw[h])<;>(try simp only[bools]at h)<;>(try simp -dsimp -implicitDefEqProofs only[go_sem,seval,h70])
       ·have h2:=hm.trans (fe_stop (f:=fun _ s=>stepErr p i x.points s) hsx (by simpa using h))
        have:threadErr p i x=(stepErr p i x.points s,(j:Int)):=by rw[hth,h2,if_pos (by simpa using h)]
        rw[this]
        exact⟨⟨by simp -dsimp -implicitDefEqProofs only[go_sem,seval];omega,by simp -dsimp -implicitDefEqProofs only[go_sem,seval]⟩,fun h0=>absurd h0 h⟩
       ·refine⟨by omega,by simp -dsimp -implicitDefEqProofs only[go_sem,seval,hw],⟨by simp -dsimp -implicitDefEqProofs only[go_sem,seval,g4],by simp -dsimp -implicitDefEqProofs only[go_sem,seval,g6],by simp -dsimp -implicitDefEqProofs only[go_sem,seval,gk],by simp -dsimp -implicitDefEqProofs only[go_sem,seval];omega⟩,?_⟩
        rw[hm,fe_step hsx (by simpa using h)]
      ·have:j=x.steps.length:=by omega
       subst this
       rw[fe_end]at hm
       rw[hm,if_neg (by simp)]at hth
       clear hm h70 hw
       simp -dsimp -implicitDefEqProofs only[go_sem,seval,g6]
       refine loopYH 10633823965969841973409111413518369536 x.loops.length (fun j f h y=>(f 88).v=vi j/\HT p x n k (setS ((p.threads.take (i+1)).map Thread.name)) h y/\feGo (fun _ l=>loopErr p i x.points l) 0 x.loops=feGo (fun _ l=>loopErr p i x.points l) j (x.loops.drop j)) rfl ⟨by simp -dsimp -implicitDefEqProofs only[go_sem,seval],⟨by simp -dsimp -implicitDefEqProofs only[go_sem,seval,g4],by simp -dsimp -implicitDefEqProofs only[go_sem,seval,g6],by simp -dsimp -implicitDefEqProofs only[go_sem,seval,gk],by simp -dsimp -implicitDefEqProofs only[go_sem,seval];omega⟩,rfl⟩ ?_
       clear g4 g6 gk
       rintro j f u hh y bs hj ⟨h88,⟨g4,g6,gk,gn⟩,hm⟩
       have hw:=wrapS j (by omega)
       simp -dsimp -implicitDefEqProofs only[go_sem,seval,h88]
       refine csplit (fun h=> ?_) (fun h=> ?_)<;>(try rw[h])<;>(try simp only[bools]at h)<;>(try simp -dsimp -implicitDefEqProofs only[go_sem,seval,h88])
       ·obtain⟨l,hlx,hlm⟩:=get_of ‹j<x.loops.length›
        have hbl:=hs.loops x hxm l hlm
        have hstop: ∀k':Int,k'≠0->loopErr p i x.points l=k'->threadErr p i x=(k',-1):=fun k' hk' h0=>by
         have h2:=hm.trans (fe_stop (f:=fun _ l=>loopErr p i x.points l) hlx (by rw[h0];exact hk'))
         rw[hth,h2,h0]
        have hin:=below_den l.head x.points
        have hri:=increasing_den l.body (by omega)
        have hwi:=within_den _ _ (thread2Is x l) l.body (by omega)
        simp only[thrT,loopT]at hwi
        have hv:=validP_den l.variant p.cells false
        have hov:=overSees p i l.variant
        have r1: ¬n=y+2:=by omega
        have r2: ∀a b:Nat,¬n+0=y+a+b:=by intros;omega
        have r3: ∀a b:Nat,¬k=y+a+b:=by intros;omega
        simp -dsimp -implicitDefEqProofs only[go_sem,seval,h88,hlx,g4,g6,r1,r2,hin]
        refine csplit (fun h=> ?_) (fun h=> ?_)<;>(try rw[h])<;>(try simp only[bools]at h)<;>(try simp -dsimp -implicitDefEqProofs only[go_sem,seval,h88,r1,r2,g4,g6,hri])
        ·rw[hstop 1 (by decide) (by simp[loopErr,h])]
         exact⟨⟨by simp -dsimp -implicitDefEqProofs only[go_sem,seval];omega,by simp -dsimp -implicitDefEqProofs only[go_sem,seval]⟩,fun h0=>by simp at h0⟩
        ·have u1:inR l.head x.points=true:=by assumption
         refine csplit (fun h=> ?_) (fun h=> ?_)<;>(try rw[h])<;>(try simp only[bools]at h)<;>(try simp -dsimp -implicitDefEqProofs only[go_sem,seval,h88,r1,r2,g4,g6,hwi])
         ·rw[hstop 1 (by decide) (by simp[loopErr,h])]
          exact⟨⟨by simp -dsimp -implicitDefEqProofs only[go_sem,seval];omega,by simp -dsimp -implicitDefEqProofs only[go_sem,seval]⟩,fun h0=>by simp at h0⟩
         ·have u2:rising l.body=true:=by assumption
          refine csplit (fun h=> ?_) (fun h=> ?_)<;>(try rw[h])<;>(try simp only[bools]at h)<;>(try simp -dsimp -implicitDefEqProofs only[go_sem,seval,h88,r1,r2,g4,g6,hv])
          ·rw[hstop 1 (by decide) (by rw[loopErr,if_pos (by rw[h];simp)])]
           exact⟨⟨by simp -dsimp -implicitDefEqProofs only[go_sem,seval];omega,by simp -dsimp -implicitDefEqProofs only[go_sem,seval]⟩,fun h0=>by simp at h0⟩
          ·have u3:(l.body.all fun q=>inR q x.points&&decide (q≠l.head))=true:=by assumption
           have hle:loopErr p i x.points l=if !l.variant.valid p.cells false || !overOk p l.variant true i then 60 else 0:=by
            rw[loopErr,if_neg (by rw[u1,u2,u3];simp)]
           refine csplit (fun h=> ?_) (fun h=> ?_)<;>(try rw[h])<;>(try simp only[bools]at h)<;>(try simp -dsimp -implicitDefEqProofs only[go_sem,seval,h88,r1,r2,g4,g6,hov])
           ·rw[hstop 60 (by decide) (by rw[hle];simp[h])]
            exact⟨⟨by simp -dsimp -implicitDefEqProofs only[go_sem,seval];omega,by simp -dsimp -implicitDefEqProofs only[go_sem,seval]⟩,fun h0=>by simp at h0⟩
           ·have u4:l.variant.valid p.cells false=true:=by assumption
            refine csplit (fun h=> ?_) (fun h=> ?_)<;>(try rw[h])<;>(try simp only[bools]at h)<;>(try simp -dsimp -implicitDefEqProofs only[go_sem,seval,h88])
            ·rw[hstop 60 (by decide) (by rw[hle];simp[h])]
             exact⟨⟨by simp -dsimp -implicitDefEqProofs only[go_sem,seval];omega,by simp -dsimp -implicitDefEqProofs only[go_sem,seval]⟩,fun h0=>by simp at h0⟩
            ·refine⟨by omega,by simp -dsimp -implicitDefEqProofs only[go_sem,seval,hw],⟨by simp -dsimp -implicitDefEqProofs only[go_sem,seval,g4,r2],by simp -dsimp -implicitDefEqProofs only[go_sem,seval,g6,r1],by simp -dsimp -implicitDefEqProofs only[go_sem,seval,gk,r3],by simp -dsimp -implicitDefEqProofs only[go_sem,seval];omega⟩,?_⟩
             rw[hm,fe_step hlx (by rw[hle];simp[h,u4])]
       ·have:j=x.loops.length:=by omega
        subst this
        rw[fe_end]at hm
        rw[hth,hm]
        exact⟨⟨by simp -dsimp -implicitDefEqProofs only[go_sem,seval];omega,by simp -dsimp -implicitDefEqProofs only[go_sem,seval]⟩,fun _=>by simp -dsimp -implicitDefEqProofs only[go_sem,seval,gk]⟩
end Rg
end
section
namespace Rg
open Go
@[go_sem]theorem fnK_fa (g:Nat) (c:List T) (K:Nat->List V->List V->Prop) (w:WK K):fnK (some (.t (.fa g c))) K w=K g [.agg (c.map V.t)] []:=rfl
theorem validP7_den (p:Prog) (hs:p.sane):Den Γ G 64 [(.agg [.t (.sl ((p).cells.map (Cell.enc))),.t (.sl ((p).modules.map (Contract.enc))),.t (.sl ((p).locks.map (Lock.enc))),.t (.sl ((p).threads.map (Thread.enc)))])]=some (.tup [vi (validM p).1,vi (validM p).2.1,vi (validM p).2.2]):=by
 (refine den_ofY Γ64 rfl ?_;dsimp only[f64])
 have h1:=limitsP_den p hs
 simp -dsimp -implicitDefEqProofs only[go_sem,seval,h1]
 refine csplit (fun h=> ?_) (fun h=> ?_)<;>(try rw[h])<;>(try simp only[bools]at h)<;>(try simp -dsimp -implicitDefEqProofs only[go_sem,seval])
 ·have h0: ¬(limitsM p).1=0:=by simpa using h
  have:validM p=((limitsM p).1,(limitsM p).2,-1):=by rw[validM,if_pos h0]
  rw[this];simp
 ·have h0:(limitsM p).1=0:=by simpa using h
  obtain⟨⟨l1,l2,l3,l4⟩,l5⟩:=limits_points h0
  have hv1:validM p=if ¬cellsM p=0 then(cellsM p,-1,-1)else if ¬modulesM p=0 then(modulesM p,-1,-1)else if ¬locksM p=0 then(locksM p,-1,-1)else thrGo p 0 p.threads:=by
   rw[validM,if_neg (by simpa using h0)]
  have c1:=cellsP_den p hs
  have c2:=modulesP_den p hs
  have c3:=locksP_den p hs
  refine wL_step ?_
  simp -dsimp -implicitDefEqProofs only[go_sem,seval,c1]
  refine csplit (fun h=> ?_) (fun h=> ?_)<;>(try rw[h])<;>(try simp only[bools]at h)<;>(try simp -dsimp -implicitDefEqProofs only[go_sem,seval])
  ·have:validM p=(cellsM p,-1,-1):=by rw[hv1,if_pos (by simpa using h)]
   rw[this];simp
  ·have h2:cellsM p=0:=by simpa using h
   rw[if_neg (by simpa using h2)]at hv1
   refine wL_step ?_
   simp -dsimp -implicitDefEqProofs only[go_sem,seval,c2]
   refine csplit (fun h=> ?_) (fun h=> ?_)<;>(try rw[h])<;>(try simp only[bools]at h)<;>(try simp -dsimp -implicitDefEqProofs only[go_sem,seval])
   ·have:validM p=(modulesM p,-1,-1):=by rw[hv1,if_pos (by simpa using h)]
    rw[this];simp
   ·have h3:modulesM p=0:=by simpa using h
    rw[if_neg (by simpa using h3)]at hv1
    refine wL_step ?_
    simp -dsimp -implicitDefEqProofs only[go_sem,seval,c3]
    refine csplit (fun h=> ?_) (fun h=> ?_)<;>(try rw[h])<;>(try simp only[bools]at h)<;>(try simp -dsimp -implicitDefEqProofs only[go_sem,seval])
    ·have:validM p=(locksM p,-1,-1):=by rw[hv1,if_pos (by simpa using h)]
     rw[this];simp
    ·have h4:locksM p=0:=by simpa using h
     rw[if_neg (by simpa using h4)]at hv1
     refine wL_step ?_
     simp -dsimp -implicitDefEqProofs only[go_sem,seval]
     refine loopYH 73786835557349912604 p.threads.length (fun i f h y=>(f 47).v=vi i/\56<y/\h 56=some (.map (setS ((p.threads.take i).map Thread.name)))/\validM p=thrGo p i (p.threads.drop i)) rfl ⟨by simp -dsimp -implicitDefEqProofs only[go_sem,seval],by simp -dsimp -implicitDefEqProofs only[go_sem,seval],by simp -dsimp -implicitDefEqProofs only[go_sem,seval];rfl,hv1⟩ ?_
     rintro i f u hh y bs hi ⟨h47,hy,hmap,hm⟩
     have hw:=wrapS i (by omega)
     simp -dsimp -implicitDefEqProofs only[go_sem,seval,h47]
     refine csplit (fun h=> ?_) (fun h=> ?_)<;>(try rw[h])<;>(try simp only[bools]at h)<;>(try simp -dsimp -implicitDefEqProofs only[go_sem,seval,h47])
     ·obtain⟨x,hx,hxm⟩:=get_of ‹i<p.threads.length›
      simp -dsimp -implicitDefEqProofs only[go_sem,seval,h47,hx]
      refine rawK_of (threadP_den p hs i x hx (by have:=(l5 x hxm).1;omega) hh _ 56 (by omega) hmap) ?_
      rintro r h' n' ⟨⟨hn,rfl⟩,hk⟩
      simp -dsimp -implicitDefEqProofs only[go_sem,seval,h47]
      refine csplit (fun h=> ?_) (fun h=> ?_)<;>(try rw[h])<;>(try simp only[bools]at h)<;>(try simp -dsimp -implicitDefEqProofs only[go_sem,seval,h47])
      ·rw[hm,thr_stop hx (by simpa using h)];simp
      ·have hk':=hk (by simpa using h)
       refine⟨by omega,by simp -dsimp -implicitDefEqProofs only[go_sem,seval,hw],by simp -dsimp -implicitDefEqProofs only[go_sem,seval];omega,by simp -dsimp -implicitDefEqProofs only[go_sem,seval,hk'],?_⟩
       rw[hm,thr_step hx (by simpa using h)]
     ·have:i=p.threads.length:=by omega
      subst this
      rw[hm,thr_end];simp
theorem intsOf_rowsI: ∀l:List Int,intsOf (rowsI l)=some l
 | []=>rfl
 | a::l=>by
   have:rowsI (a::l)=[.t (.int .i64 a)]::rowsI l:=rfl
   rw[this,intsOf,intsOf_rowsI l];rfl
theorem ofInts_rowsI (l:List Int):ofInts l=rowsI l:=by simp[ofInts,rowsI]
def sortedM (l:List Int):List Int:=Go.Lib.compact (l.mergeSort fun x y=>decide (x<=y))
theorem compact_mem (l:List Int) (x:Int):x∈Go.Lib.compact l<->x∈l:=by
 unfold Go.Lib.compact Go.Lib.compactUpTo
 simp only[List.mem_map,List.mem_filter,List.mem_range]
 constructor
 ·rintro⟨j,⟨hj,_⟩,rfl⟩
  simp[hj]
 ·intro hx
  obtain⟨i,hi⟩:=List.getElem?_of_mem hx
  have key: ∀i:Nat,l[i]? =some x-> ∃a,(a<l.length/\Go.Lib.keeps l.toArray a=true)/\l.toArray[a]! =x:=by
   intro i
   induction i with
   | zero=>
     intro h
     obtain⟨h1,h2⟩:=List.getElem?_eq_some_iff.1 h
     exact⟨0,⟨h1,by simp[Go.Lib.keeps]⟩,by simp[h1,h2]⟩
   | succ i ih=>
     intro h
     obtain⟨h1,h2⟩:=List.getElem?_eq_some_iff.1 h
     by_cases he:l[i]? =some x
     ·exact ih he
     ·refine⟨i+1,⟨h1,?_⟩,by simp[h1,h2]⟩
      have hi:i<l.length:=by omega
      have : ¬l[i+1]=l[i]:=by
       intro hh
       rw[List.getElem?_eq_getElem hi]at he
       exact he (by rw[<- hh,h2])
      simp[Go.Lib.keeps,h1,hi,this]
  exact key i hi
theorem sortedM_mem (l:List Int) (x:Int):x∈sortedM l<->x∈l:=by
 rw[sortedM,compact_mem,List.mem_mergeSort]
theorem compactL (l:List Int):(Go.Lib.compact l).length<=l.length:=by
 unfold Go.Lib.compact Go.Lib.compactUpTo
 rw[List.length_map]
 exact Nat.le_trans (List.length_filter_le _ _) (by simp)
theorem sortedM_len (l:List Int):(sortedM l).length<=l.length:=by
 have:=compactL (l.mergeSort fun x y=>decide (x<=y))
 rwa[List.length_mergeSort]at this
def PartV (h:Nat->Option O) (lo x:Nat) (v:V) (l:List Int) (room:Nat):Prop:= ∃k,v= .ms k 0 l.length/\lo<=k/\k<x/\h k=some (.rows 1 (rowsI l++List.replicate room [zi]) false)
theorem PartV.valOf {h:Nat->Option O} {lo x:Nat} {v:V} {l:List Int} {room:Nat} (o:PartV h lo x v l room):valOf v=some v:=by obtain⟨k,rfl,_,_,_⟩:=o;rfl
theorem PartV.rows {h:Nat->Option O} {lo x:Nat} {v:V} {l:List Int} {room:Nat} (o:PartV h lo x v l room):Rg.rowsS h v=some (rowsI l):=by
 obtain⟨k,rfl,_,_,hk⟩:=o
 unfold Rg.rowsS
 simp only[hk,rd,Nat.zero_add,List.drop_zero]
 rw[if_pos (by simp[rowsI_len]),List.take_append_of_le_length (by rw[rowsI_len];exact Nat.le_refl _),List.take_of_length_le (by rw[rowsI_len];exact Nat.le_refl _)]
theorem PartV.resVal {h:Nat->Option O} {lo x:Nat} {v:V} {l:List Int} {room:Nat} (o:PartV h lo x v l room):Rg.resVal v=some v:=by obtain⟨k,rfl,_,_,_⟩:=o;rfl
theorem putA_part {h:Nat->Option O} {lo x q room:Nat} {v:V} {l m:List Int} {K:V->List (Nat×O)->Prop} {w:WK K} (hv:PartV h lo x v l (m.length+room)) (hx:x<=q) (hl:l.length+m.length<=2^32)
 (hK: ∀v' hp,PartV (hpC h hp) lo (q+1) v' (l++m) room->(∀j,j<lo->hpC h hp j=h j)->K v' hp):putA false (appS h q 1 8 v (rowsI l) (rowsI m)) K w:=by
 unfold appS
 rw[if_pos ⟨⟨by rw[rowsI_len,rowsI_len];exact hl,by decide⟩,rowsI_all _,rowsI_all _⟩]
 cases m with
 | nil=>
   simp only[rowsI,List.map_nil,List.isEmpty_nil,if_true,putA_some]
   refine hK v [] ?_ (fun j _=>by rw[hpC_nil])
   rw[List.append_nil]
   obtain⟨k,rfl,hk0,hk,hh⟩:=hv
   exact⟨k,rfl,hk0,by omega,by simpa[hpC_nil]using hh⟩
 | cons y m=>
   obtain⟨k,rfl,hk0,hk,hh⟩:=hv
   have he:(rowsI (y::m)).isEmpty=false:=rfl
   simp only[he,hh,Bool.false_eq_true,if_false,and_self,if_true,putA_some]
   have happ:appRows (rowsI l) (rowsI (y::m)) (rowsI l++List.replicate ((y::m).length+room) [zi])=rowsI (l++y::m)++List.replicate room [zi]:=by
    have e1:rowsI (l++y::m)=rowsI l++rowsI (y::m):=by simp[rowsI]
    rw[e1]
    unfold appRows
    split
    ·rename_i hle
     simp only[List.length_append,rowsI_len,List.length_replicate]at hle
     have:room=0:=by omega
     subst this;simp
    ·rw[List.drop_append,List.drop_of_length_le (by rw[rowsI_len,rowsI_len];omega),List.drop_replicate,rowsI_len,rowsI_len]
     rw[show(y::m).length+room-(l.length+(y::m).length-l.length)=room by omega,List.nil_append]
   refine hK _ [(k,.dead),(q,.rows 1 (appRows (rowsI l) (rowsI (y::m)) (rowsI l++List.replicate ((y::m).length+room) [zi])) false)] ⟨q,?_,by omega,by omega,?_⟩ (fun j hj=> ?_)
   ·rw[rowsI_len,rowsI_len,List.length_append]
   ·rw[happ]
    have:q≠k:=by omega
    simp[hpC_cons,hpC_nil,updC_at]
   ·have h1:j≠q:=by omega
    have h2:j≠k:=by omega
    simp[hpC_cons,hpC_nil,updC_at,h1,h2]
theorem grow_den (m:Nat) (h0:0<m) (h1:m<=2^31) (H:Nat->Option O) (n:Nat): ∃r h' n',DenR Γ G 368 [.t .nils,vi m] H n=some (r,h',n')/\(PartV h' n n' r [] m/\ ∀j,j<n->h' j=H j):=by
 have e1: ¬((m:Int)<0):=by omega
 have e2:(0:Int)<m:=by omega
 have e3:(m:Int)<=4294967296:=by omega
 have hw:IntKind.i64.wrap ((m:Int)-0)=m:=by rw[Int.sub_zero];exact wrap64 (by omega)
 have e4:(1:Int)<=m:=by omega
 (refine denR_ofY Γ368 rfl ?_;dsimp only[f368])
 simp -dsimp -implicitDefEqProofs only[go_sem,seval,e1,e2,e3,e4,hw]
 refine⟨⟨_,rfl,by omega,by simp -dsimp only[go_sem];omega,by simp[hpC_cons,hpC_nil,updC_at,rowsI]⟩,fun j hj=> ?_⟩
 have:j≠n+1+2+8+2+5:=by omega
 simp[hpC_cons,hpC_nil,updC_at,this]
theorem grow0_den (n:Nat) (H:Nat->Option O): ∃r h' n',DenR Γ G 368 [.t .nils,vi 0] H n=some (r,h',n')/\(r= .t .nils/\h'=H):=by
 have hw:IntKind.i64.wrap (0-0)=0:=rfl
 (refine denR_ofY Γ368 rfl ?_;dsimp only[f368])
 simp -dsimp -implicitDefEqProofs only[go_sem,seval,hw]
 exact⟨rfl,rfl⟩
theorem concat_den (a b:List Int) (ha:a.length<2^20) (hb:b.length<2^20) (H:Nat->Option O) (n k:Nat) (va vb:V) (hk:H k=some (.rows 1 [[va],[vb]] false)) (hkn:k<n)
 (oa:OwnB H n va 1 (rowsI a)) (ob:OwnB H n vb 1 (rowsI b)): ∃r h' n',DenR Γ G 350 [.ms k 0 2] H n=some (r,h',n')/\OwnB h' n' r 1 (rowsI (a++b)):=by
 have w1:IntKind.i64.wrap (0+(a.length:Int))=a.length:=by rw[Int.zero_add];exact wrap64 (by omega)
 have w2:IntKind.i64.wrap ((a.length:Int)+b.length)=((a.length+b.length:Nat):Int):=by rw[Int.natCast_add];exact wrap64 (by omega)
 have e1: ¬((a.length:Int)<0):=by omega
 have e2: ¬(((a.length+b.length:Nat):Int)<0):=by omega
 have v1:=oa.valOf
 have v2:=ob.valOf
 have l1:lenS H va=some a.length:=by rcases oa with⟨rfl,he⟩ | ⟨q,rfl,_,hq⟩
                                     ·have:a=[]:=by simpa[rowsI]using he
                                      subst this;rfl
                                     ·simp[lenS,hq,rowsI_len]
 have l2:lenS H vb=some b.length:=by rcases ob with⟨rfl,he⟩ | ⟨q,rfl,_,hq⟩
                                     ·have:b=[]:=by simpa[rowsI]using he
                                      subst this;rfl
                                     ·simp[lenS,hq,rowsI_len]
 (refine denR_ofY Γ350 rfl ?_;dsimp only[f350])
 simp -dsimp -implicitDefEqProofs only[go_sem,seval,hk]
 refine wL_step ?_
 simp -dsimp -implicitDefEqProofs only[go_sem,seval,hk,v1,l1,w1,e1]
 refine wL_step ?_
 simp -dsimp -implicitDefEqProofs only[go_sem,seval,hk,v2,l2,w2,e2]
 refine wL_step ?_
 simp -dsimp -implicitDefEqProofs only[go_sem,seval]
 by_cases h0:a.length+b.length=0
 ·rw[h0]
  have ha0:a=[]:=List.eq_nil_of_length_eq_zero (by omega)
  have hb0:b=[]:=List.eq_nil_of_length_eq_zero (by omega)
  subst ha0 hb0
  refine rawK_of (grow0_den _ _) ?_
  rintro r h' n' ⟨rfl,rfl⟩
  have r1:=oa.rowsS
  have r2:=ob.rowsS
  have e3:rowsI []=[]:=rfl
  simp -dsimp -implicitDefEqProofs only[go_sem,seval,hk]
  refine wL_step ?_
  simp -dsimp -implicitDefEqProofs only[go_sem,seval,hk,v1,r1,e3,appS]
  refine wL_step ?_
  simp -dsimp -implicitDefEqProofs only[go_sem,seval,hk,v2,r2,e3,appS]
  refine wL_step ?_
  simp -dsimp -implicitDefEqProofs only[go_sem,seval]
  exact .inl ⟨rfl,rfl⟩
 ·refine rawK_of (grow_den _ (by omega) (by omega) _ _) ?_
  rintro r h' n' ⟨hP,hkeep⟩
  have q1:=hP.valOf
  have q2:=hP.rows
  have hk1:h' k=some (.rows 1 [[va],[vb]] false):=by rw[hkeep k (by omega)];exact hk
  have oa1:OwnB h' n va 1 (rowsI a):=oa.keep (Nat.le_refl _) fun j hj _=>hkeep j (by omega)
  have ob1:OwnB h' n vb 1 (rowsI b):=ob.keep (Nat.le_refl _) fun j hj _=>hkeep j (by omega)
  have r1:=oa1.rowsS
  simp -dsimp -implicitDefEqProofs only[go_sem,seval,q1,hk1]
  refine wL_step ?_
  simp -dsimp -implicitDefEqProofs only[go_sem,seval,hk1,v1,q1,q2,r1]
  refine putA_part hP (by omega) (by simp;omega) ?_
  rintro v' hp hP2 hkeep2
  rw[List.nil_append]at hP2
  have q3:=hP2.valOf
  have q4:=hP2.rows
  have hk2:hpC h' hp k=some (.rows 1 [[va],[vb]] false):=by rw[hkeep2 k (by omega)];exact hk1
  have ob2:OwnB (hpC h' hp) n vb 1 (rowsI b):=ob1.keep (Nat.le_refl _) fun j hj _=>hkeep2 j (by omega)
  have r2:=ob2.rowsS
  simp -dsimp -implicitDefEqProofs only[go_sem,seval,q3,hk2]
  refine wL_step ?_
  simp -dsimp -implicitDefEqProofs only[go_sem,seval,hk2,v2,q3,q4,r2]
  refine putA_part (room:=0) hP2 (by omega) (by omega) ?_
  rintro v' hp' hP3 hkeep3
  have q5:=hP3.valOf
  have q6:=hP3.resVal
  simp only[Rg.resVal]at q6
  simp -dsimp -implicitDefEqProofs only[go_sem,seval,q5]
  refine wL_step ?_
  simp -dsimp -implicitDefEqProofs only[go_sem,seval,q5,q6]
  obtain⟨kk,rfl,h1,h2,h3⟩:=hP3
  exact .inr ⟨kk,by rw[rowsI_len];rfl,by simp -dsimp only[go_sem];omega,by simpa using h3⟩
def formedM (p:Prog):Bool:=decide ((validM p).1=0)
theorem formedR_den (p:Prog) (hs:p.sane):Den Γ G 39 [(.agg [.t (.sl ((p).cells.map (Cell.enc))),.t (.sl ((p).modules.map (Contract.enc))),.t (.sl ((p).locks.map (Lock.enc))),.t (.sl ((p).threads.map (Thread.enc)))])]=some (vb (formedM p)):=by
 (refine den_ofY Γ39 rfl ?_;dsimp only[f39])
 have h1:=validR_den p hs
 simp -dsimp -implicitDefEqProofs only[go_sem,seval,h1]
 rfl
end Rg
end
