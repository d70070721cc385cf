/- Part of the proof of laws of relyguardlaw31. No condition. -/
import Derived.Test.YtcmeofagpechdaaGreatDoorRartAY
import Derived.Test.YtcmeofagpechdaaGreatDoorRartAW
import Derived.Test.YtcmeofagpechdaaGreatDoorRartAT
import Derived.Test.YtcmeofagpechdaaGreatDoorRartAU
import Derived.Test.YtcmeofagpechdaaGreatDoorRartAV
set_option linter.unusedSimpArgs false
set_option linter.unusedVariables false
section
namespace Rg
open Go
theorem zkO (p:Prog) (t:Int) (e:Expr):Den Γ G 108 [(.agg [.t (ti (e).op),.t (ti (e).w),.t (ti (e).n),.t (.sl ((e).kids.map (Expr.enc)))]),.t (.fn 146 [] [zaF p,.ip [ti t]])]=some (vb (overOk p e false t)):=by
 rw[zcy e _ _ (ownF p t),overOk,zgf]
theorem zfS (r:List Assign):((r.map Assign.enc).all fun x=>decide (x.length=5))=true:=by
 simp[Assign.enc,Expr.enc_eq]
theorem ziH (n:Nat):(((n+1:Nat):Int)-1).toNat=n:=by omega
theorem zis {α β:Type} (f:α->β) (r:List α):List.take r.length (r.map f)=r.map f:=List.take_of_length_le (by simp)
theorem zhe (p:Prog) (t:Int) (s:Step) (hl:s.set.length<2^48) (hr:zgw p s):Den Γ G 148 [(.agg [.t (.sl ((p).cells.map (Cell.enc))),.t (.sl ((p).modules.map (Contract.enc))),.t (.sl ((p).locks.map (Lock.enc))),.t (.sl ((p).threads.map (Thread.enc)))]),vi t,(.agg [.t (ti (s).kind),.t (ti (s).fr),.t (ti (s).to),.t (ti ((s).guard).op),.t (ti ((s).guard).w),.t (ti ((s).guard).n),.t (.sl (((s).guard).kids.map Expr.enc)),.t (.sl ((s).set.map Assign.enc)),.t (tb (s).release),.t (ti (s).target),.t (ti (s).module)])]=some (vb (loadOk p t s)):=by
 (refine den_ofY Γ148 rfl ?_;dsimp only[f148])
 have h1:=zga p t;have hg:=zkO p t s.guard;rcases hs:s.set with _ | ⟨a,r⟩
 ·simp -dsimp only[go_sem,seval,h1,hs];simp[loadOk,hs]
 ·have hne: ¬(((r.length+1:Nat):Int)=0):=by omega
  have hle:(1:Int)<=((r.length+1:Nat):Int):=by omega
  have hK:loadOk p t s=(overOk p s.guard false t&&ofThread p t a.cell&& !zaJ p a.cell Cell.ghost&&decide (a.to.op=2)&&ofThread p (-1) a.to.n&& !zaJ p a.to.n Cell.ghost&&
   r.all fun b=>ofThread p t b.cell&&zaJ p b.cell Cell.ghost&&overOk p b.to false t):=by rw[loadOk,hs]
  have ham:a∈s.set:=by rw[hs];simp
  obtain⟨d0,x,hx⟩:=zaV (hr.2 a ham).1;have ho:=zei p t a.cell;have hgh:=zcC p a.cell x d0 hx;have o2:=zaH (g:=Cell.ghost) hx;have hsh:=zbG p a.to.n;simp -dsimp only[go_sem,seval,h1,hs,hne,hg];refine csplit (fun h=> ?_) (fun h=> ?_)<;>(try rw[h])<;>(try simp only[zab]at h)<;>(try simp -dsimp only[go_sem,seval,hs,ho,zaF])
  ·rw[hK,h];simp
  ·have e0:overOk p s.guard false t=true:=by assumption
   refine csplit (fun h=> ?_) (fun h=> ?_)<;>(try rw[h])<;>(try simp only[zab]at h)<;>(try simp -dsimp only[go_sem,seval,hgh,hs])
   ·rw[hK,h];simp
   ·have e1:ofThread p t a.cell=true:=by assumption
    refine csplit (fun h=> ?_) (fun h=> ?_)<;>(try rw[h])<;>(try simp only[zab]at h)<;>(try simp -dsimp only[go_sem,seval,hs])
    ·rw[hK,o2,h];simp
    ·have e2:x.ghost=false:=by assumption
     refine csplit (fun h=> ?_) (fun h=> ?_)<;>(try rw[h])<;>(try simp only[zab]at h)<;>(try simp -dsimp only[go_sem,seval,hsh])
     ·rw[hK];simp[h]
     ·have e3:a.to.op=2:=by assumption
      obtain⟨d1,y,hy⟩:=zaV (valid_cell (hr.2 a ham).2 e3);have hgh2:=zcC p a.to.n y d1 hy;have q2:=zaH (g:=Cell.ghost) hy;refine csplit (fun h=> ?_) (fun h=> ?_)<;>(try rw[h])<;>(try simp only[zab]at h)<;>(try simp -dsimp only[go_sem,seval,hgh2])
      ·rw[hK,h];simp
      ·have e4:ofThread p (-1) a.to.n=true:=by assumption
       refine csplit (fun h=> ?_) (fun h=> ?_)<;>(try rw[h])<;>(try simp only[zab]at h)<;>(try simp -dsimp only[go_sem,seval,hs,hle])
       ·rw[hK,q2,h];simp
       ·rw[o2,q2,e0,e1,e2,e4,h]at hK;simp only[e3,decide_true,Bool.not_false,Bool.and_true,Bool.true_and]at hK;have t1:=zfS r;have t2:=ziH r.length;have t3:=zis Assign.enc r;simp -dsimp only[go_sem,seval,t1,t2,t3,Int.le_refl];refine zaz 2475879930996807960121837632 r.length (fun j f'=>(f' 67).v=vi j/\loadOk p t s=(r.drop j).all fun b=>ofThread p t b.cell&&zaJ p b.cell Cell.ghost&&overOk p b.to false t) rfl rfl ⟨by simp -dsimp only[go_sem,seval],hK⟩ ?_;rintro j f' u' kk' bb' hj ⟨h67,hall⟩;have hw':=zah j (by rw[hs]at hl;simp at hl;omega);simp -dsimp only[go_sem,seval,h67];refine csplit (fun h=> ?_) (fun h=> ?_)<;>(try rw[h])<;>(try simp only[zab]at h)<;>(try simp -dsimp only[go_sem,seval,h67])
        ·obtain⟨b,hb,hbr⟩:=zaf ‹j<r.length›;obtain⟨d2,z,hz⟩:=zaV (hr.2 b (by rw[hs];simp[hbr])).1;have hob:=zei p t b.cell;have hgz:=zcC p b.cell z d2 hz;have z2:=zaH (g:=Cell.ghost) hz;have hov:=zkO p t b.to;simp only[zaF]at hov;simp -dsimp only[go_sem,seval,h67,hb,hob,zaF]
         repeat'(refine csplit (fun h=> ?_) (fun h=> ?_)<;>(try rw[h])<;>(try simp only[zab]at h)<;>(try simp -dsimp only[go_sem,seval,h67,hgz,hov,zaF]))
         all_goals first
          | (rw[hall,zaM hb (by rw[z2];simp[*])];done)
          | (refine⟨by omega,by simp -dsimp only[go_sem,seval,hw'],?_⟩
             rw[hall,zaN hb (by rw[z2];simp[*])])
        ·have:j=r.length:=by omega
         subst this;rw[hall,za0]
theorem store1 (p:Prog) (t:Int):zti (.fn 164 [] [zaF p,.ip [.fn 134 [] [zaF p,.ip [.fn 146 [] [zaF p,.ip [ti t]]]]]]) (fun c=>zaJ p c Cell.ghost&&sees p t c) (fun c=>inR c p.cells.length=true):=by
 have hb:IsP 134 [zaF p,.ip [.fn 146 [] [zaF p,.ip [ti t]]]] (sees p t):=visibleIs p t;have hn: ∀x∈[zaF p,.ip [.fn 134 [] [zaF p,.ip [.fn 146 [] [zaF p,.ip [ti t]]]]]],T.norm x=x:=by simp[zaF,T.norm]
 refine⟨rfl,164,[],[zaF p,.ip [.fn 134 [] [zaF p,.ip [.fn 146 [] [zaF p,.ip [ti t]]]]]].map V.t,rfl,fun hh n=> ?_,fun n=> ?_,fun n hin=> ?_⟩
 ·exact zdK hh (ti n::[zaF p,.ip [.fn 134 [] [zaF p,.ip [.fn 146 [] [zaF p,.ip [ti t]]]]]]) (fun x hx=>(List.mem_cons.1 hx).elim (fun e=>by rw[e];rfl) (hn x))
 ·exact zgz (ti n::[zaF p,.ip [.fn 134 [] [zaF p,.ip [.fn 146 [] [zaF p,.ip [ti t]]]]]])
 ·obtain⟨d0,x,hx⟩:=zaV hin;have hgh:=zcC p n x d0 hx;have o2:=zaH (g:=Cell.ghost) hx;have hd:=hb.2 n;simp only[List.map_cons,List.map_nil,zaF,List.nil_append,List.cons_append]at hd⊢
  (refine den_ofY Γ164 rfl ?_;dsimp only[zrL])
  simp -dsimp only[go_sem,seval,hgh];refine csplit (fun h=> ?_) (fun h=> ?_)<;>(try rw[h])<;>(try simp only[zab]at h)<;>(try simp -dsimp only[go_sem,seval,hd])
  ·rw[o2,h];simp
  ·rw[o2,h];simp
theorem zgk (p:Prog) (t:Int) (s:Step) (hl:s.set.length<2^48) (hr:zgw p s):Den Γ G 149 [(.agg [.t (.sl ((p).cells.map (Cell.enc))),.t (.sl ((p).modules.map (Contract.enc))),.t (.sl ((p).locks.map (Lock.enc))),.t (.sl ((p).threads.map (Thread.enc)))]),vi t,(.agg [.t (ti (s).kind),.t (ti (s).fr),.t (ti (s).to),.t (ti ((s).guard).op),.t (ti ((s).guard).w),.t (ti ((s).guard).n),.t (.sl (((s).guard).kids.map Expr.enc)),.t (.sl ((s).set.map Assign.enc)),.t (tb (s).release),.t (ti (s).target),.t (ti (s).module)])]=some (vb (storeOk p t s)):=by
 (refine den_ofY Γ149 rfl ?_;dsimp only[f149])
 have h1:=zga p t
 have hv:Den Γ G 161 [(.agg [.t (ti (s).kind),.t (ti (s).fr),.t (ti (s).to),.t (ti ((s).guard).op),.t (ti ((s).guard).w),.t (ti ((s).guard).n),.t (.sl (((s).guard).kids.map Expr.enc)),.t (.sl ((s).set.map Assign.enc)),.t (tb (s).release),.t (ti (s).target),.t (ti (s).module)]),.t (.fn 146 [] [zaF p,.ip [ti t]])]=some (vb (valuesOk p s false t)):=by
  rw[zda s _ _ (ownF p t) hl];simp only[valuesOk,overOk,zgf]
 by_cases he:s.set=[]
 ·simp -dsimp only[go_sem,seval,h1,he];simp[storeOk,he]
 ·obtain⟨a,r,hs⟩: ∃a r,s.set=a::r:=by
   rcases h:s.set with _ | ⟨a,r⟩
   ·exact absurd h he
   ·exact⟨a,r,rfl⟩
  have hsl:s.set.length=r.length+1:=by rw[hs];rfl
  have h0:s.set[0]? =some a:=by rw[hs];rfl
  have hd1:List.drop 1 (s.set.map Assign.enc)=r.map Assign.enc:=by rw[hs];rfl
  have hne: ¬(((r.length+1:Nat):Int)=0):=by omega
  have hle:(1:Int)<=((r.length+1:Nat):Int):=by omega
  have hK:storeOk p t s=(valuesOk p s false t&&ofThread p (-1) a.cell&& !zaJ p a.cell Cell.ghost&&r.all fun b=>zaJ p b.cell Cell.ghost&&sees p t b.cell):=by rw[storeOk,hs]
  have ham:a∈s.set:=by rw[hs];simp
  obtain⟨d0,x,hx⟩:=zaV (hr.2 a ham).1;have hgh:=zcC p a.cell x d0 hx;have o2:=zaH (g:=Cell.ghost) hx;have hsh:=zbG p a.cell;have hvis:=zc9 p t;have hta:=zdb r _ _ _ (store1 p t) (fun b hb=>(hr.2 b (by rw[hs];simp[hb])).1) (by omega);have t1:=zfS s.set;have t2:=ziH r.length;have t3:=zis Assign.enc r;simp -dsimp only[go_sem,seval,h1,hsl,hne,hv,h0];refine csplit (fun h=> ?_) (fun h=> ?_)<;>(try rw[h])<;>(try simp only[zab]at h)<;>(try simp -dsimp only[go_sem,seval,h0,hsh])
  ·rw[hK,h];simp
  ·have e0:valuesOk p s false t=true:=by assumption
   refine csplit (fun h=> ?_) (fun h=> ?_)<;>(try rw[h])<;>(try simp only[zab]at h)<;>(try simp -dsimp only[go_sem,seval,hgh])
   ·rw[hK,h];simp
   ·have e1:ofThread p (-1) a.cell=true:=by assumption
    refine csplit (fun h=> ?_) (fun h=> ?_)<;>(try rw[h])<;>(try simp only[zab]at h)<;>(try simp -dsimp only[go_sem,seval,hvis,hsl,hd1,t1,t2,t3,hle,Int.le_refl,hta])
    ·rw[hK,o2,h];simp
    ·rw[o2,e0,e1,h]at hK;simp only[Bool.not_false,Bool.and_true,Bool.true_and]at hK;rw[hK];have hpt:T.ip [.sl (p.cells.map Cell.enc),.sl (p.modules.map Contract.enc),.sl (p.locks.map Lock.enc),.sl (p.threads.map Thread.enc)]=zaF p:=rfl;simp -dsimp only[go_sem,seval,hpt,hta]
end Rg
end
section
namespace Rg
open Go
theorem zlb:Den Γ G 135 []=some (.agg [.t .nilf,.t (.fn 147 [] []),.t (.fn 148 [] []),.t (.fn 149 [] []),.t (.fn 150 [] []),.t (.fn 151 [] []),.t (.fn 152 [] []),.t (.fn 153 [] [])]):=by
 (refine den_ofY Γ135 rfl ?_;dsimp only[f135])
 simp -dsimp only[go_sem,seval]
set_option maxHeartbeats 4000000 in
theorem zj9 (p:Prog) (t:Int) (x:Thread) (hxp: -2^48<x.points/\x.points<2^48) (s:Step) (hlen:s.set.length<2^48):
 Den Γ G 105 [(.agg [.t (.sl ((p).cells.map (Cell.enc))),.t (.sl ((p).modules.map (Contract.enc))),.t (.sl ((p).locks.map (Lock.enc))),.t (.sl ((p).threads.map (Thread.enc)))]),vi t,(.agg [.t (.str (x).name),.t (ti (x).points),.t (.sl ((x).asserts.map Expr.enc)),.t (ints (x).modules),.t (.sl ((x).steps.map Step.enc)),.t (.sl ((x).loops.map Loop.enc)),.t (tb (x).asleep)]),(.agg [.t (ti (s).kind),.t (ti (s).fr),.t (ti (s).to),.t (ti ((s).guard).op),.t (ti ((s).guard).w),.t (ti ((s).guard).n),.t (.sl (((s).guard).kids.map Expr.enc)),.t (.sl ((s).set.map Assign.enc)),.t (tb (s).release),.t (ti (s).target),.t (ti (s).module)])]=some (vi (stepErr p t x.points s)):=by
 (refine den_ofY Γ105 rfl ?_;dsimp only[f105])
 have hw1:IntKind.i64.wrap (x.points-1)=x.points-1:=zan (by omega);have hi1:=zaL s.fr (x.points-1);have hi2:=zaL s.to x.points;have hi3:=zaL s.module p.modules.length;have hv:=zcN s.guard p.cells false;simp -dsimp only[go_sem,seval]
 by_cases hbad:zbl p x.points s=true
 ·rw[stepErr,if_pos hbad]
  repeat'(refine csplit (fun h=> ?_) (fun h=> ?_)<;>(try rw[h])<;>(try simp only[zab]at h)<;>(try simp -dsimp only[go_sem,seval,hw1,hi1,hi2,hi3]))
  all_goals(exfalso;simp only[zbl,Bool.or_eq_true,zF,Bool.not_eq_true',decide_eq_true_eq]at hbad;simp_all;try omega)
 ·have hse:stepErr p t x.points s=if !s.guard.valid p.cells false||decide (s.guard.w≠1)then 60 else if ¬(feGo (setErr p s.set) 0 s.set).1=0 then(feGo (setErr p s.set) 0 s.set).1 else if kindOk p t s then 0 else 70:=by rw[stepErr,if_neg hbad]
  have hb':zbl p x.points s=false:=by simpa using hbad
  simp only[zbl,Bool.or_eq_false_iff,Bool.and_eq_false_iff,Bool.not_eq_false',decide_eq_false_iff_not]at hb';obtain⟨⟨⟨⟨⟨⟨b1,b2⟩,b3⟩,b4⟩,b5⟩,b6⟩,b7⟩:=hb';rw[b3]at hi1;rw[b4]at hi2;rw[b5]at hi3
  have hcs: ∀Q:Prop,(∀(c3 c6 c7 r tz:Bool),decide (s.kind=6)=c6->decide (s.kind=7)=c7->decide (s.kind=3)=c3->s.release=r->decide (s.target=0)=tz->
   ((c6=true/\r=false)\/(c6=false/\c7=true/\r=false)\/(c6=false/\c7=false/\tz=true/\r=false)\/(c6=false/\c7=false/\tz=true/\r=true/\c3=true))->Q)->Q:=fun Q q=>by
   refine q _ _ _ _ _ rfl rfl rfl rfl rfl ?_;simp only[decide_eq_true_eq,decide_eq_false_iff_not]
   by_cases h6:s.kind=6<;>by_cases h7:s.kind=7<;>by_cases h3:s.kind=3<;>cases hr:s.release<;>by_cases hz:s.target=0<;>simp_all
  refine hcs _ (fun c3 c6 c7 r tz e6 e7 e3 er ez hc=> ?_);have hmid:s.guard.valid p.cells false=true->s.guard.w=1->stepErr p t x.points s=if ¬(feGo (setErr p s.set) 0 s.set).1=0 then(feGo (setErr p s.set) 0 s.set).1 else if kindOk p t s then 0 else 70:=fun g1 g2=>by rw[hse,if_neg (by simp[g1,g2])]
  have hg60:(s.guard.valid p.cells false=false\/ ¬s.guard.w=1)->stepErr p t x.points s=60:=fun g=>by rw[hse,if_pos (by rcases g with g | g<;>simp[g])]
  have b1':1<=s.kind/\s.kind<=7:=by omega
  have e3':(decide ¬s.kind=3)= !c3:=by rw[<- e3];simp
  have ez':(decide ¬s.target=0)= !tz:=by rw[<- ez];simp
  rcases hc with⟨rfl,rfl⟩ | ⟨rfl,rfl,rfl⟩ | ⟨rfl,rfl,rfl,rfl⟩ | ⟨rfl,rfl,rfl,rfl,rfl⟩
  all_goals(try cases tz)
  all_goals(try cases c3)
  all_goals(try(exfalso;simp only[decide_eq_true_eq]at e3 e6 e7;omega))
  all_goals(
   (try simp only[Bool.not_true,Bool.not_false]at e3' ez')
   simp -dsimp only[go_sem,seval,hw1,hi1,hi2,hi3,b1,b2,e6,e7,e3',ez',er,hv]
   repeat'(refine csplit (fun h=> ?_) (fun h=> ?_)<;>(try rw[h])<;>(try simp only[zab]at h)<;>(try simp -dsimp only[go_sem,seval,hv])))
  all_goals(try(rw[hg60 (.inl ‹_›)];done))
  all_goals(try(rw[hg60 (.inr ‹_›)];done))
  all_goals(
   have hgv:s.guard.valid p.cells false=true:=by assumption
   have hgw:s.guard.w=1:=by assumption
   have hmid:=hmid hgv hgw;clear hcs hg60 hse hv hi1 hi2 hi3 e3' ez' er e3 e6;refine zaj 2722258935367498036300439942420748071168 s.set.length (fun i f h y=>(f 83).v=vi i/\h 74=some (.map (setI ((s.set.take i).map Assign.cell)))/\feGo (setErr p s.set) 0 s.set=feGo (setErr p s.set) i (s.set.drop i)) rfl ⟨by simp -dsimp only[go_sem,seval],by simp -dsimp only[go_sem,seval];rfl,rfl⟩ ?_;rintro i f u hh y bs hi ⟨h83,hmap,hm⟩;have hw:=zah i (by omega);simp -dsimp only[go_sem,seval,h83];refine csplit (fun h=> ?_) (fun h=> ?_)<;>(try rw[h])<;>(try simp only[zab]at h)<;>(try simp -dsimp only[go_sem,seval,h83])
   ·obtain⟨a,ha,ham⟩:=zaf ‹i<s.set.length›;have hi1:=zaL a.cell p.cells.length
    have hstop: ∀k:Int,k≠0->setErr p s.set i a=k->stepErr p t x.points s=k:=fun k hk h0=>by
     have h2:=hm.trans (fe_stop ha (by rw[h0];exact hk));rw[hmid,h2,h0,if_pos hk]
    have hany:((s.set.take i).map Assign.cell).any (fun d=>decide (d=a.cell))=(s.set.take i).any (fun d=>decide (d.cell=a.cell)):=by rw[List.any_map];rfl
    have hfi:=zoR a.cell ((s.set.take i).map Assign.cell);rw[hany]at hfi;cases hc:(s.set.take i).any (fun d=>decide (d.cell=a.cell))
    ·rw[hc]at hfi hany;have hpu:=zsC a.cell _ hany;simp -dsimp only[go_sem,seval,h83,ha,hmap,hfi,Option.getD_none,Option.getD_some,Option.isSome_none,zG,if_true,if_false,hi1];cases hir:inR a.cell p.cells.length
     ·simp -dsimp only[go_sem,seval,h83];rw[hstop 70 (by decide) (by simp[setErr,hir])]
     ·obtain⟨d0,z,hz⟩:=zaV hir;have hv2:=zcN a.to p.cells false;have hci:=zaH (g:=fun x=>decide (a.to.w=x.w)) hz
      have hsx:setErr p s.set i a=if !a.to.valid p.cells false || !zaJ p a.cell (fun x=>decide (a.to.w=x.w))then 60 else 0:=by
       rw[setErr,if_neg (by rw[hir,hc];simp)]
      rw[hci]at hsx;simp -dsimp only[go_sem,seval,h83,hmap,hpu,d0,hz];refine csplit (fun h=> ?_) (fun h=> ?_)<;>(try rw[h])<;>(try simp only[zab]at h)<;>(try simp -dsimp only[go_sem,seval,h83,hv2])
      ·rw[hstop 60 (by decide) (by rw[hsx];simp[h])]
      ·have hvt:a.to.w=z.w:=by assumption
       refine csplit (fun h=> ?_) (fun h=> ?_)<;>(try rw[h])<;>(try simp only[zab]at h)<;>(try simp -dsimp only[go_sem,seval,h83])
       ·rw[hstop 60 (by decide) (by rw[hsx];simp[h])]
       ·refine⟨by omega,by simp -dsimp only[go_sem,seval,hw],?_,?_⟩
        ·simp -dsimp only[go_sem,seval];rw[zae ha];simp
        ·rw[hm,zbh ha (by rw[hsx];simp[h,hvt])]
    ·rw[hc]at hfi;simp -dsimp only[go_sem,seval,h83,ha,hmap,hfi,Option.getD_none,Option.getD_some,Option.isSome_none,zG,if_true,if_false];rw[hstop 70 (by decide) (by rw[setErr,if_pos (by rw[hc];simp)])]
   ·have:i=s.set.length:=by omega
    subst this;rw[zbQ]at hm;rw[hm,if_neg (by simp)]at hmid;have hr:zgw p s:=⟨hgv,zcw (i:=0) (set:=s.set) (by rw[hm])⟩
    have hkk:=zlb;have f1:=zgm p t s hlen;have f2:=zhe p t s hlen hr;have f3:=zgk p t s hlen hr;have f4:=zfg p t s hlen;have f5:=zgn p t s;have f6:=zgl p t s;have f7:=zd4 p t s;have hks:s.kind=1\/s.kind=2\/s.kind=3\/s.kind=4\/s.kind=5\/s.kind=6\/s.kind=7:=by omega
    rw[hmid];clear hmid hm hmap;rcases hks with k | k | k | k | k | k | k
    all_goals(try(exfalso;simp only[decide_eq_false_iff_not]at e7;omega))
    all_goals(
     simp only[k]at f1 f2 f3 f4 f5 f6 f7;simp -dsimp only[go_sem,seval,hkk,k,f1,f2,f3,f4,f5,f6,f7];refine csplit (fun h=> ?_) (fun h=> ?_)<;>(try rw[h])<;>(try simp only[zab]at h)<;>(try simp -dsimp only[go_sem,seval])
     all_goals(simp[kindOk,k,h])))
end Rg
end
section
namespace Rg
open Go
theorem thread1Is (p:Prog):IsF (.fn 103 [] [zaF p]) (fun m=>inR m p.modules.length):=by
 refine IsP.isF ⟨by simp[zaF,T.norm],fun n=> ?_⟩;simp only[List.map_cons,List.map_nil,zaF]
 (refine den_ofY Γ103 rfl ?_;dsimp only[f103])
 have h1:=zaL n p.modules.length;simp -dsimp only[go_sem,seval,h1]
def zqW (x:Thread):T:=.ip [.str x.name,ti x.points,.sl (x.asserts.map Expr.enc),ints x.modules,.sl (x.steps.map Step.enc),.sl (x.loops.map Loop.enc),tb x.asleep]
def zm0 (l:Loop):T:=.ip [ti l.head,ints l.body,ti l.variant.op,ti l.variant.w,ti l.variant.n,.sl (l.variant.kids.map Expr.enc)]
theorem thread2Is (x:Thread) (l:Loop):IsF (.fn 106 [] [zqW x,zm0 l]) (fun q=>inR q x.points&&decide (q≠l.head)):=by
 refine IsP.isF ⟨by simp[zqW,zm0,T.norm],fun n=> ?_⟩;simp only[List.map_cons,List.map_nil,zqW,zm0]
 (refine den_ofY Γ106 rfl ?_;dsimp only[f106])
 have h1:=zaL n x.points;simp -dsimp only[go_sem,seval,h1]
 repeat'(refine csplit (fun h=> ?_) (fun h=> ?_)<;>(try rw[h])<;>(try simp only[zab]at h)<;>(try simp -dsimp only[go_sem,seval]))
 all_goals(simp[*])
theorem zo2 (p:Prog) (t:Int) (e:Expr) (pair:Bool):Den Γ G 99 [(.agg [.t (.sl ((p).cells.map (Cell.enc))),.t (.sl ((p).modules.map (Contract.enc))),.t (.sl ((p).locks.map (Lock.enc))),.t (.sl ((p).threads.map (Thread.enc)))]),(.agg [.t (ti (e).op),.t (ti (e).w),.t (ti (e).n),.t (.sl ((e).kids.map (Expr.enc)))]),vb pair,.t (.fn 134 [] [zaF p,.ip [.fn 146 [] [zaF p,.ip [ti t]]]])]=some (vb (truthOk p e pair t)):=by
 rw[zi5 p e pair _ _ (seesF p t),truthOk,overOk,zeJ]
theorem zmU (p:Prog) (t:Int) (e:Expr):Den Γ G 108 [(.agg [.t (ti (e).op),.t (ti (e).w),.t (ti (e).n),.t (.sl ((e).kids.map (Expr.enc)))]),.t (.fn 134 [] [zaF p,.ip [.fn 146 [] [zaF p,.ip [ti t]]]])]=some (vb (overOk p e true t)):=by
 rw[zcy e _ _ (seesF p t),overOk,zeJ]
def HT (p:Prog) (x:Thread) (n k:Nat) (es:List (T×V)) (h:Nat->Option O) (y:Nat):Prop:=
 h (n+0)=some (.rows 4 [[.t (.sl (p.cells.map Cell.enc)),.t (.sl (p.modules.map Contract.enc)),.t (.sl (p.locks.map Lock.enc)),.t (.sl (p.threads.map Thread.enc))]] false)/\
 h (n+1)=some (.rows 7 [[.t (.str x.name),.t (ti x.points),.t (.sl (x.asserts.map Expr.enc)),.t (ints x.modules),.t (.sl (x.steps.map Step.enc)),.t (.sl (x.loops.map Loop.enc)),.t (tb x.asleep)]] false)/\
 h k=some (.map es)/\n+2<=y
set_option maxHeartbeats 4000000 in
theorem threadP_den (p:Prog) (hs:p.sane) (i:Nat) (x:Thread) (hx:p.threads[i]? =some x) (hxp:x.points<2^48) (H:Nat->Option O) (n k:Nat) (hkn:k<n) (hmap:H k=some (.map (setS ((p.threads.take i).map Thread.name)))):
 ∃r h' n',DenR Γ G 83 [(.agg [.t (.sl ((p).cells.map (Cell.enc))),.t (.sl ((p).modules.map (Contract.enc))),.t (.sl ((p).locks.map (Lock.enc))),.t (.sl ((p).threads.map (Thread.enc)))]),vi i,(.agg [.t (.str (x).name),.t (ti (x).points),.t (.sl ((x).asserts.map Expr.enc)),.t (ints (x).modules),.t (.sl ((x).steps.map Step.enc)),.t (.sl ((x).loops.map Loop.enc)),.t (tb (x).asleep)]),.mm k] H n=some (r,h',n')/\(n<=n'/\r= .tup [vi (threadErr p i x).1,vi (threadErr p i x).2])/\((threadErr p i x).1=0->h' k=some (.map (setS ((p.threads.take (i+1)).map Thread.name)))):=by
 have hxm:=List.mem_of_getElem? hx;obtain⟨s1,s2,s3,s4,s5⟩:=hs.thr x hxm;have hl:=zcZ x.name;have hne0: ¬k=n:=by omega
 have hne1:=zkU hkn;have hne2:=zhQ hkn;have hraw:=fun H' n' hH'=>zfk k x.name ((p.threads.take i).map Thread.name) H' n' hH'
 have hany:((p.threads.take i).map Thread.name).any (fun d=>d.toList==x.name.toList)=(p.threads.take i).any (fun d=>d.name.toList==x.name.toList):=by rw[List.any_map];rfl
 (refine denR_ofY Γ83 rfl ?_;dsimp only[f83])
 simp -dsimp only[go_sem,seval,hl];refine csplit (fun h=> ?_) (fun h=> ?_)<;>(try rw[h])<;>(try simp only[zab]at h)<;>(try simp -dsimp only[go_sem,seval])
 ·have:threadErr p i x=(1,-1):=by rw[threadErr,if_pos (by simp[h])]
  rw[this];exact⟨⟨by simp -dsimp only[go_sem,seval];omega,by simp -dsimp only[go_sem,seval]⟩,fun h0=>by simp at h0⟩
 ·have e1:isLabel x.name=true:=by assumption
  refine zav (hraw _ _ (by simp -dsimp only[go_sem,seval,hne1,hmap])) ?_;rintro r h' n' ⟨⟨hn',rfl⟩,es,he,hes⟩;rw[hany]at hes;have q1: ¬n+1=k:=by omega
  have q2: ¬n+0=k:=by omega
  have q3: ¬n+0=n+1:=by omega
  have g4:h' (n+0)=some (.rows 4 [[.t (.sl (p.cells.map Cell.enc)),.t (.sl (p.modules.map Contract.enc)),.t (.sl (p.locks.map Lock.enc)),.t (.sl (p.threads.map Thread.enc))]] false):=by
   rw[he];simp -dsimp only[go_sem,seval,q2,q3]
  have g6:h' (n+1)=some (.rows 7 [[.t (.str x.name),.t (ti x.points),.t (.sl (x.asserts.map Expr.enc)),.t (ints x.modules),.t (.sl (x.steps.map Step.enc)),.t (.sl (x.loops.map Loop.enc)),.t (tb x.asleep)]] false):=by
   rw[he];simp -dsimp only[go_sem,seval,q1]
  have gk:h' k=some (.map es):=by rw[he];simp -dsimp only[go_sem,seval]
  clear he;simp -dsimp only[go_sem,seval,hany];refine csplit (fun h=> ?_) (fun h=> ?_)<;>(try rw[h])<;>(try simp only[zab]at h)<;>(try simp -dsimp only[go_sem,seval,g6])
  ·have:threadErr p i x=(41,-1):=by rw[threadErr,if_neg (by simp[e1]),if_pos h]
   rw[this];exact⟨⟨by simp -dsimp only[go_sem,seval];omega,by simp -dsimp only[go_sem,seval]⟩,fun h0=>by simp at h0⟩
  ·have e2:(p.threads.take i).any (fun d=>d.name.toList==x.name.toList)=false:=by assumption
   rw[hes e2,show(p.threads.take i).map Thread.name++[x.name]=(p.threads.take (i+1)).map Thread.name from by rw[zae hx];simp]at gk;clear hes hraw hmap
   by_cases hpt:x.points<1\/ ¬(x.asserts.length:Int)=x.points\/ ¬(x.modules.length:Int)=x.points
   ·have:threadErr p i x=(1,-1):=by rw[threadErr,if_neg (by simp[e1]),if_neg (by simp[e2]),if_pos hpt]
    rw[this]
    repeat'(refine csplit (fun h=> ?_) (fun h=> ?_)<;>(try rw[h])<;>(try simp only[zab]at h)<;>(try simp -dsimp only[go_sem,seval,g6]))
    all_goals first
     | (exfalso;omega)
     | exact⟨⟨by simp -dsimp only[go_sem,seval];omega,by simp -dsimp only[go_sem,seval]⟩,fun h0=>by simp at h0⟩
   ·have f1: ¬x.points<1:=by omega
    have f2:(x.asserts.length:Int)=x.points:=by omega
    have f3:(x.modules.length:Int)=x.points:=by omega
    have hth:threadErr p i x=if !x.modules.all (fun m=>inR m p.modules.length)then(1,-1)
     else if !x.asserts.all (fun e=>truthOk p e false i)then(60,-1)
     else if ¬(feGo (fun _ s=>stepErr p i x.points s) 0 x.steps).1=0 then feGo (fun _ s=>stepErr p i x.points s) 0 x.steps
     else((feGo (fun _ l=>zaA p i x.points l) 0 x.loops).1,-1):=by
     rw[threadErr,if_neg (by simp[e1]),if_neg (by simp[e2]),if_neg hpt]
    have f2':decide (¬(x.asserts.length:Int)=x.points)=false:=by simp[f2]
    have f3':decide (¬(x.modules.length:Int)=x.points)=false:=by simp[f3]
    have hwi:=zbW _ _ (thread1Is p) x.modules (by omega);simp only[zaF]at hwi;simp -dsimp only[go_sem,seval,f1,f2',f3',g6,g4,hwi];have hvis:=zc9 p i;refine csplit (fun h=> ?_) (fun h=> ?_)<;>(try rw[h])<;>(try simp only[zab]at h)<;>(try simp -dsimp only[go_sem,seval,g4,hvis,g6])
    ·have:threadErr p i x=(1,-1):=by rw[hth];simp[h]
     rw[this];exact⟨⟨by simp -dsimp only[go_sem,seval];omega,by simp -dsimp only[go_sem,seval]⟩,fun h0=>by simp at h0⟩
    ·rw[h]at hth;simp only[Bool.not_true,zG,if_false]at hth;clear hwi h;refine zaj 147429837401600561920 x.asserts.length (fun j f h y=>(f 57).v=vi j/\HT p x n k (setS ((p.threads.take (i+1)).map Thread.name)) h y/\x.asserts.all (fun e=>truthOk p e false i)=(x.asserts.drop j).all (fun e=>truthOk p e false i)) rfl ⟨by simp -dsimp only[go_sem,seval],⟨g4,g6,gk,by simp -dsimp only[go_sem,seval];omega⟩,rfl⟩ ?_;clear g4 g6 gk;rintro j f u hh y bs hj ⟨h57,⟨g4,g6,gk,gn⟩,hall⟩;have hw:=zah j (by omega);simp -dsimp only[go_sem,seval,h57];refine csplit (fun h=> ?_) (fun h=> ?_)<;>(try rw[h])<;>(try simp only[zab]at h)<;>(try simp -dsimp only[go_sem,seval,h57])
     ·obtain⟨e,he,_⟩:=zaf ‹j<x.asserts.length›;have hb:=zo2 p i e false;simp -dsimp only[go_sem,seval,h57,he,g4,hb];refine csplit (fun h=> ?_) (fun h=> ?_)<;>(try rw[h])<;>(try simp only[zab]at h)<;>(try simp -dsimp only[go_sem,seval,h57])
      ·have:threadErr p i x=(60,-1):=by rw[hth,hall,zaM he h];simp
       rw[this];exact⟨⟨by simp -dsimp only[go_sem,seval];omega,by simp -dsimp only[go_sem,seval]⟩,fun h0=>by simp at h0⟩
      ·refine⟨by omega,by simp -dsimp only[go_sem,seval,hw],⟨by simp -dsimp only[go_sem,seval,g4],by simp -dsimp only[go_sem,seval,g6],by simp -dsimp only[go_sem,seval,gk],by simp -dsimp only[go_sem,seval];omega⟩,?_⟩;rw[hall,zaN he h]
     ·have:j=x.asserts.length:=by omega
      subst this;rw[za0]at hall;rw[hall]at hth;simp only[Bool.not_true,zG,if_false]at hth;clear hall h57 hw;simp -dsimp only[go_sem,seval,g6];refine zaj 38684445636047416179352320 x.steps.length (fun j f h y=>(f 70).v=vi j/\HT p x n k (setS ((p.threads.take (i+1)).map Thread.name)) h y/\feGo (fun _ s=>stepErr p i x.points s) 0 x.steps=feGo (fun _ s=>stepErr p i x.points s) j (x.steps.drop j)) rfl ⟨by simp -dsimp only[go_sem,seval],⟨by simp -dsimp only[go_sem,seval,g4],by simp -dsimp only[go_sem,seval,g6],by simp -dsimp only[go_sem,seval,gk],by simp -dsimp only[go_sem,seval];omega⟩,rfl⟩ ?_;clear g4 g6 gk;rintro j f u hh y bs hj ⟨h70,⟨g4,g6,gk,gn⟩,hm⟩;have hw:=zah j (by omega);simp -dsimp only[go_sem,seval,h70];refine csplit (fun h=> ?_) (fun h=> ?_)<;>(try rw[h])<;>(try simp only[zab]at h)<;>(try simp -dsimp only[go_sem,seval,h70])
      ·obtain⟨s,hsx,hsm⟩:=zaf ‹j<x.steps.length›;have hst:=zj9 p i x ⟨by omega,hxp⟩ s (hs.sets x hxm s hsm);simp -dsimp only[go_sem,seval,h70,hsx,g4,g6,hst];refine csplit (fun h=> ?_) (fun h=> ?_)<;>(try rw[h])<;>(try simp only[zab]at h)<;>(try simp -dsimp only[go_sem,seval,h70])
       ·have h2:=hm.trans (fe_stop (f:=fun _ s=>stepErr p i x.points s) hsx (by simpa using h));have:threadErr p i x=(stepErr p i x.points s,(j:Int)):=by rw[hth,h2,if_pos (by simpa using h)]
        rw[this];exact⟨⟨by simp -dsimp only[go_sem,seval];omega,by simp -dsimp only[go_sem,seval]⟩,fun h0=>absurd h0 h⟩
       ·refine⟨by omega,by simp -dsimp only[go_sem,seval,hw],⟨by simp -dsimp only[go_sem,seval,g4],by simp -dsimp only[go_sem,seval,g6],by simp -dsimp only[go_sem,seval,gk],by simp -dsimp only[go_sem,seval];omega⟩,?_⟩;rw[hm,zbh hsx (by simpa using h)]
      ·have:j=x.steps.length:=by omega
       subst this;rw[zbQ]at hm;rw[hm,if_neg (by simp)]at hth;clear hm h70 hw;simp -dsimp only[go_sem,seval,g6];refine zaj 10633823965969841973409111413518369536 x.loops.length (fun j f h y=>(f 88).v=vi j/\HT p x n k (setS ((p.threads.take (i+1)).map Thread.name)) h y/\feGo (fun _ l=>zaA p i x.points l) 0 x.loops=feGo (fun _ l=>zaA p i x.points l) j (x.loops.drop j)) rfl ⟨by simp -dsimp only[go_sem,seval],⟨by simp -dsimp only[go_sem,seval,g4],by simp -dsimp only[go_sem,seval,g6],by simp -dsimp only[go_sem,seval,gk],by simp -dsimp only[go_sem,seval];omega⟩,rfl⟩ ?_;clear g4 g6 gk;rintro j f u hh y bs hj ⟨h88,⟨g4,g6,gk,gn⟩,hm⟩;have hw:=zah j (by omega);simp -dsimp only[go_sem,seval,h88];refine csplit (fun h=> ?_) (fun h=> ?_)<;>(try rw[h])<;>(try simp only[zab]at h)<;>(try simp -dsimp only[go_sem,seval,h88])
       ·obtain⟨l,hlx,hlm⟩:=zaf ‹j<x.loops.length›;have hbl:=hs.loops x hxm l hlm
        have hstop: ∀k':Int,k'≠0->zaA p i x.points l=k'->threadErr p i x=(k',-1):=fun k' hk' h0=>by
         have h2:=hm.trans (fe_stop (f:=fun _ l=>zaA p i x.points l) hlx (by rw[h0];exact hk'));rw[hth,h2,h0]
        have hin:=zaL l.head x.points;have hri:=zc5 l.body (by omega);have hwi:=zbW _ _ (thread2Is x l) l.body (by omega);simp only[zqW,zm0]at hwi;have hv:=zcN l.variant p.cells false;have hov:=zmU p i l.variant;have r1: ¬n=y+2:=by omega
        have r2: ∀a b:Nat,¬n+0=y+a+b:=by intros;omega
        have r3: ∀a b:Nat,¬k=y+a+b:=by intros;omega
        simp -dsimp only[go_sem,seval,h88,hlx,g4,g6,r1,r2,hin];refine csplit (fun h=> ?_) (fun h=> ?_)<;>(try rw[h])<;>(try simp only[zab]at h)<;>(try simp -dsimp only[go_sem,seval,h88,r1,r2,g4,g6,hri])
        ·rw[hstop 1 (by decide) (by simp[zaA,h])];exact⟨⟨by simp -dsimp only[go_sem,seval];omega,by simp -dsimp only[go_sem,seval]⟩,fun h0=>by simp at h0⟩
        ·have u1:inR l.head x.points=true:=by assumption
         refine csplit (fun h=> ?_) (fun h=> ?_)<;>(try rw[h])<;>(try simp only[zab]at h)<;>(try simp -dsimp only[go_sem,seval,h88,r1,r2,g4,g6,hwi])
         ·rw[hstop 1 (by decide) (by simp[zaA,h])];exact⟨⟨by simp -dsimp only[go_sem,seval];omega,by simp -dsimp only[go_sem,seval]⟩,fun h0=>by simp at h0⟩
         ·have u2:rising l.body=true:=by assumption
          refine csplit (fun h=> ?_) (fun h=> ?_)<;>(try rw[h])<;>(try simp only[zab]at h)<;>(try simp -dsimp only[go_sem,seval,h88,r1,r2,g4,g6,hv])
          ·rw[hstop 1 (by decide) (by rw[zaA,if_pos (by rw[h];simp)])];exact⟨⟨by simp -dsimp only[go_sem,seval];omega,by simp -dsimp only[go_sem,seval]⟩,fun h0=>by simp at h0⟩
          ·have u3:(l.body.all fun q=>inR q x.points&&decide (q≠l.head))=true:=by assumption
           have hle:zaA p i x.points l=if !l.variant.valid p.cells false || !overOk p l.variant true i then 60 else 0:=by
            rw[zaA,if_neg (by rw[u1,u2,u3];simp)]
           refine csplit (fun h=> ?_) (fun h=> ?_)<;>(try rw[h])<;>(try simp only[zab]at h)<;>(try simp -dsimp only[go_sem,seval,h88,r1,r2,g4,g6,hov])
           ·rw[hstop 60 (by decide) (by rw[hle];simp[h])];exact⟨⟨by simp -dsimp only[go_sem,seval];omega,by simp -dsimp only[go_sem,seval]⟩,fun h0=>by simp at h0⟩
           ·have u4:l.variant.valid p.cells false=true:=by assumption
            refine csplit (fun h=> ?_) (fun h=> ?_)<;>(try rw[h])<;>(try simp only[zab]at h)<;>(try simp -dsimp only[go_sem,seval,h88])
            ·rw[hstop 60 (by decide) (by rw[hle];simp[h])];exact⟨⟨by simp -dsimp only[go_sem,seval];omega,by simp -dsimp only[go_sem,seval]⟩,fun h0=>by simp at h0⟩
            ·refine⟨by omega,by simp -dsimp only[go_sem,seval,hw],⟨by simp -dsimp only[go_sem,seval,g4,r2],by simp -dsimp only[go_sem,seval,g6,r1],by simp -dsimp only[go_sem,seval,gk,r3],by simp -dsimp only[go_sem,seval];omega⟩,?_⟩;rw[hm,zbh hlx (by rw[hle];simp[h,u4])]
       ·have:j=x.loops.length:=by omega
        subst this;rw[zbQ]at hm;rw[hth,hm];exact⟨⟨by simp -dsimp only[go_sem,seval];omega,by simp -dsimp only[go_sem,seval]⟩,fun _=>by simp -dsimp only[go_sem,seval,gk]⟩
end Rg
end
section
namespace Rg
open Go
@[go_sem]theorem ztO (g:Nat) (c:List T) (K:Nat->List V->List V->Prop) (w:WK K):fnK (some (.t (.fa g c))) K w=K g [.agg (c.map V.t)] []:=rfl
theorem zep (p:Prog) (hs:p.sane):Den Γ G 64 [(.agg [.t (.sl ((p).cells.map (Cell.enc))),.t (.sl ((p).modules.map (Contract.enc))),.t (.sl ((p).locks.map (Lock.enc))),.t (.sl ((p).threads.map (Thread.enc)))])]=some (.tup [vi (validM p).1,vi (validM p).2.1,vi (validM p).2.2]):=by
 (refine den_ofY Γ64 rfl ?_;dsimp only[f64])
 have h1:=zhV p hs;simp -dsimp only[go_sem,seval,h1];refine csplit (fun h=> ?_) (fun h=> ?_)<;>(try rw[h])<;>(try simp only[zab]at h)<;>(try simp -dsimp only[go_sem,seval])
 ·have h0: ¬(limitsM p).1=0:=by simpa using h
  have:validM p=((limitsM p).1,(limitsM p).2,-1):=by rw[validM,if_pos h0]
  rw[this];simp
 ·have h0:(limitsM p).1=0:=by simpa using h
  obtain⟨⟨l1,l2,l3,l4⟩,l5⟩:=limits_points h0
  have hv1:validM p=if ¬cellsM p=0 then(cellsM p,-1,-1)else if ¬modulesM p=0 then(modulesM p,-1,-1)else if ¬locksM p=0 then(locksM p,-1,-1)else thrGo p 0 p.threads:=by
   rw[validM,if_neg (by simpa using h0)]
  have c1:=zjP p hs;have c2:=zgZ p hs;have c3:=zjs p hs;refine zbg ?_;simp -dsimp only[go_sem,seval,c1];refine csplit (fun h=> ?_) (fun h=> ?_)<;>(try rw[h])<;>(try simp only[zab]at h)<;>(try simp -dsimp only[go_sem,seval])
  ·have:validM p=(cellsM p,-1,-1):=by rw[hv1,if_pos (by simpa using h)]
   rw[this];simp
  ·have h2:cellsM p=0:=by simpa using h
   rw[if_neg (by simpa using h2)]at hv1;refine zbg ?_;simp -dsimp only[go_sem,seval,c2];refine csplit (fun h=> ?_) (fun h=> ?_)<;>(try rw[h])<;>(try simp only[zab]at h)<;>(try simp -dsimp only[go_sem,seval])
   ·have:validM p=(modulesM p,-1,-1):=by rw[hv1,if_pos (by simpa using h)]
    rw[this];simp
   ·have h3:modulesM p=0:=by simpa using h
    rw[if_neg (by simpa using h3)]at hv1;refine zbg ?_;simp -dsimp only[go_sem,seval,c3];refine csplit (fun h=> ?_) (fun h=> ?_)<;>(try rw[h])<;>(try simp only[zab]at h)<;>(try simp -dsimp only[go_sem,seval])
    ·have:validM p=(locksM p,-1,-1):=by rw[hv1,if_pos (by simpa using h)]
     rw[this];simp
    ·have h4:locksM p=0:=by simpa using h
     rw[if_neg (by simpa using h4)]at hv1;refine zbg ?_;simp -dsimp only[go_sem,seval];refine zaj 73786835557349912604 p.threads.length (fun i f h y=>(f 47).v=vi i/\56<y/\h 56=some (.map (setS ((p.threads.take i).map Thread.name)))/\validM p=thrGo p i (p.threads.drop i)) rfl ⟨by simp -dsimp only[go_sem,seval],by simp -dsimp only[go_sem,seval],by simp -dsimp only[go_sem,seval];rfl,hv1⟩ ?_;rintro i f u hh y bs hi ⟨h47,hy,hmap,hm⟩;have hw:=zah i (by omega);simp -dsimp only[go_sem,seval,h47];refine csplit (fun h=> ?_) (fun h=> ?_)<;>(try rw[h])<;>(try simp only[zab]at h)<;>(try simp -dsimp only[go_sem,seval,h47])
     ·obtain⟨x,hx,hxm⟩:=zaf ‹i<p.threads.length›;simp -dsimp only[go_sem,seval,h47,hx];refine zav (threadP_den p hs i x hx (by have:=(l5 x hxm).1;omega) hh _ 56 (by omega) hmap) ?_;rintro r h' n' ⟨⟨hn,rfl⟩,hk⟩;simp -dsimp only[go_sem,seval,h47];refine csplit (fun h=> ?_) (fun h=> ?_)<;>(try rw[h])<;>(try simp only[zab]at h)<;>(try simp -dsimp only[go_sem,seval,h47])
      ·rw[hm,ziq hx (by simpa using h)];simp
      ·have hk':=hk (by simpa using h);refine⟨by omega,by simp -dsimp only[go_sem,seval,hw],by simp -dsimp only[go_sem,seval];omega,by simp -dsimp only[go_sem,seval,hk'],?_⟩;rw[hm,zir hx (by simpa using h)]
     ·have:i=p.threads.length:=by omega
      subst this;rw[hm,zj3];simp
theorem fe_all {α:Type} {f:Nat->α->Int}: ∀{l:List α} {i:Nat},(feGo f i l).1=0<-> ∀(j:Nat) (x:α),l[j]? =some x->f (i+j) x=0
 | [],i=>by simp[feGo]
 | y::r,i=>by
   rw[feGo];constructor
   ·intro h j x hj;split at h
    ·rename_i h0
     cases j with
     | zero=>simp at hj;subst hj;exact h0
     | succ j=>
       have:=(fe_all (l:=r) (i:=i+1)).1 h j x (by simpa using hj);rwa[show i+1+j=i+(j+1)by omega]at this
    ·rename_i h0;exact absurd h h0
   ·intro h;have h0:f i y=0:=h 0 y rfl;rw[if_pos h0];refine(fe_all (l:=r) (i:=i+1)).2 fun j x hj=> ?_
    have:=h (j+1) x (by simpa using hj);rwa[show i+(j+1)=i+1+j by omega]at this
theorem thr_all {p:Prog}: ∀{l:List Thread} {i:Nat},(thrGo p i l).1=0<-> ∀(j:Nat) (x:Thread),l[j]? =some x->(threadErr p (i+j) x).1=0
 | [],i=>by simp[thrGo]
 | y::r,i=>by
   rw[thrGo];constructor
   ·intro h j x hj;split at h
    ·rename_i h0
     cases j with
     | zero=>simp at hj;subst hj;exact h0
     | succ j=>
       have:=(thr_all (l:=r) (i:=i+1)).1 h j x (by simpa using hj);rwa[show i+1+j=i+(j+1)by omega]at this
    ·rename_i h0;exact absurd h h0
   ·intro h;have h0:(threadErr p i y).1=0:=h 0 y rfl;rw[if_pos h0];refine(thr_all (l:=r) (i:=i+1)).2 fun j x hj=> ?_
    have:=h (j+1) x (by simpa using hj);rwa[show i+(j+1)=i+1+j by omega]at this
abbrev Prog.ok (p:Prog):Prop:=(validM p).1=0
structure Rules (p:Prog):Prop where
 lim:(limitsM p).1=0
 cells: ∀(i:Nat) (c:Cell),p.cells[i]? =some c->cellErr p i c=0
 modules: ∀(i:Nat) (m:Contract),p.modules[i]? =some m->modErr p i m=0
 locks: ∀(i:Nat) (l:Lock),p.locks[i]? =some l->lockErr p i l=0
 threads: ∀(i:Nat) (x:Thread),p.threads[i]? =some x->(threadErr p i x).1=0
theorem ok_iff {p:Prog}:p.ok<->Rules p:=by
 unfold Prog.ok validM;constructor
 ·intro h;split at h
  ·rename_i h0;exact absurd h h0
  ·rename_i h0;split at h
   ·rename_i h1;exact absurd h h1
   ·rename_i h1;split at h
    ·rename_i h2;exact absurd h h2
    ·rename_i h2;split at h
     ·rename_i h3;exact absurd h h3
     ·rename_i h3;simp only[Decidable.not_not]at h0 h1 h2 h3;exact⟨h0,by simpa[cellsM,fe_all]using h1,by simpa[modulesM,fe_all]using h2,by simpa[locksM,fe_all]using h3,by simpa[thr_all]using h⟩
 ·rintro⟨h0,h1,h2,h3,h4⟩;have g1:cellsM p=0:=by unfold cellsM;rw[fe_all];simpa using h1
  have g2:modulesM p=0:=by unfold modulesM;rw[fe_all];simpa using h2
  have g3:locksM p=0:=by unfold locksM;rw[fe_all];simpa using h3
  rw[if_neg (by simpa using h0),if_neg (by simpa using g1),if_neg (by simpa using g2),if_neg (by simpa using g3),thr_all];simpa using h4
theorem cellErr_iff {p:Prog} {i:Nat} {c:Cell}:cellErr p i c=0<->zaY p c=false/\(p.cells.take i).any (fun d=>d.name.toList==c.name.toList)=false:=by
 unfold cellErr;cases zaY p c<;>cases(p.cells.take i).any (fun d=>d.name.toList==c.name.toList)<;>simp
theorem stepErr_iff {p:Prog} {t n:Int} {s:Step}:stepErr p t n s=0<->zbl p n s=false/\(s.guard.valid p.cells false=true/\s.guard.w=1)/\(∀(j:Nat) (a:Assign),s.set[j]? =some a->setErr p s.set j a=0)/\kindOk p t s=true:=by
 unfold stepErr;have hfe:(feGo (setErr p s.set) 0 s.set).1=0<-> ∀(j:Nat) (a:Assign),s.set[j]? =some a->setErr p s.set j a=0:=by rw[fe_all];simp
 cases zbl p n s
 ·cases s.guard.valid p.cells false
  ·simp
  ·by_cases hw:s.guard.w=1
   ·simp only[hw,ne_eq,not_true_eq_false,decide_false,Bool.not_true,Bool.or_false,zG,if_false,true_and]
    by_cases h0:(feGo (setErr p s.set) 0 s.set).1=0
    ·rw[if_neg (by simpa using h0)];have:=hfe.1 h0;cases kindOk p t s<;>simp_all
    ·rw[if_pos h0];constructor
     ·intro h;exact absurd h h0
     ·intro h;exact absurd (hfe.2 h.1) h0
   ·simp[hw]
 ·simp
theorem loopErr_iff {p:Prog} {t n:Int} {l:Loop}:zaA p t n l=0<->(inR l.head n=true/\rising l.body=true/\l.body.all (fun k=>inR k n&&decide (k≠l.head))=true)/\l.variant.valid p.cells false=true/\overOk p l.variant true t=true:=by
 unfold zaA;cases inR l.head n<;>cases rising l.body<;>cases l.body.all (fun k=>inR k n&&decide (k≠l.head))<;>cases l.variant.valid p.cells false<;>cases overOk p l.variant true t<;>simp
theorem threadErr_iff {p:Prog} {i:Nat} {x:Thread}:(threadErr p i x).1=0<->isLabel x.name=true/\(p.threads.take i).any (fun d=>d.name.toList==x.name.toList)=false/\(1<=x.points/\(x.asserts.length:Int)=x.points/\(x.modules.length:Int)=x.points)/\
 x.modules.all (fun m=>inR m p.modules.length)=true/\x.asserts.all (fun e=>truthOk p e false i)=true/\(∀(j:Nat) (s:Step),x.steps[j]? =some s->stepErr p i x.points s=0)/\(∀(j:Nat) (l:Loop),x.loops[j]? =some l->zaA p i x.points l=0):=by
 unfold threadErr;have hs:(feGo (fun _ s=>stepErr p i x.points s) 0 x.steps).1=0<-> ∀(j:Nat) (s:Step),x.steps[j]? =some s->stepErr p i x.points s=0:=by rw[fe_all]
 have hl:(feGo (fun _ l=>zaA p i x.points l) 0 x.loops).1=0<-> ∀(j:Nat) (l:Loop),x.loops[j]? =some l->zaA p i x.points l=0:=by rw[fe_all]
 rw[<- hs,<- hl];cases isLabel x.name
 ·simp
 ·cases(p.threads.take i).any (fun d=>d.name.toList==x.name.toList)
  ·by_cases h1:x.points<1\/ ¬(x.asserts.length:Int)=x.points\/ ¬(x.modules.length:Int)=x.points
   ·simp only[Bool.not_true,zG,if_false,if_pos h1];constructor
    ·intro h;cases h
    ·rintro⟨_,_,h,_⟩;omega
   ·have h1':1<=x.points/\(x.asserts.length:Int)=x.points/\(x.modules.length:Int)=x.points:=by omega
    simp only[Bool.not_true,zG,if_false,if_neg h1];cases x.modules.all (fun m=>inR m p.modules.length)
    ·simp
    ·cases x.asserts.all (fun e=>truthOk p e false i)
     ·simp
     ·by_cases h0:(feGo (fun _ s=>stepErr p i x.points s) 0 x.steps).1=0
      ·simp[h0,h1']
      ·simp[h0,h1']
  ·simp
theorem limits_iff {p:Prog}:(limitsM p).1=0<->(p.cells.length<=32/\p.modules.length<=6/\p.locks.length<=4/\p.threads.length<=4)/\ ∀x∈p.threads,x.points<=48/\x.steps.length<=64/\x.loops.length<=8:=by
 unfold limitsM;split
 ·rename_i h;constructor
  ·intro h;cases h
  ·rintro⟨h',_⟩;omega
 ·rename_i h;rw[fe_all];constructor
  ·intro h2;refine⟨by omega,fun x hx=> ?_⟩;obtain⟨j,hj,rfl⟩:=List.mem_iff_getElem.1 hx;have:=h2 j _ (zI hj);cases hb:zao p.threads[j]
   ·simp only[zao,Bool.or_eq_false_iff,decide_eq_false_iff_not]at hb;omega
   ·simp[hb]at this
  ·rintro⟨_,h2⟩ j x hx;have:=h2 x (List.mem_of_getElem? hx)
   have hb:zao x=false:=by
    simp only[zao,Bool.or_eq_false_iff,decide_eq_false_iff_not];omega
   simp[hb]
end Rg
end
section
set_option maxRecDepth 100000
namespace Rg
open Go
def zsK (ws:List (List UInt8)):List UInt8:=Go.Lib.join ws [32]++[10]
end Rg
end
section
set_option maxRecDepth 100000
namespace Rg
open Go
def loopW (l:Loop):List (List UInt8):=[[108,111,111,112],num l.head,l.variant.text]
def loopX (l:Loop):List UInt8:=zsK (loopW l++l.body.map num)
end Rg
end
section
set_option maxRecDepth 100000
namespace Rg
open Go
end Rg
end
section
set_option maxRecDepth 100000
namespace Rg
open Go
end Rg
end
section
namespace Rg
open Go
theorem zbe: ∀l:List Int,intsOf (rowsI l)=some l
 | []=>rfl
 | a::l=>by
   have:rowsI (a::l)=[.t (.int .i64 a)]::rowsI l:=rfl;rw[this,intsOf,zbe l];rfl
theorem zbw (l:List Int):ofInts l=rowsI l:=by simp[ofInts,rowsI]
def sortedM (l:List Int):List Int:=Go.Lib.compact (l.mergeSort fun x y=>decide (x<=y))
theorem zif (l:List Int) (x:Int):x∈Go.Lib.compact l<->x∈l:=by
 unfold Go.Lib.compact Go.Lib.compactUpTo;simp only[List.mem_map,List.mem_filter,List.mem_range];constructor
 ·rintro⟨j,⟨hj,_⟩,rfl⟩;simp[hj]
 ·intro hx;obtain⟨i,hi⟩:=List.getElem?_of_mem hx
  have key: ∀i:Nat,l[i]? =some x-> ∃a,(a<l.length/\Go.Lib.keeps l.toArray a=true)/\l.toArray[a]! =x:=by
   intro i
   induction i with
   | zero=>
     intro h;obtain⟨h1,h2⟩:=zH.1 h
     exact⟨0,⟨h1,by simp[Go.Lib.keeps]⟩,by simp[h1,h2]⟩
   | succ i ih=>
     intro h;obtain⟨h1,h2⟩:=zH.1 h
     by_cases he:l[i]? =some x
     ·exact ih he
     ·refine⟨i+1,⟨h1,?_⟩,by simp[h1,h2]⟩;have hi:i<l.length:=by omega
      have : ¬l[i+1]=l[i]:=by
       intro hh;rw[zI hi]at he;exact he (by rw[<- hh,h2])
      simp[Go.Lib.keeps,h1,hi,this]
  exact key i hi
theorem zhC (l:List Int) (x:Int):x∈sortedM l<->x∈l:=by
 rw[sortedM,zif,List.mem_mergeSort]
end Rg
end
section
namespace Rg
open Go
namespace Gr
end Gr
def Prog.stepAt (p:Prog) (t i:Nat):Step:=((p.threads.getD t default).steps).getD i default
def validB (p:Prog):Bool:=decide ((validM p).1=0)
namespace Gr
end Gr
def arr (l:List Nat):List V:=l.map fun x:Nat=> .t (.int .u64 x)
set_option maxHeartbeats 2000000
end Rg
end
section
set_option maxRecDepth 100000
namespace Rg
open Go
end Rg
end
section
namespace Rg
open Go
end Rg
end
