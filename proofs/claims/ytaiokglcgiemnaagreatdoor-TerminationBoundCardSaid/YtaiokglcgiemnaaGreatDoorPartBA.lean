/- Part of the proof of the laws of the package relyguardlaw36: an abstract machine for the program's functions, what they compute, and that the machine is the program's. No condition. (H09h H09i H10a H10b H10c H10d) -/
import Derived.Test.YtaiokglcgiemnaaGreatDoorPartAZ
set_option linter.unusedSimpArgs false
set_option linter.unusedVariables false
section
-- FULL
namespace Rg
open Go
set_option maxHeartbeats 4000000 in
theorem threadR_den (p:Prog) (hs:p.sane) (hcl:cellsM p=0) (t:Nat) (x:Thread) (hx:p.threads[t]? =some x) (hxp:x.points<2^48):
 Den Γ G 88 [(.agg [.t (.sl ((p).cells.map (Cell.enc))),.t (.sl ((p).modules.map (Contract.enc))),.t (.sl ((p).locks.map (Lock.enc))),.t (.sl ((p).threads.map (Thread.enc)))]),vi t]=some (.tup [vi (threadErr p t x).1,vi (threadErr p t x).2]):=by
 (refine den_ofY Γ88 rfl ?_;dsimp only[f88])
 have hct:=cells_thread hcl
 have hxm:=List.mem_of_getElem? hx
 obtain⟨s1,s2,s3,s4,s5⟩:=hs.thr x hxm
 have hl:=labelR_den x.name s1
 have ht0:(0:Int)<=(t:Int):=by omega
 have htl:t<p.threads.length:=(List.getElem?_eq_some_iff.1 hx).1
 have hpl:=hs.threads
 have hx':p.threads[(t:Int).toNat]? =some x:=by simpa using hx
 simp -dsimp -implicitDefEqProofs [go_sem,ht0,hx,hl]
 refine csplit (fun h=> ?_) (fun h=> ?_)<;>(try rw[h])<;>(try simp only[bools]at h)<;>(try simp -dsimp -implicitDefEqProofs [go_sem])
 ·have:threadErr p t x=(1,-1):=by rw[threadErr,if_pos (by simp[h])]
  rw[this];simp
 ·have e1:isLabel x.name=true:=by assumption
  refine loopY 274861129904 t (fun k f=>(f 7).v=vi k/\(p.threads.take k).any (fun d=>d.name.toList==x.name.toList)=false) rfl rfl ⟨by simp -dsimp -implicitDefEqProofs [go_sem],by simp⟩ ?_
  rintro k f u kk bb hk ⟨h7,hany⟩
  have hw:=wrapS k (by omega)
  simp -dsimp -implicitDefEqProofs [go_sem,h7]
  refine csplit (fun h=> ?_) (fun h=> ?_)<;>(try rw[h])<;>(try simp only[bools]at h)<;>(try simp -dsimp -implicitDefEqProofs [go_sem,h7])
  ·obtain⟨d,hd,hdm⟩:=get_of (show k<p.threads.length by omega)
   simp -dsimp -implicitDefEqProofs [go_sem,h7,hd]
   refine csplit (fun h=> ?_) (fun h=> ?_)<;>(try rw[h])<;>(try simp only[bools]at h)<;>(try simp -dsimp -implicitDefEqProofs [go_sem,h7])
   ·have:threadErr p t x=(41,-1):=by rw[threadErr,if_neg (by simp[e1]),if_pos (any_take_stop hd ‹k<t› (by simpa using h))]
    rw[this];simp
   ·refine⟨by omega,by simp -dsimp -implicitDefEqProofs [go_sem,hw],?_⟩
    rw[any_take_succ hd,hany];simpa using h
  ·have:k=t:=by omega
   subst this
   by_cases hpt:x.points<1\/ ¬(x.asserts.length:Int)=x.points\/ ¬(x.modules.length:Int)=x.points
   ·have:threadErr p k x=(1,-1):=by rw[threadErr,if_neg (by simp[e1]),if_neg (by simp[hany]),if_pos hpt]
    rw[this]
    repeat'(refine csplit (fun h=> ?_) (fun h=> ?_)<;>(try rw[h])<;>(try simp only[bools]at h)<;>(try simp -dsimp -implicitDefEqProofs [go_sem]))
    all_goals(exfalso;omega)
   ·have g1: ¬x.points<1:=by omega
    have g2:(x.asserts.length:Int)=x.points:=by omega
    have g3:(x.modules.length:Int)=x.points:=by omega
    have hth:threadErr p k x=if !x.modules.all (fun m=>inR m p.modules.length)then(1,-1)
     else if !x.asserts.all (fun e=>truthOk p e false k)then(60,-1)
     else if ¬(feGo (fun _ s=>stepErr p k x.points s) 0 x.steps).1=0 then feGo (fun _ s=>stepErr p k x.points s) 0 x.steps
     else((feGo (fun _ l=>loopErr p k x.points l) 0 x.loops).1,-1):=by
     rw[threadErr,if_neg (by simp[e1]),if_neg (by simp[hany]),if_neg hpt]
    have g2':decide (¬(x.asserts.length:Int)=x.points)=false:=by simp[g2]
    have g3':decide (¬(x.modules.length:Int)=x.points)=false:=by simp[g3]
    simp -dsimp -implicitDefEqProofs [go_sem,g1,g2',g3']
    refine loopY 18889321816290504999216 x.modules.length (fun i f=>(f 8).v=vi i/\x.modules.all (fun m=>inR m p.modules.length)=(x.modules.drop i).all (fun m=>inR m p.modules.length)) rfl rfl ⟨by simp -dsimp -implicitDefEqProofs [go_sem],rfl⟩ ?_
    rintro i f u kk bb hi ⟨h8,hall⟩
    have hw:=wrapS i (by omega)
    simp -dsimp -implicitDefEqProofs [go_sem,h8]
    refine csplit (fun h=> ?_) (fun h=> ?_)<;>(try rw[h])<;>(try simp only[bools]at h)<;>(try simp -dsimp -implicitDefEqProofs [go_sem,h8])
    ·obtain⟨m,hm,_⟩:=get_of ‹i<x.modules.length›
     have hin:=in_den m p.modules.length
     simp -dsimp -implicitDefEqProofs [go_sem,h8,hm,hin]
     refine csplit (fun h=> ?_) (fun h=> ?_)<;>(try rw[h])<;>(try simp only[bools]at h)<;>(try simp -dsimp -implicitDefEqProofs [go_sem,h8])
     ·have:threadErr p k x=(1,-1):=by rw[hth,hall,all_stop hm h];simp
      rw[this];simp
     ·refine⟨by omega,by simp -dsimp -implicitDefEqProofs [go_sem,hw],?_⟩
      rw[hall,all_step hm h]
    ·have:i=x.modules.length:=by omega
     subst this
     rw[all_end]at hall
     rw[hall]at hth
     simp only[Bool.not_true,Bool.false_eq_true,if_false]at hth
     clear hall h8 hw
     refine loopY 1237921149819448796318270000 x.asserts.length (fun i f=>(f 9).v=vi i/\x.asserts.all (fun e=>truthOk p e false k)=(x.asserts.drop i).all (fun e=>truthOk p e false k)) rfl rfl ⟨by simp -dsimp -implicitDefEqProofs [go_sem],rfl⟩ ?_
     rintro i f u kk bb hi ⟨h9,hall⟩
     have hw:=wrapS i (by omega)
     simp -dsimp -implicitDefEqProofs [go_sem,h9]
     refine csplit (fun h=> ?_) (fun h=> ?_)<;>(try rw[h])<;>(try simp only[bools]at h)<;>(try simp -dsimp -implicitDefEqProofs [go_sem,h9])
     ·obtain⟨e,he,_⟩:=get_of ‹i<x.asserts.length›
      have htr:=truthR_den hct e false k (by omega)
      simp -dsimp -implicitDefEqProofs [go_sem,h9,he,htr]
      refine csplit (fun h=> ?_) (fun h=> ?_)<;>(try rw[h])<;>(try simp only[bools]at h)<;>(try simp -dsimp -implicitDefEqProofs [go_sem,h9])
      ·have:threadErr p k x=(60,-1):=by rw[hth,hall,all_stop he h];simp
       rw[this];simp
      ·refine⟨by omega,by simp -dsimp -implicitDefEqProofs [go_sem,hw],?_⟩
       rw[hall,all_step he h]
     ·have:i=x.asserts.length:=by omega
      subst this
      rw[all_end]at hall
      rw[hall]at hth
      simp only[Bool.not_true,Bool.false_eq_true,if_false]at hth
      clear hall h9 hw
      refine loopY 649035869376814168186037142031408 x.steps.length (fun i f=>(f 10).v=vi i/\feGo (fun _ s=>stepErr p k x.points s) 0 x.steps=feGo (fun _ s=>stepErr p k x.points s) i (x.steps.drop i)) rfl rfl ⟨by simp -dsimp -implicitDefEqProofs [go_sem],rfl⟩ ?_
      rintro i f u kk bb hi ⟨h10,hm⟩
      have hw:=wrapS i (by omega)
      simp -dsimp -implicitDefEqProofs [go_sem,h10]
      refine csplit (fun h=> ?_) (fun h=> ?_)<;>(try rw[h])<;>(try simp only[bools]at h)<;>(try simp -dsimp -implicitDefEqProofs [go_sem,h10])
      ·obtain⟨s,hsx,hsm⟩:=get_of ‹i<x.steps.length›
       have hst:=stepR_den p hct k ht0 x hx' ⟨by omega,hxp⟩ s (hs.sets x hxm s hsm)
       simp -dsimp -implicitDefEqProofs [go_sem,h10,hsx,hst]
       refine csplit (fun h=> ?_) (fun h=> ?_)<;>(try rw[h])<;>(try simp only[bools]at h)<;>(try simp -dsimp -implicitDefEqProofs [go_sem,h10])
       ·have h2:=hm.trans (fe_stop hsx (by simpa using h))
        have:threadErr p k x=(stepErr p k x.points s,(i:Int)):=by rw[hth,h2,if_pos (by simpa using h)]
        rw[this];simp
       ·refine⟨by omega,by simp -dsimp -implicitDefEqProofs [go_sem,hw],?_⟩
        rw[hm,fe_step hsx (by simpa using h)]
      ·have:i=x.steps.length:=by omega
       subst this
       rw[fe_end]at hm
       rw[hm,if_neg (by simp)]at hth
       clear hm h10 hw
       refine loopY 11972621413014756705275549042294937043455087350935600 x.loops.length (fun i f=>(f 12).v=vi i/\feGo (fun _ l=>loopErr p k x.points l) 0 x.loops=feGo (fun _ l=>loopErr p k x.points l) i (x.loops.drop i)) rfl rfl ⟨by simp -dsimp -implicitDefEqProofs [go_sem],rfl⟩ ?_
       rintro i f u kk bb hi ⟨h12,hm⟩
       have hw:=wrapS i (by omega)
       simp -dsimp -implicitDefEqProofs [go_sem,h12]
       refine csplit (fun h=> ?_) (fun h=> ?_)<;>(try rw[h])<;>(try simp only[bools]at h)<;>(try simp -dsimp -implicitDefEqProofs [go_sem,h12])
       ·obtain⟨l,hlx,hlm⟩:=get_of ‹i<x.loops.length›
        have hbl:=hs.loops x hxm l hlm
        have hstop: ∀k':Int,k'≠0->loopErr p k x.points l=k'->threadErr p k x=(k',-1):=fun k' hk' h0=>by
         have h2:=hm.trans (fe_stop (f:=fun _ l=>loopErr p k x.points l) hlx (by rw[h0];exact hk'))
         rw[hth,h2,h0]
        have hin:=in_den l.head x.points
        have hri:=rising_den l.body (by omega)
        simp -dsimp -implicitDefEqProofs [go_sem,h12,hlx,hin]
        refine csplit (fun h=> ?_) (fun h=> ?_)<;>(try rw[h])<;>(try simp only[bools]at h)<;>(try simp -dsimp -implicitDefEqProofs [go_sem,h12,hri])
        ·rw[hstop 1 (by decide) (by simp[loopErr,h])];simp
        ·have f1:inR l.head x.points=true:=by assumption
         refine csplit (fun h=> ?_) (fun h=> ?_)<;>(try rw[h])<;>(try simp only[bools]at h)<;>(try simp -dsimp -implicitDefEqProofs [go_sem,h12])
         ·rw[hstop 1 (by decide) (by simp[loopErr,h])];simp
         ·have f2:rising l.body=true:=by assumption
          refine loopY 730750807776415717631811585530154072011383521328 l.body.length (fun j f'=>(f' 14).v=vi j/\l.body.all (fun q=>inR q x.points&&decide (q≠l.head))=(l.body.drop j).all (fun q=>inR q x.points&&decide (q≠l.head))) rfl rfl ⟨by simp -dsimp -implicitDefEqProofs [go_sem],rfl⟩ ?_
          rintro j f' u' kk' bb' hj ⟨h14,hall⟩
          have hw':=wrapS j (by omega)
          simp -dsimp -implicitDefEqProofs [go_sem,h14]
          refine csplit (fun h=> ?_) (fun h=> ?_)<;>(try rw[h])<;>(try simp only[bools]at h)<;>(try simp -dsimp -implicitDefEqProofs [go_sem,h14])
          ·obtain⟨q,hq,_⟩:=get_of ‹j<l.body.length›
           have hinq:=in_den q x.points
           simp -dsimp -implicitDefEqProofs [go_sem,h14,hq,hinq]
           repeat'(refine csplit (fun h=> ?_) (fun h=> ?_)<;>(try rw[h])<;>(try simp only[bools]at h)<;>(try simp -dsimp -implicitDefEqProofs [go_sem,h14,hq]))
           all_goals first
            | (rw[hstop 1 (by decide) (by rw[loopErr,if_pos (by rw[hall,all_stop hq (by simp_all)];simp)])];simp;done)
            | (refine⟨by omega,by simp -dsimp -implicitDefEqProofs [go_sem,hw'],?_⟩
               rw[hall,all_step hq (by simp_all)])
          ·have:j=l.body.length:=by omega
           subst this
           rw[all_end]at hall
           have hle:loopErr p k x.points l=if !l.variant.valid p.cells false || !overOk p l.variant true k then 60 else 0:=by
            rw[loopErr,if_neg (by rw[hall,f1,f2];simp)]
           have hv:=validE_den l.variant p.cells false
           cases hvv:l.variant.valid p.cells false
           ·rw[hvv]at hv
            simp -dsimp -implicitDefEqProofs [go_sem,h12,hv]
            rw[hstop 60 (by decide) (by rw[hle];simp[hvv])];simp
           ·rw[hvv]at hv
            have hov:=overV_den hct (valid_in hvv) true k (by omega) (.inl rfl)
            simp -dsimp -implicitDefEqProofs [go_sem,h12,hv,hov]
            refine csplit (fun h=> ?_) (fun h=> ?_)<;>(try rw[h])<;>(try simp only[bools]at h)<;>(try simp -dsimp -implicitDefEqProofs [go_sem,h12])
            ·rw[hstop 60 (by decide) (by rw[hle];simp[h])];simp
            ·refine⟨by omega,by simp -dsimp -implicitDefEqProofs [go_sem,hw],?_⟩
             rw[hm,fe_step hlx (by rw[hle];simp[h,hvv])]
       ·have:i=x.loops.length:=by omega
        subst this
        rw[fe_end]at hm
        rw[hth,hm];simp
end Rg
end
section
-- FULL
namespace Rg
open Go
theorem limits_points {p:Prog} (h:(limitsM p).1=0):(p.cells.length<=32/\p.modules.length<=6/\p.locks.length<=4/\p.threads.length<=4)/\ ∀x∈p.threads,x.points<=48/\x.steps.length<=64/\x.loops.length<=8:=by
 unfold limitsM at h
 split at h
 ·simp at h
 ·rename_i hb
  refine⟨by omega,?_⟩
  have key: ∀(l:List Thread) (i:Nat),(feGo (fun _ x=>if threadBad x then 2 else 0) i l).1=0-> ∀x∈l,threadBad x=false:=by
   intro l
   induction l with
   | nil=>intro i _ c hc;simp at hc
   | cons x r ih=>
     intro i h c hc
     rw[feGo]at h
     cases hb:threadBad x
     ·rw[hb,if_pos (by simp)]at h
      rcases List.mem_cons.1 hc with rfl | hc
      ·exact hb
      ·exact ih _ h c hc
     ·rw[hb,if_neg (by simp)]at h;simp at h
  intro x hx
  have:=key _ 0 h x hx
  simp only[threadBad,Bool.or_eq_false_iff,decide_eq_false_iff_not]at this
  omega
theorem validR_den (p:Prog) (hs:p.sane):Den Γ G 65 [(.agg [.t (.sl ((p).cells.map (Cell.enc))),.t (.sl ((p).modules.map (Contract.enc))),.t (.sl ((p).locks.map (Lock.enc))),.t (.sl ((p).threads.map (Thread.enc)))])]=some (.tup [vi (validM p).1,vi (validM p).2.1,vi (validM p).2.2]):=by
 (refine den_ofY Γ65 rfl ?_;dsimp only[f65])
 have h1:=limitsR_den p hs
 simp -dsimp -implicitDefEqProofs [go_sem,h1]
 refine csplit (fun h=> ?_) (fun h=> ?_)<;>(try rw[h])<;>(try simp only[bools]at h)<;>(try simp -dsimp -implicitDefEqProofs [go_sem])
 ·have h0: ¬(limitsM p).1=0:=by simpa using h
  have:validM p=((limitsM p).1,(limitsM p).2,-1):=by rw[validM,if_pos h0]
  rw[this];simp
 ·have h0:(limitsM p).1=0:=by simpa using h
  obtain⟨⟨l1,l2,l3,l4⟩,l5⟩:=limits_points h0
  have hv1:validM p=if ¬cellsM p=0 then(cellsM p,-1,-1)else if ¬modulesM p=0 then(modulesM p,-1,-1)else if ¬locksM p=0 then(locksM p,-1,-1)else thrGo p 0 p.threads:=by
   rw[validM,if_neg (by simpa using h0)]
  have c1:=cellsR_den p hs
  refine wL_step ?_
  simp -dsimp -implicitDefEqProofs [go_sem,c1]
  refine csplit (fun h=> ?_) (fun h=> ?_)<;>(try rw[h])<;>(try simp only[bools]at h)<;>(try simp -dsimp -implicitDefEqProofs [go_sem])
  ·have:validM p=(cellsM p,-1,-1):=by rw[hv1,if_pos (by simpa using h)]
   rw[this];simp
  ·have h2:cellsM p=0:=by simpa using h
   have c2:=modulesR_den p hs h2
   have c3:=locksR_den p hs h2
   rw[if_neg (by simpa using h2)]at hv1
   refine wL_step ?_
   simp -dsimp -implicitDefEqProofs [go_sem,c2]
   refine csplit (fun h=> ?_) (fun h=> ?_)<;>(try rw[h])<;>(try simp only[bools]at h)<;>(try simp -dsimp -implicitDefEqProofs [go_sem])
   ·have:validM p=(modulesM p,-1,-1):=by rw[hv1,if_pos (by simpa using h)]
    rw[this];simp
   ·have h3:modulesM p=0:=by simpa using h
    rw[if_neg (by simpa using h3)]at hv1
    refine wL_step ?_
    simp -dsimp -implicitDefEqProofs [go_sem,c3]
    refine csplit (fun h=> ?_) (fun h=> ?_)<;>(try rw[h])<;>(try simp only[bools]at h)<;>(try simp -dsimp -implicitDefEqProofs [go_sem])
    ·have:validM p=(locksM p,-1,-1):=by rw[hv1,if_pos (by simpa using h)]
     rw[this];simp
    ·have h4:locksM p=0:=by simpa using h
     rw[if_neg (by simpa using h4)]at hv1
     refine wL_step ?_
     simp -dsimp -implicitDefEqProofs [go_sem]
     refine loopY 288229276640085788 p.threads.length (fun i f=>(f 8).v=vi i/\validM p=thrGo p i (p.threads.drop i)) rfl rfl ⟨by simp -dsimp -implicitDefEqProofs [go_sem],hv1⟩ ?_
     rintro i f u kk bb hi ⟨h8,hm⟩
     have hw:=wrapS i (by omega)
     simp -dsimp -implicitDefEqProofs [go_sem,h8]
     refine csplit (fun h=> ?_) (fun h=> ?_)<;>(try rw[h])<;>(try simp only[bools]at h)<;>(try simp -dsimp -implicitDefEqProofs [go_sem,h8])
     ·obtain⟨x,hx,hxm⟩:=get_of ‹i<p.threads.length›
      have hth:=threadR_den p hs h2 i x hx (by have:=(l5 x hxm).1;omega)
      simp -dsimp -implicitDefEqProofs [go_sem,h8,hth]
      refine csplit (fun h=> ?_) (fun h=> ?_)<;>(try rw[h])<;>(try simp only[bools]at h)<;>(try simp -dsimp -implicitDefEqProofs [go_sem,h8])
      ·rw[hm,thr_stop hx (by simpa using h)];simp
      ·refine⟨by omega,by simp -dsimp -implicitDefEqProofs [go_sem,hw],?_⟩
       rw[hm,thr_step hx (by simpa using h)]
     ·have:i=p.threads.length:=by omega
      subst this
      rw[hm,thr_end];simp
end Rg
end
section
namespace Rg
open Go
def setS (l:List ByteArray):List (T×V):=l.map fun b=>(T.str b,V.agg [])
def setI (l:List Int):List (T×V):=l.map fun b=>(ti b,V.agg [])
theorem bytes_beq (a b:ByteArray):(a==b)=(a.toList==b.toList):=by
 rw[ByteArray.toList_eq,ByteArray.toList_eq]
 show(a.data==b.data)=_
 rw[Array.beq_toList]
@[go_sem]theorem keyOf_s (b:ByteArray):keyOf 2 (.t (.str b))=some (.str b):=rfl
@[go_sem]theorem keyOf_i (k:IntKind) (n:Int):keyOf 0 (.t (.int k n))=some (.int k n):=rfl
theorem findS (b:ByteArray): ∀l:List ByteArray,mapFind (.str b) (setS l)=some (if l.any (fun c=>c.toList==b.toList)then some (.agg [])else none)
 | []=>rfl
 | c::l=>by
   rw[setS,List.map_cons,mapFind,keyEq,bytes_beq]
   rw[show(b.toList==c.toList)=(c.toList==b.toList)from Bool.beq_comm]
   cases h:(c.toList==b.toList)
   ·simp only[]
    rw[show(l.map fun b=>(T.str b,V.agg []))=setS l from rfl,findS b l,List.any_cons,h,Bool.false_or]
   ·simp[h]
theorem putS (b:ByteArray): ∀l:List ByteArray,l.any (fun c=>c.toList==b.toList)=false->mapPut (.str b) (.agg []) (setS l)=some (setS (l++[b]))
 | [],_=>rfl
 | c::l,h=>by
   rw[List.any_cons,Bool.or_eq_false_iff]at h
   rw[setS,List.map_cons,mapPut,keyEq,bytes_beq,show(b.toList==c.toList)=(c.toList==b.toList)from Bool.beq_comm,h.1]
   simp only[]
   rw[show(l.map fun b=>(T.str b,V.agg []))=setS l from rfl,putS b l h.2];rfl
theorem putS2 (b:ByteArray): ∀l:List ByteArray,∃es,mapPut (.str b) (.agg []) (setS l)=some es
 | []=>⟨_,rfl⟩
 | c::l=>by
   rw[setS,List.map_cons,mapPut,keyEq]
   cases h:(b==c)
   ·simp only[]
    rw[show(l.map fun b=>(T.str b,V.agg []))=setS l from rfl]
    obtain⟨es,he⟩:=putS2 b l
    exact⟨_,by rw[he];rfl⟩
   ·exact⟨_,rfl⟩
theorem findI (b:Int): ∀l:List Int,mapFind (ti b) (setI l)=some (if l.any (fun c=>decide (c=b))then some (.agg [])else none)
 | []=>rfl
 | c::l=>by
   rw[setI,List.map_cons,mapFind,keyEq,if_pos rfl]
   by_cases h:c=b
   ·subst h;simp
   ·have e:(b==c)=false:=by simpa using fun h'=>h h'.symm
    rw[e]
    simp only[]
    rw[show(l.map fun b=>(ti b,V.agg []))=setI l from rfl,findI b l,List.any_cons]
    simp[h]
theorem putI (b:Int): ∀l:List Int,l.any (fun c=>decide (c=b))=false->mapPut (ti b) (.agg []) (setI l)=some (setI (l++[b]))
 | [],_=>rfl
 | c::l,h=>by
   rw[List.any_cons,Bool.or_eq_false_iff]at h
   have e:(b==c)=false:=by simpa using fun h'=>(by simpa using h.1: ¬c=b) h'.symm
   rw[setI,List.map_cons,mapPut,keyEq,if_pos rfl,e]
   simp only[]
   rw[show(l.map fun b=>(ti b,V.agg []))=setI l from rfl,putI b l h.2];rfl
theorem taken_full (k:Nat) (b:ByteArray) (l:List ByteArray) (H:Nat->Option O) (n:Nat) (hk:H k=some (.map (setS l))):
 ∃r h' n',DenR Γ G 97 [.mm k,.t (.str b)] H n=some (r,h',n')/\(n<=n'/\r=vb (l.any (fun c=>c.toList==b.toList)))/\
  ∃es,h'=updC H k (some (.map es))/\(l.any (fun c=>c.toList==b.toList)=false->es=setS (l++[b])):=by
 (refine denR_ofY Γ97 rfl ?_;dsimp only[f97])
 have h1:=findS b l
 cases ha:l.any (fun c=>c.toList==b.toList)
 ·rw[ha]at h1
  have h2:=putS b l ha
  simp -dsimp -implicitDefEqProofs only[go_sem,seval,hk,h1,h2,Option.getD_none,Option.getD_some,Option.isSome_none,Bool.false_eq_true,if_true,if_false]
  refine⟨⟨by simp -dsimp -implicitDefEqProofs only[go_sem,seval];omega,by simp -dsimp -implicitDefEqProofs only[go_sem,seval]⟩,_,by simp -dsimp -implicitDefEqProofs only[go_sem,seval],fun _=>rfl⟩
 ·rw[ha]at h1
  obtain⟨es,h2⟩:=putS2 b l
  simp -dsimp -implicitDefEqProofs only[go_sem,seval,hk,h1,h2,Option.getD_none,Option.getD_some,Option.isSome_none,Bool.false_eq_true,if_true,if_false]
  refine⟨⟨by simp -dsimp -implicitDefEqProofs only[go_sem,seval];omega,by simp -dsimp -implicitDefEqProofs only[go_sem,seval]⟩,es,by simp -dsimp -implicitDefEqProofs only[go_sem,seval],fun h=>by simp at h⟩
theorem taken_den (k:Nat) (b:ByteArray) (l:List ByteArray) (H:Nat->Option O) (n:Nat) (hk:H k=some (.map (setS l))):
 ∃r h' n',DenR Γ G 97 [.mm k,.t (.str b)] H n=some (r,h',n')/\r=vb (l.any (fun c=>c.toList==b.toList))/\(l.any (fun c=>c.toList==b.toList)=false->h' k=some (.map (setS (l++[b])))):=by
 obtain⟨r,h',n',hd,⟨_,hr⟩,es,rfl,he⟩:=taken_full k b l H n hk
 exact⟨r,_,n',hd,hr,fun h=>by rw[he h,updC_at,if_pos rfl]⟩
theorem OwnB.toT1 {h:Nat->Option O} {x:Nat} {v:V} {l:List Int} (o:OwnB h x v 1 (rowsI l)):Rg.toT1 h v=some (.t (ints l)):=by
 have:=own_reify o (ints_norm _)
 rcases o with⟨rfl,he⟩ | ⟨k,rfl,_,_⟩
 ·have:l=[]:=by simpa[rowsI]using he
  subst this;rfl
 ·simp only[Rg.toT1,this,Option.map_some]
theorem overP_den (e:Expr) (F:T) (P:Int->Bool) (hP:IsF F P):Den Γ G 108 [(.agg [.t (ti (e).op),.t (ti (e).w),.t (ti (e).n),.t (.sl ((e).kids.map (Expr.enc)))]),.t F]=some (vb ((e.sup 3).all P&&(e.sup 2).all P)):=by
 (refine den_ofY Γ108 rfl ?_;dsimp only[f108])
 have hn:=hP.1
 simp only[T.norm]at hn
 have l3:=sup_len 3 e
 have l2:=sup_len 2 e
 have h2:=within_den F P hP (e.sup 3) (by omega)
 have h3:=within_den F P hP (e.sup 2) (by omega)
 simp -dsimp -implicitDefEqProofs only[go_sem,seval]
 refine rawK_of (supportP_den e _ _) ?_
 rintro r h' n' ⟨v3,v2,rfl,o3,o2,_,_⟩
 have x3:=o3.valOf
 have x2:=o2.valOf
 have y3:=o3.toT1
 have y2:=o2.toT1
 simp only[Rg.toT1]at y3 y2
 cases ha:(e.sup 3).all P
 ·rw[ha]at h2
  simp -dsimp -implicitDefEqProofs only[go_sem,seval,h2,hn,x3,x2,y3,y2]
  simp
 ·rw[ha]at h2
  simp -dsimp -implicitDefEqProofs only[go_sem,seval,h2,h3,hn,x3,x2,y3,y2,Bool.true_and]
theorem bitP_den (p:Prog) (e:Expr) (pair:Bool) (F:T) (P:Int->Bool) (hP:IsF F P):Den Γ G 99 [(.agg [.t (.sl ((p).cells.map (Cell.enc))),.t (.sl ((p).modules.map (Contract.enc))),.t (.sl ((p).locks.map (Lock.enc))),.t (.sl ((p).threads.map (Thread.enc)))]),(.agg [.t (ti (e).op),.t (ti (e).w),.t (ti (e).n),.t (.sl ((e).kids.map (Expr.enc)))]),vb pair,.t F]=
 some (vb (e.valid p.cells pair&&decide (e.w=1)&&((e.sup 3).all P&&(e.sup 2).all P))):=by
 (refine den_ofY Γ99 rfl ?_;dsimp only[f99])
 have hn:=hP.1
 simp only[T.norm]at hn
 have h1:=validP_den e p.cells pair
 have h2:=overP_den e F P hP
 by_cases hw:e.w=1
 ·cases hv:e.valid p.cells pair
  ·rw[hv]at h1
   simp -dsimp -implicitDefEqProofs only[go_sem,seval,hw]
   rw[hw]at h1
   simp -dsimp -implicitDefEqProofs only[go_sem,seval,h1]
   simp
  ·rw[hv]at h1
   rw[hw]at h1 h2
   simp -dsimp -implicitDefEqProofs only[go_sem,seval,hw,h1,h2,hn,Bool.true_and,Bool.and_true]
 ·simp -dsimp -implicitDefEqProofs only[go_sem,seval,hw]
  simp
theorem limitsP_den (p:Prog) (hs:p.sane):Den Γ G 79 [(.agg [.t (.sl ((p).cells.map (Cell.enc))),.t (.sl ((p).modules.map (Contract.enc))),.t (.sl ((p).locks.map (Lock.enc))),.t (.sl ((p).threads.map (Thread.enc)))])]=some (.tup [vi (limitsM p).1,vi (limitsM p).2]):=by
 (refine den_ofY Γ79 rfl ?_;dsimp only[f79])
 simp -dsimp -implicitDefEqProofs only[go_sem,seval]
 by_cases hbig:(p.cells.length:Int)>32\/(p.modules.length:Int)>6\/(p.locks.length:Int)>4\/(p.threads.length:Int)>4
 ·have hm:limitsM p=(2,-1):=by rw[limitsM,if_pos hbig]
  rw[hm]
  repeat'(refine csplit (fun h=> ?_) (fun h=> ?_)<;>(try rw[h])<;>(try simp only[bools]at h)<;>(try simp -dsimp -implicitDefEqProofs only[go_sem,seval]))
  all_goals omega
 ·have hm:limitsM p=feGo (fun _ x=>if threadBad x then 2 else 0) 0 p.threads:=by rw[limitsM,if_neg hbig]
  have g1: ¬(p.cells.length:Int)>32:=by omega
  have g2: ¬(p.modules.length:Int)>6:=by omega
  have g3: ¬(p.locks.length:Int)>4:=by omega
  have g4: ¬(p.threads.length:Int)>4:=by omega
  simp -dsimp -implicitDefEqProofs only[go_sem,seval,g1,g2,g3,g4]
  refine loopY 72057576858058860 p.threads.length (fun i f=>(f 34).v=vi i/\limitsM p=feGo (fun _ x=>if threadBad x then 2 else 0) i (p.threads.drop i)) rfl rfl ⟨by simp -dsimp -implicitDefEqProofs only[go_sem,seval],hm⟩ ?_
  clear hm
  rintro i f u kk bb hi ⟨h4,hm⟩
  have hw:=wrapS i (by omega)
  simp -dsimp -implicitDefEqProofs only[go_sem,seval,h4]
  refine csplit (fun h=> ?_) (fun h=> ?_)<;>(try rw[h])<;>(try simp only[bools]at h)<;>(try simp -dsimp -implicitDefEqProofs only[go_sem,seval,h4])
  ·obtain⟨x,hx,_⟩:=get_of ‹i<p.threads.length›
   have hbad:threadBad x=true->limitsM p=(2,(i:Int)):=fun h0=>by rw[hm,fe_stop hx (by simp[h0])];simp[h0]
   simp -dsimp -implicitDefEqProofs only[go_sem,seval,h4,hx]
   repeat'(refine csplit (fun h=> ?_) (fun h=> ?_)<;>(try rw[h])<;>(try simp only[bools]at h)<;>(try simp -dsimp -implicitDefEqProofs only[go_sem,seval,h4]))
   ·rw[hbad (by simp[threadBad, *])];simp
   ·rw[hbad (by simp[threadBad, *])];simp
   ·rw[hbad (by simp[threadBad, *])];simp
   ·refine⟨by omega,by simp -dsimp -implicitDefEqProofs only[go_sem,seval,hw],?_⟩
    rw[hm,fe_step hx (by simp[threadBad, *])]
  ·have:i=p.threads.length:=by omega
   subst this
   rw[hm,fe_end];simp
theorem shl_one {w:Int} (h:0<=w/\w<=62):IntKind.i64.wrap (1*2^min w.toNat 64)=2^w.toNat:=by
 have:min w.toNat 64=w.toNat:=Nat.min_eq_left (by omega)
 rw[this,Int.one_mul]
 have h2:(2:Int)^w.toNat<=2^62:=pow2_le (by omega)
 have h3:=pow2_pos w.toNat
 exact wrap64 (by omega)
theorem u64_id {w:Int} (h:0<=w/\w<=62):IntKind.u64.wrap w=w:=by
 have h1:IntKind.u64.wrap w=w % 2^64:=by simp[IntKind.wrap,IntKind.signed,IntKind.bits]
 rw[h1];omega
theorem cellsP_den (p:Prog) (hs:p.sane):Den Γ G 80 [(.agg [.t (.sl ((p).cells.map (Cell.enc))),.t (.sl ((p).modules.map (Contract.enc))),.t (.sl ((p).locks.map (Lock.enc))),.t (.sl ((p).threads.map (Thread.enc)))])]=some (vi (cellsM p)):=by
 (refine den_ofY Γ80 rfl ?_;dsimp only[f80])
 simp -dsimp -implicitDefEqProofs only[go_sem,seval]
 have hbi:=hs.cells
 refine loopYH 4611686018427385892 p.cells.length (fun i f h x=>(f 11).v=vi i/\h 2=some (.map (setS ((p.cells.take i).map Cell.name)))/\cellsM p=(feGo (cellErr p) i (p.cells.drop i)).1) rfl ⟨by simp -dsimp -implicitDefEqProofs only[go_sem,seval],by simp -dsimp -implicitDefEqProofs only[go_sem,seval];rfl,rfl⟩ ?_
 rintro i f u hh x bs hi ⟨h11,hmap,hm⟩
 have hw:=wrapS i (by omega)
 simp -dsimp -implicitDefEqProofs only[go_sem,seval,h11]
 refine csplit (fun h=> ?_) (fun h=> ?_)<;>(try rw[h])<;>(try simp only[bools]at h)<;>(try simp -dsimp -implicitDefEqProofs only[go_sem,seval,h11])
 ·obtain⟨c,hc,hcm⟩:=get_of ‹i<p.cells.length›
  have hl:=labelP_den c.name
  have hb1:=below_den c.init (2^c.w.toNat)
  have hb2:=below_den c.thread p.threads.length
  have hb3:=below_den c.module p.modules.length
  have hbad:cellBad p c=true->cellsM p=1:=fun h0=>by
   have:cellErr p i c=1:=by simp[cellErr,h0]
   rw[hm,fe_stop hc (by simp[this])];exact this
  by_cases hb:cellBad p c=true
  ·rw[hbad hb]
   by_cases hww:1<=c.w/\c.w<=8
   ·have s1:=shl_one (w:=c.w) (by omega)
    have s2:=u64_id (w:=c.w) (by omega)
    have s3: ¬c.w<0:=by omega
    simp -dsimp -implicitDefEqProofs only[go_sem,seval,h11,hc,hl]
    repeat'(refine csplit (fun h=> ?_) (fun h=> ?_)<;>(try rw[h])<;>(try simp only[bools]at h)<;>(try simp -dsimp -implicitDefEqProofs only[go_sem,seval,h11,hb1,hb2,hb3,s1,s2,s3]))
    all_goals(exfalso;simp only[cellBad,inR,Bool.or_eq_true,Bool.not_eq_true',decide_eq_true_eq,decide_eq_false_iff_not]at *;simp_all;(try omega);done)
   ·have s3:c.w<1\/c.w>8:=by omega
    simp -dsimp -implicitDefEqProofs only[go_sem,seval,h11,hc,hl]
    refine csplit (fun h=> ?_) (fun h=> ?_)<;>(try rw[h])<;>(try simp only[bools]at h)<;>(try simp -dsimp -implicitDefEqProofs only[go_sem,seval,h11])
    refine csplit (fun h=> ?_) (fun h=> ?_)<;>(try rw[h])<;>(try simp only[bools]at h)<;>(try simp -dsimp -implicitDefEqProofs only[go_sem,seval,h11])
    refine csplit (fun h=> ?_) (fun h=> ?_)<;>(try rw[h])<;>(try simp only[bools]at h)<;>(try simp -dsimp -implicitDefEqProofs only[go_sem,seval,h11])
    all_goals(exfalso;omega)
  ·have hb':cellBad p c=false:=by simpa using hb
   obtain⟨b1,b2,b3,b4,b5,b6,b7,b8⟩:=cellBad_parts hb'
   have s1:=shl_one (w:=c.w) (by omega)
   have s2:=u64_id (w:=c.w) (by omega)
   have s3: ¬c.w<0:=by omega
   have s4: ¬c.w<1:=by omega
   have s5: ¬c.w>8:=by omega
   have e1:inR c.init (2^c.w.toNat)=true:=by simp[inR];omega
   rw[b1]at hl
   rw[e1]at hb1
   rw[b8]at hb3
   have hraw:=fun n=>taken_den 2 c.name ((p.cells.take i).map Cell.name) hh n hmap
   have hany:((p.cells.take i).map Cell.name).any (fun d=>d.toList==c.name.toList)=(p.cells.take i).any (fun d=>d.name.toList==c.name.toList):=by rw[List.any_map];rfl
   have hcs: ∀Q:Prop,(c.thread= -1->Q)->(¬c.thread= -1->inR c.thread p.threads.length=true->Q)->Q:=fun Q q1 q2=>by
    by_cases h:c.thread= -1
    ·exact q1 h
    ·exact q2 h (by simp[inR];omega)
   refine hcs _ (fun t1=> ?_) (fun t1 t2=> ?_)
   all_goals(
    (try rw[t2]at hb2)
    simp -dsimp -implicitDefEqProofs only[go_sem,seval,h11,hc,hl,hb1,hb2,hb3,s1,s2,s3,s4,s5,t1]
    refine rawK_of (hraw _) ?_
    rintro r h' n' ⟨rfl,hk'⟩
    rw[hany]at hk'
    simp -dsimp -implicitDefEqProofs only[go_sem,seval,h11,hany]
    refine csplit (fun h=> ?_) (fun h=> ?_)<;>(try rw[h])<;>(try simp only[bools]at h)<;>(try simp -dsimp -implicitDefEqProofs only[go_sem,seval,h11])
    ·have:cellErr p i c=41:=by rw[cellErr,if_neg hb,if_pos h]
     rw[hm,fe_stop hc (by simp[this])];exact this.symm
    ·refine⟨by omega,by simp -dsimp -implicitDefEqProofs only[go_sem,seval,hw],?_,?_⟩
     ·have hk2:=hk' h
      simp -dsimp -implicitDefEqProofs only[go_sem,seval,hk2]
      rw[take_succ_of hc];simp
     ·rw[hm,fe_step hc (by rw[cellErr,if_neg hb,if_neg (by simp[h])])])
 ·have:i=p.cells.length:=by omega
  subst this
  rw[hm,fe_end]
theorem sharedIs (p:Prog):IsF (.fa 100 [.sl (p.cells.map Cell.enc),.sl (p.modules.map Contract.enc),.sl (p.locks.map Lock.enc),.sl (p.threads.map Thread.enc)]) (ofThread p (-1)):=
 isF_fa (by simp[T.norm]) (fun n=>sharedP_den p n)
theorem sees_shared (p:Prog) (c:Int):sees p (-1) c=ofThread p (-1) c:=by simp[sees]
theorem mayP_shared (p:Prog):mayP p true (-1)=ofThread p (-1):=by funext c;simp[mayP,sees_shared]
theorem mayP_sees (p:Prog) (t:Int):mayP p true t=sees p t:=by funext c;simp[mayP]
theorem mayP_own (p:Prog) (t:Int):mayP p false t=ofThread p t:=by funext c;simp[mayP]
theorem bitShared (p:Prog) (e:Expr) (pair:Bool):Den Γ G 99 [(.agg [.t (.sl ((p).cells.map (Cell.enc))),.t (.sl ((p).modules.map (Contract.enc))),.t (.sl ((p).locks.map (Lock.enc))),.t (.sl ((p).threads.map (Thread.enc)))]),(.agg [.t (ti (e).op),.t (ti (e).w),.t (ti (e).n),.t (.sl ((e).kids.map (Expr.enc)))]),vb pair,.t (.fa 100 [.sl (p.cells.map Cell.enc),.sl (p.modules.map Contract.enc),.sl (p.locks.map Lock.enc),.sl (p.threads.map Thread.enc)])]=some (vb (truthOk p e pair (-1))):=by
 rw[bitP_den p e pair _ _ (sharedIs p),truthOk,overOk,mayP_shared]
theorem modulesP_den (p:Prog) (hs:p.sane):Den Γ G 81 [(.agg [.t (.sl ((p).cells.map (Cell.enc))),.t (.sl ((p).modules.map (Contract.enc))),.t (.sl ((p).locks.map (Lock.enc))),.t (.sl ((p).threads.map (Thread.enc)))])]=some (vi (modulesM p)):=by
 (refine den_ofY Γ81 rfl ?_;dsimp only[f81])
 simp -dsimp -implicitDefEqProofs only[go_sem,seval]
 have hbi:=hs.modules
 refine loopYH 4611686018427385892 p.modules.length (fun i f h x=>(f 11).v=vi i/\h 2=some (.map (setS ((p.modules.take i).map Contract.name)))/\modulesM p=(feGo (modErr p) i (p.modules.drop i)).1) rfl ⟨by simp -dsimp -implicitDefEqProofs only[go_sem,seval],by simp -dsimp -implicitDefEqProofs only[go_sem,seval];rfl,rfl⟩ ?_
 rintro i f u hh x bs hi ⟨h11,hmap,hm⟩
 have hw:=wrapS i (by omega)
 simp -dsimp -implicitDefEqProofs only[go_sem,seval,h11]
 refine csplit (fun h=> ?_) (fun h=> ?_)<;>(try rw[h])<;>(try simp only[bools]at h)<;>(try simp -dsimp -implicitDefEqProofs only[go_sem,seval,h11])
 ·obtain⟨c,hc,hcm⟩:=get_of ‹i<p.modules.length›
  obtain⟨_,_,s3⟩:=hs.mname c hcm
  have hstop: ∀k:Int,k≠0->modErr p i c=k->modulesM p=k:=fun k hk h0=>by
   rw[hm,fe_stop hc (by rw[h0];exact hk)];exact h0
  have hl:=labelP_den c.name
  have hl2:=labelP_den c.owner
  simp -dsimp -implicitDefEqProofs only[go_sem,seval,h11,hc,hl]
  refine csplit (fun h=> ?_) (fun h=> ?_)<;>(try rw[h])<;>(try simp only[bools]at h)<;>(try simp -dsimp -implicitDefEqProofs only[go_sem,seval,h11,hl2])
  ·rw[hstop 1 (by decide) (by simp[modErr,h])]
  ·have e1:isLabel c.name=true:=by assumption
   refine csplit (fun h=> ?_) (fun h=> ?_)<;>(try rw[h])<;>(try simp only[bools]at h)<;>(try simp -dsimp -implicitDefEqProofs only[go_sem,seval,h11])
   ·rw[hstop 1 (by decide) (by simp[modErr,h])]
   ·have e2:isLabel c.owner=true:=by assumption
    have hraw:=fun n=>taken_den 2 c.name ((p.modules.take i).map Contract.name) hh n hmap
    have hany:((p.modules.take i).map Contract.name).any (fun d=>d.toList==c.name.toList)=(p.modules.take i).any (fun d=>d.name.toList==c.name.toList):=by rw[List.any_map];rfl
    refine rawK_of (hraw _) ?_
    rintro r h' n' ⟨rfl,hk'⟩
    rw[hany]at hk'
    simp -dsimp -implicitDefEqProofs only[go_sem,seval,h11,hany]
    have hab:=absentP_den c.rely
    have ht1:=bitShared p c.rely true
    have ht2:=bitShared p c.guar true
    refine csplit (fun h=> ?_) (fun h=> ?_)<;>(try rw[h])<;>(try simp only[bools]at h)<;>(try simp -dsimp -implicitDefEqProofs only[go_sem,seval,h11,hab])
    ·rw[hstop 41 (by decide) (by rw[modErr,if_neg (by simp[e1,e2]),if_pos h])]
    ·have hme:modErr p i c=if(!c.rely.absent&& !truthOk p c.rely true (-1)) || !truthOk p c.guar true (-1)then 60 else if !rising c.frame || !c.frame.all (ofThread p (-1))then 1 else 0:=by
      rw[modErr,if_neg (by simp[e1,e2]),if_neg (by simp[h])]
     have hk2:=hk' h
     have hri:=increasing_den c.frame (by omega)
     have hwi:=within_den _ _ (sharedIs p) c.frame (by omega)
     repeat'(refine csplit (fun h=> ?_) (fun h=> ?_)<;>(try rw[h])<;>(try simp only[bools]at h)<;>(try simp -dsimp -implicitDefEqProofs only[go_sem,seval,h11,ht1,ht2,hri,hwi]))
     all_goals first
      | (rw[hstop 60 (by decide) (by rw[hme];simp[*])];done)
      | (rw[hstop 1 (by decide) (by rw[hme];simp[*])];done)
      | (refine⟨by omega,by simp -dsimp -implicitDefEqProofs only[go_sem,seval,hw],?_,?_⟩
         ·simp -dsimp -implicitDefEqProofs only[go_sem,seval,hk2]
          rw[take_succ_of hc];simp
         ·rw[hm,fe_step hc (by rw[hme];simp[*])])
 ·have:i=p.modules.length:=by omega
  subst this
  rw[hm,fe_end]
theorem ofThread_in {p:Prog} {t c:Int} (h:ofThread p t c=true):0<=c/\ ∃x,p.cells[c.toNat]? =some x/\x.thread=t:=by
 unfold ofThread at h
 simp only[Bool.and_eq_true,decide_eq_true_eq]at h
 refine⟨h.1,?_⟩
 rcases hx:p.cells[c.toNat]? with _ | x
 ·rw[hx]at h;simp at h
 ·rw[hx]at h;exact⟨x,rfl,by simpa using h.2⟩
theorem locksP_den (p:Prog) (hs:p.sane):Den Γ G 82 [(.agg [.t (.sl ((p).cells.map (Cell.enc))),.t (.sl ((p).modules.map (Contract.enc))),.t (.sl ((p).locks.map (Lock.enc))),.t (.sl ((p).threads.map (Thread.enc)))])]=some (vi (locksM p)):=by
 (refine den_ofY Γ82 rfl ?_;dsimp only[f82])
 simp -dsimp -implicitDefEqProofs only[go_sem,seval]
 have hbi:=hs.locks
 refine loopYH 9444732965739290419428 p.locks.length (fun i f h x=>(f 13).v=vi i/\h 2=some (.map (setI ((p.locks.take i).map Lock.cell)))/\locksM p=(feGo (lockErr p) i (p.locks.drop i)).1) rfl ⟨by simp -dsimp -implicitDefEqProofs only[go_sem,seval],by simp -dsimp -implicitDefEqProofs only[go_sem,seval];rfl,rfl⟩ ?_
 rintro i f u hh x bs hi ⟨h13,hmap,hm⟩
 have hw:=wrapS i (by omega)
 simp -dsimp -implicitDefEqProofs only[go_sem,seval,h13]
 refine csplit (fun h=> ?_) (fun h=> ?_)<;>(try rw[h])<;>(try simp only[bools]at h)<;>(try simp -dsimp -implicitDefEqProofs only[go_sem,seval,h13])
 ·obtain⟨l,hl,hlm⟩:=get_of ‹i<p.locks.length›
  have hstop: ∀k:Int,k≠0->lockErr p i l=k->locksM p=k:=fun k hk h0=>by
   rw[hm,fe_stop hl (by rw[h0];exact hk)];exact h0
  have hsh:=sharedP_den p l.cell
  have hb:=below_den l.module p.modules.length
  have ht:=bitShared p l.inv false
  have hany:((p.locks.take i).map Lock.cell).any (fun d=>decide (d=l.cell))=(p.locks.take i).any (fun d=>decide (d.cell=l.cell)):=by rw[List.any_map];rfl
  have hfi:=findI l.cell ((p.locks.take i).map Lock.cell)
  rw[hany]at hfi
  simp -dsimp -implicitDefEqProofs only[go_sem,seval,h13,hl,hsh]
  refine csplit (fun h=> ?_) (fun h=> ?_)<;>(try rw[h])<;>(try simp only[bools]at h)<;>(try simp -dsimp -implicitDefEqProofs only[go_sem,seval,h13])
  ·rw[hstop 1 (by decide) (by simp[lockErr,h])]
  ·have o1:ofThread p (-1) l.cell=true:=by assumption
   obtain⟨d0,y,hy,_⟩:=ofThread_in o1
   have hc1:=cellIs_at (g:=fun x=>decide (x.w=1)) hy
   have hc2:=cellIs_at (g:=Cell.ghost) hy
   simp -dsimp -implicitDefEqProofs only[go_sem,seval,h13,hl,d0,hy]
   refine csplit (fun h=> ?_) (fun h=> ?_)<;>(try rw[h])<;>(try simp only[bools]at h)<;>(try simp -dsimp -implicitDefEqProofs only[go_sem,seval,h13,hl,d0,hy])
   ·rw[hstop 1 (by decide) (by rw[lockErr,if_pos (by rw[hc1];simp[h])])]
   ·have e1:y.w=1:=by assumption
    refine csplit (fun h=> ?_) (fun h=> ?_)<;>(try rw[h])<;>(try simp only[bools]at h)<;>(try simp -dsimp -implicitDefEqProofs only[go_sem,seval,h13,hl,hmap,hfi,Option.getD_none,Option.getD_some,Option.isSome_none,Bool.false_eq_true,if_true,if_false])
    ·rw[hstop 1 (by decide) (by rw[lockErr,if_pos (by rw[hc2];simp[h])])]
    ·have e2:y.ghost=false:=by assumption
     have hle:lockErr p i l=if !inR l.module p.modules.length then 1 else if(p.locks.take i).any (fun d=>decide (d.cell=l.cell))then 1 else if !truthOk p l.inv false (-1)then 60 else 0:=by
      rw[lockErr,o1,hc1,hc2,e1,e2];simp
     cases ha:(p.locks.take i).any (fun d=>decide (d.cell=l.cell))
     ·rw[ha]at hfi hany hle
      have hpu:=putI l.cell _ hany
      simp -dsimp -implicitDefEqProofs only[go_sem,seval,h13,hl,hmap,hfi,Option.getD_none,Option.getD_some,Option.isSome_none,Bool.false_eq_true,if_true,if_false,hb]
      refine csplit (fun h=> ?_) (fun h=> ?_)<;>(try rw[h])<;>(try simp only[bools]at h)<;>(try simp -dsimp -implicitDefEqProofs only[go_sem,seval,h13,hl,hmap,hpu,ht])
      ·rw[hstop 1 (by decide) (by rw[hle];simp[h])]
      ·have e3:inR l.module p.modules.length=true:=by assumption
       refine csplit (fun h=> ?_) (fun h=> ?_)<;>(try rw[h])<;>(try simp only[bools]at h)<;>(try simp -dsimp -implicitDefEqProofs only[go_sem,seval,h13])
       ·rw[hstop 60 (by decide) (by rw[hle];simp[h,e3])]
       ·refine⟨by omega,by simp -dsimp -implicitDefEqProofs only[go_sem,seval,hw],?_,?_⟩
        ·simp -dsimp -implicitDefEqProofs only[go_sem,seval]
         rw[take_succ_of hl];simp
        ·rw[hm,fe_step hl (by rw[hle];simp[h,e3])]
     ·rw[ha]at hfi hle
      simp -dsimp -implicitDefEqProofs only[go_sem,seval,h13,hl,hmap,hfi,Option.getD_none,Option.getD_some,Option.isSome_none,Bool.false_eq_true,if_true,if_false]
      rw[hstop 1 (by decide) (by rw[hle];simp)]
 ·have:i=p.locks.length:=by omega
  subst this
  rw[hm,fe_end]
def IsFo (F:T) (P:Int->Bool) (D:Int->Prop):Prop:=T.norm F=F/\ ∃g a b,fnOf (.t F)=some (g,a,b)/\(∀(h:Nat->Option O) (n:Int),(a++[vi n]++b).mapM (toT1 h)=some (a++[vi n]++b))/\
 (∀n:Int,(a++[vi n]++b).all V.tree=true)/\ ∀n:Int,D n->Den Γ G g (a++[vi n]++b)=some (vb (P n))
theorem IsF.on {F:T} {P:Int->Bool} (h:IsF F P):IsFo F P (fun _=>True):=by
 obtain⟨h1,g,a,b,h2,h3,h4,h5⟩:=h
 exact⟨h1,g,a,b,h2,h3,h4,fun n _=>h5 n⟩
theorem targets_den (set:List Assign) (F:T) (P:Int->Bool) (D:Int->Prop) (hP:IsFo F P D) (hD: ∀a∈set,D a.cell) (hl:set.length<2^48):
 Den Γ G 162 [.t (.sl (set.map Assign.enc)),.t F]=some (vb (set.all fun a=>P a.cell)):=by
 (refine den_ofY Γ162 rfl ?_;dsimp only[f162])
 obtain⟨_,g,a,b,hf,hm,ha,hd⟩:=hP
 have hK:=fnK_of hf
 simp -dsimp -implicitDefEqProofs only[go_sem,seval]
 refine loopY 523856 set.length (fun i f=>(f 9).v=vi i/\(set.all fun a=>P a.cell)=(set.drop i).all fun a=>P a.cell) rfl rfl ⟨by simp -dsimp -implicitDefEqProofs only[go_sem,seval],rfl⟩ ?_
 rintro i f u kk bb hi ⟨h9,hall⟩
 have hw:=wrapS i (by omega)
 simp -dsimp -implicitDefEqProofs only[go_sem,seval,h9]
 refine csplit (fun h=> ?_) (fun h=> ?_)<;>(try rw[h])<;>(try simp only[bools]at h)<;>(try simp -dsimp -implicitDefEqProofs only[go_sem,seval,h9])
 ·obtain⟨x,hx,hxm⟩:=get_of ‹i<set.length›
  have hdx:=hd x.cell (hD x hxm)
  simp -dsimp -implicitDefEqProofs only[go_sem,seval,h9,hx,hK,hm,ha,hdx]
  refine csplit (fun h=> ?_) (fun h=> ?_)<;>(try rw[h])<;>(try simp only[bools]at h)<;>(try simp -dsimp -implicitDefEqProofs only[go_sem,seval,h9])
  ·rw[hall,all_stop hx h]
  ·refine⟨by omega,by simp -dsimp -implicitDefEqProofs only[go_sem,seval,hw],?_⟩
   rw[hall,all_step hx h]
 ·have:i=set.length:=by omega
  subst this
  rw[hall,all_end]
theorem valuesP_den (s:Step) (F:T) (P:Int->Bool) (hP:IsF F P) (hl:s.set.length<2^48):
 Den Γ G 161 [(.agg [.t (ti (s).kind),.t (ti (s).fr),.t (ti (s).to),.t (ti ((s).guard).op),.t (ti ((s).guard).w),.t (ti ((s).guard).n),.t (.sl (((s).guard).kids.map Expr.enc)),.t (.sl ((s).set.map Assign.enc)),.t (tb (s).release),.t (ti (s).target),.t (ti (s).module)]),.t F]=some (vb (((s.guard.sup 3).all P&&(s.guard.sup 2).all P)&&s.set.all fun a=>(a.to.sup 3).all P&&(a.to.sup 2).all P)):=by
 (refine den_ofY Γ161 rfl ?_;dsimp only[f161])
 have hn:=hP.1
 simp only[T.norm]at hn
 have hg:=overP_den s.guard F P hP
 simp -dsimp -implicitDefEqProofs only[go_sem,seval,hg,hn]
 refine csplit (fun h=> ?_) (fun h=> ?_)<;>(try rw[h])<;>(try simp only[bools]at h)<;>(try simp -dsimp -implicitDefEqProofs only[go_sem,seval])
 ·rw[h];simp
 ·rw[h,Bool.true_and]
  refine loopY 33521744 s.set.length (fun i f=>(f 15).v=vi i/\(s.set.all fun a=>(a.to.sup 3).all P&&(a.to.sup 2).all P)=(s.set.drop i).all fun a=>(a.to.sup 3).all P&&(a.to.sup 2).all P) rfl rfl ⟨by simp -dsimp -implicitDefEqProofs only[go_sem,seval],rfl⟩ ?_
  rintro i f u kk bb hi ⟨h15,hall⟩
  have hw:=wrapS i (by omega)
  simp -dsimp -implicitDefEqProofs only[go_sem,seval,h15]
  refine csplit (fun h=> ?_) (fun h=> ?_)<;>(try rw[h])<;>(try simp only[bools]at h)<;>(try simp -dsimp -implicitDefEqProofs only[go_sem,seval,h15])
  ·obtain⟨x,hx,hxm⟩:=get_of ‹i<s.set.length›
   have hox:=overP_den x.to F P hP
   simp -dsimp -implicitDefEqProofs only[go_sem,seval,h15,hx,hox,hn]
   refine csplit (fun h=> ?_) (fun h=> ?_)<;>(try rw[h])<;>(try simp only[bools]at h)<;>(try simp -dsimp -implicitDefEqProofs only[go_sem,seval,h15])
   ·rw[hall,all_stop hx h]
   ·refine⟨by omega,by simp -dsimp -implicitDefEqProofs only[go_sem,seval,hw],?_⟩
    rw[hall,all_step hx h]
  ·have:i=s.set.length:=by omega
   subst this
   rw[hall,all_end]
theorem bare_den (s:Step):Den Γ G 165 [(.agg [.t (ti (s).kind),.t (ti (s).fr),.t (ti (s).to),.t (ti ((s).guard).op),.t (ti ((s).guard).w),.t (ti ((s).guard).n),.t (.sl (((s).guard).kids.map Expr.enc)),.t (.sl ((s).set.map Assign.enc)),.t (tb (s).release),.t (ti (s).target),.t (ti (s).module)])]=some (vb (s.guard.one&&decide (s.set=[]))):=by
 (refine den_ofY Γ165 rfl ?_;dsimp only[f165])
 have h1:=one_den s.guard
 simp -dsimp -implicitDefEqProofs only[go_sem,seval,h1]
 refine csplit (fun h=> ?_) (fun h=> ?_)<;>(try rw[h])<;>(try simp only[bools]at h)<;>(try simp -dsimp -implicitDefEqProofs only[go_sem,seval])
 ·rcases s.set with _ | ⟨a,r⟩
  ·simp
  ·simp;omega
 ·simp
theorem ownF (p:Prog) (t:Int):IsF (.fn 146 [] [progT p,.ip [ti t]]) (ofThread p t):=(ownIs p t).isF
theorem seesF (p:Prog) (t:Int):IsF (.fn 134 [] [progT p,.ip [.fn 146 [] [progT p,.ip [ti t]]]]) (sees p t):=(visibleIs p t).isF
theorem fitsLocal_den (p:Prog) (t:Int) (s:Step) (hl:s.set.length<2^48):Den Γ G 147 [(.agg [.t (.sl ((p).cells.map (Cell.enc))),.t (.sl ((p).modules.map (Contract.enc))),.t (.sl ((p).locks.map (Lock.enc))),.t (.sl ((p).threads.map (Thread.enc)))]),vi t,(.agg [.t (ti (s).kind),.t (ti (s).fr),.t (ti (s).to),.t (ti ((s).guard).op),.t (ti ((s).guard).w),.t (ti ((s).guard).n),.t (.sl (((s).guard).kids.map Expr.enc)),.t (.sl ((s).set.map Assign.enc)),.t (tb (s).release),.t (ti (s).target),.t (ti (s).module)])]=some (vb (valuesOk p s false t&&s.set.all fun a=>ofThread p t a.cell)):=by
 (refine den_ofY Γ147 rfl ?_;dsimp only[f147])
 have h1:=own_den p t
 have h2:Den Γ G 161 [(.agg [.t (ti (s).kind),.t (ti (s).fr),.t (ti (s).to),.t (ti ((s).guard).op),.t (ti ((s).guard).w),.t (ti ((s).guard).n),.t (.sl (((s).guard).kids.map Expr.enc)),.t (.sl ((s).set.map Assign.enc)),.t (tb (s).release),.t (ti (s).target),.t (ti (s).module)]),.t (.fn 146 [] [progT p,.ip [ti t]])]=some (vb (valuesOk p s false t)):=by
  rw[valuesP_den s _ _ (ownF p t) hl];simp only[valuesOk,overOk,mayP_own]
 have h3:=targets_den s.set _ _ _ (ownF p t).on (fun _ _=>trivial) hl
 simp -dsimp -implicitDefEqProofs only[go_sem,seval,h1,h2]
 refine csplit (fun h=> ?_) (fun h=> ?_)<;>(try rw[h])<;>(try simp only[bools]at h)<;>(try simp -dsimp -implicitDefEqProofs only[go_sem,seval,h3])
 ·simp
theorem fitsAtomic_den (p:Prog) (t:Int) (s:Step) (hl:s.set.length<2^48):Den Γ G 150 [(.agg [.t (.sl ((p).cells.map (Cell.enc))),.t (.sl ((p).modules.map (Contract.enc))),.t (.sl ((p).locks.map (Lock.enc))),.t (.sl ((p).threads.map (Thread.enc)))]),vi t,(.agg [.t (ti (s).kind),.t (ti (s).fr),.t (ti (s).to),.t (ti ((s).guard).op),.t (ti ((s).guard).w),.t (ti ((s).guard).n),.t (.sl (((s).guard).kids.map Expr.enc)),.t (.sl ((s).set.map Assign.enc)),.t (tb (s).release),.t (ti (s).target),.t (ti (s).module)])]=some (vb (valuesOk p s true t&&s.set.all fun a=>sees p t a.cell)):=by
 (refine den_ofY Γ150 rfl ?_;dsimp only[f150])
 have h1:=visible_den p t
 have h2:Den Γ G 161 [(.agg [.t (ti (s).kind),.t (ti (s).fr),.t (ti (s).to),.t (ti ((s).guard).op),.t (ti ((s).guard).w),.t (ti ((s).guard).n),.t (.sl (((s).guard).kids.map Expr.enc)),.t (.sl ((s).set.map Assign.enc)),.t (tb (s).release),.t (ti (s).target),.t (ti (s).module)]),.t (.fn 134 [] [progT p,.ip [.fn 146 [] [progT p,.ip [ti t]]]])]=some (vb (valuesOk p s true t)):=by
  rw[valuesP_den s _ _ (seesF p t) hl];simp only[valuesOk,overOk,mayP_sees]
 have h3:=targets_den s.set _ _ _ (seesF p t).on (fun _ _=>trivial) hl
 simp -dsimp -implicitDefEqProofs only[go_sem,seval,h1,h2]
 refine csplit (fun h=> ?_) (fun h=> ?_)<;>(try rw[h])<;>(try simp only[bools]at h)<;>(try simp -dsimp -implicitDefEqProofs only[go_sem,seval,h3])
 ·simp
theorem fitsFence_den (p:Prog) (t:Int) (s:Step):Den Γ G 151 [(.agg [.t (.sl ((p).cells.map (Cell.enc))),.t (.sl ((p).modules.map (Contract.enc))),.t (.sl ((p).locks.map (Lock.enc))),.t (.sl ((p).threads.map (Thread.enc)))]),vi t,(.agg [.t (ti (s).kind),.t (ti (s).fr),.t (ti (s).to),.t (ti ((s).guard).op),.t (ti ((s).guard).w),.t (ti ((s).guard).n),.t (.sl (((s).guard).kids.map Expr.enc)),.t (.sl ((s).set.map Assign.enc)),.t (tb (s).release),.t (ti (s).target),.t (ti (s).module)])]=some (vb (s.guard.one&&decide (s.set=[]))):=by
 (refine den_ofY Γ151 rfl ?_;dsimp only[f151])
 have h1:=bare_den s
 simp -dsimp -implicitDefEqProofs only[go_sem,seval,h1]
theorem fitsJoin_den (p:Prog) (t:Int) (s:Step):Den Γ G 153 [(.agg [.t (.sl ((p).cells.map (Cell.enc))),.t (.sl ((p).modules.map (Contract.enc))),.t (.sl ((p).locks.map (Lock.enc))),.t (.sl ((p).threads.map (Thread.enc)))]),vi t,(.agg [.t (ti (s).kind),.t (ti (s).fr),.t (ti (s).to),.t (ti ((s).guard).op),.t (ti ((s).guard).w),.t (ti ((s).guard).n),.t (.sl (((s).guard).kids.map Expr.enc)),.t (.sl ((s).set.map Assign.enc)),.t (tb (s).release),.t (ti (s).target),.t (ti (s).module)])]=some (vb (joinOk p t s)):=by
 (refine den_ofY Γ153 rfl ?_;dsimp only[f153])
 have h1:=bare_den s
 have h2:=below_den s.target p.threads.length
 simp -dsimp -implicitDefEqProofs only[go_sem,seval,h1]
 cases hb:(s.guard.one&&decide (s.set=[]))
 ·rw[hb]at h1
  simp -dsimp -implicitDefEqProofs only[go_sem,seval,h1]
  simp[joinOk,hb]
 ·rw[hb]at h1
  simp -dsimp -implicitDefEqProofs only[go_sem,seval,h1]
  refine csplit (fun h=> ?_) (fun h=> ?_)<;>(try rw[h])<;>(try simp only[bools]at h)<;>(try simp -dsimp -implicitDefEqProofs only[go_sem,seval,h2])
  ·simp[joinOk,hb,h]
  ·simp[joinOk,hb,h]
theorem fitsSpawn_den (p:Prog) (t:Int) (s:Step):Den Γ G 152 [(.agg [.t (.sl ((p).cells.map (Cell.enc))),.t (.sl ((p).modules.map (Contract.enc))),.t (.sl ((p).locks.map (Lock.enc))),.t (.sl ((p).threads.map (Thread.enc)))]),vi t,(.agg [.t (ti (s).kind),.t (ti (s).fr),.t (ti (s).to),.t (ti ((s).guard).op),.t (ti ((s).guard).w),.t (ti ((s).guard).n),.t (.sl (((s).guard).kids.map Expr.enc)),.t (.sl ((s).set.map Assign.enc)),.t (tb (s).release),.t (ti (s).target),.t (ti (s).module)])]=some (vb (joinOk p t s&&asleepAt p s.target)):=by
 (refine den_ofY Γ152 rfl ?_;dsimp only[f152])
 have h1:=fitsJoin_den p t s
 simp -dsimp -implicitDefEqProofs only[go_sem,seval,h1]
 cases hb:joinOk p t s
 ·rw[hb]at h1
  simp -dsimp -implicitDefEqProofs only[go_sem,seval]
  simp
 ·have hr:inR s.target p.threads.length=true:=by
   simp only[joinOk,Bool.and_eq_true]at hb;exact hb.2
  simp only[inR,decide_eq_true_eq]at hr
  obtain⟨t0,t1⟩:=hr
  obtain⟨y,hy⟩: ∃y,p.threads[s.target.toNat]? =some y:=⟨_,List.getElem?_eq_getElem (by omega)⟩
  simp -dsimp -implicitDefEqProofs only[go_sem,seval,t0,hy]
  simp[asleepAt,hy]
end Rg
end
