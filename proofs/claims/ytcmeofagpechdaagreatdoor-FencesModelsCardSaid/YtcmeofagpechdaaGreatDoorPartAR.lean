/- Part of the proof of laws of relyguardlaw31. No condition. -/
import Derived.Test.YtcmeofagpechdaaGreatDoorPartAQ
import Derived.Test.YtcmeofagpechdaaGreatDoorPartAP
import Derived.Test.YtcmeofagpechdaaGreatDoorPartAN
import Derived.Test.YtcmeofagpechdaaGreatDoorPartAO
set_option linter.unusedSimpArgs false
set_option linter.unusedVariables false
section
namespace Rg
open Go
theorem thread1Is (p:Prog):IsF (.fn 103 [] [zaF p]) (fun m=>inR m p.modules.length):=by
 refine IsP.isF ⟨by simp[zaF,T.norm],fun n=> ?_⟩;simp only[List.map_cons,List.map_nil,zaF]
 (refine den_ofY Γ103 rfl ?_;dsimp only[zrX])
 have h1:=zaL n p.modules.length;simp -dsimp only[go_sem,seval,h1]
def zqW (x:Thread):T:=.ip [.str x.name,ti x.points,.sl (x.asserts.map Expr.enc),ints x.modules,.sl (x.steps.map Step.enc),.sl (x.loops.map Loop.enc),tb x.asleep]
def zm0 (l:Loop):T:=.ip [ti l.head,ints l.body,ti l.variant.op,ti l.variant.w,ti l.variant.n,.sl (l.variant.kids.map Expr.enc)]
theorem thread2Is (x:Thread) (l:Loop):IsF (.fn 106 [] [zqW x,zm0 l]) (fun q=>inR q x.points&&decide (q≠l.head)):=by
 refine IsP.isF ⟨by simp[zqW,zm0,T.norm],fun n=> ?_⟩;simp only[List.map_cons,List.map_nil,zqW,zm0]
 (refine den_ofY Γ106 rfl ?_;dsimp only[zrU])
 have h1:=zaL n x.points;simp -dsimp only[go_sem,seval,h1]
 repeat'(refine csplit (fun h=> ?_) (fun h=> ?_)<;>(try rw[h])<;>(try simp only[zab]at h)<;>(try simp -dsimp only[go_sem,seval]))
 all_goals(simp[*])
theorem zo2 (p:Prog) (t:Int) (e:Expr) (pair:Bool):Den Γ G 99 [(.agg [.t (.sl ((p).cells.map (Cell.enc))),.t (.sl ((p).modules.map (Contract.enc))),.t (.sl ((p).locks.map (Lock.enc))),.t (.sl ((p).threads.map (Thread.enc)))]),(.agg [.t (ti (e).op),.t (ti (e).w),.t (ti (e).n),.t (.sl ((e).kids.map (Expr.enc)))]),vb pair,.t (.fn 134 [] [zaF p,.ip [.fn 146 [] [zaF p,.ip [ti t]]]])]=some (vb (truthOk p e pair t)):=by
 rw[zi5 p e pair _ _ (seesF p t),truthOk,overOk,zeJ]
theorem zmU (p:Prog) (t:Int) (e:Expr):Den Γ G 108 [(.agg [.t (ti (e).op),.t (ti (e).w),.t (ti (e).n),.t (.sl ((e).kids.map (Expr.enc)))]),.t (.fn 134 [] [zaF p,.ip [.fn 146 [] [zaF p,.ip [ti t]]]])]=some (vb (overOk p e true t)):=by
 rw[zcy e _ _ (seesF p t),overOk,zeJ]
def HT (p:Prog) (x:Thread) (n k:Nat) (es:List (T×V)) (h:Nat->Option O) (y:Nat):Prop:=
 h (n+0)=some (.rows 4 [[.t (.sl (p.cells.map Cell.enc)),.t (.sl (p.modules.map Contract.enc)),.t (.sl (p.locks.map Lock.enc)),.t (.sl (p.threads.map Thread.enc))]] false)/\
 h (n+1)=some (.rows 7 [[.t (.str x.name),.t (ti x.points),.t (.sl (x.asserts.map Expr.enc)),.t (ints x.modules),.t (.sl (x.steps.map Step.enc)),.t (.sl (x.loops.map Loop.enc)),.t (tb x.asleep)]] false)/\
 h k=some (.map es)/\n+2<=y
set_option maxHeartbeats 4000000 in
theorem threadP_den (p:Prog) (hs:p.sane) (i:Nat) (x:Thread) (hx:p.threads[i]? =some x) (hxp:x.points<2^48) (H:Nat->Option O) (n k:Nat) (hkn:k<n) (hmap:H k=some (.map (setS ((p.threads.take i).map Thread.name)))):
 ∃r h' n',DenR Γ G 83 [(.agg [.t (.sl ((p).cells.map (Cell.enc))),.t (.sl ((p).modules.map (Contract.enc))),.t (.sl ((p).locks.map (Lock.enc))),.t (.sl ((p).threads.map (Thread.enc)))]),vi i,(.agg [.t (.str (x).name),.t (ti (x).points),.t (.sl ((x).asserts.map Expr.enc)),.t (ints (x).modules),.t (.sl ((x).steps.map Step.enc)),.t (.sl ((x).loops.map Loop.enc)),.t (tb (x).asleep)]),.mm k] H n=some (r,h',n')/\(n<=n'/\r= .tup [vi (threadErr p i x).1,vi (threadErr p i x).2])/\((threadErr p i x).1=0->h' k=some (.map (setS ((p.threads.take (i+1)).map Thread.name)))):=by
 have hxm:=List.mem_of_getElem? hx;obtain⟨s1,s2,s3,s4,s5⟩:=hs.thr x hxm;have hl:=zcZ x.name;have hne0: ¬k=n:=by omega
 have hne1:=zkU hkn;have hne2:=zhQ hkn;have hraw:=fun H' n' hH'=>zfk k x.name ((p.threads.take i).map Thread.name) H' n' hH'
 have hany:((p.threads.take i).map Thread.name).any (fun d=>d.toList==x.name.toList)=(p.threads.take i).any (fun d=>d.name.toList==x.name.toList):=by rw[List.any_map];rfl
 (refine denR_ofY Γ83 rfl ?_;dsimp only[f83])
 simp -dsimp only[go_sem,seval,hl];refine csplit (fun h=> ?_) (fun h=> ?_)<;>(try rw[h])<;>(try simp only[zab]at h)<;>(try simp -dsimp only[go_sem,seval])
 ·have:threadErr p i x=(1,-1):=by rw[threadErr,if_pos (by simp[h])]
  rw[this];exact⟨⟨by simp -dsimp only[go_sem,seval];omega,by simp -dsimp only[go_sem,seval]⟩,fun h0=>by simp at h0⟩
 ·have e1:isLabel x.name=true:=by assumption
  refine zav (hraw _ _ (by simp -dsimp only[go_sem,seval,hne1,hmap])) ?_;rintro r h' n' ⟨⟨hn',rfl⟩,es,he,hes⟩;rw[hany]at hes;have q1: ¬n+1=k:=by omega
  have q2: ¬n+0=k:=by omega
  have q3: ¬n+0=n+1:=by omega
  have g4:h' (n+0)=some (.rows 4 [[.t (.sl (p.cells.map Cell.enc)),.t (.sl (p.modules.map Contract.enc)),.t (.sl (p.locks.map Lock.enc)),.t (.sl (p.threads.map Thread.enc))]] false):=by
   rw[he];simp -dsimp only[go_sem,seval,q2,q3]
  have g6:h' (n+1)=some (.rows 7 [[.t (.str x.name),.t (ti x.points),.t (.sl (x.asserts.map Expr.enc)),.t (ints x.modules),.t (.sl (x.steps.map Step.enc)),.t (.sl (x.loops.map Loop.enc)),.t (tb x.asleep)]] false):=by
   rw[he];simp -dsimp only[go_sem,seval,q1]
  have gk:h' k=some (.map es):=by rw[he];simp -dsimp only[go_sem,seval]
  clear he;simp -dsimp only[go_sem,seval,hany];refine csplit (fun h=> ?_) (fun h=> ?_)<;>(try rw[h])<;>(try simp only[zab]at h)<;>(try simp -dsimp only[go_sem,seval,g6])
  ·have:threadErr p i x=(41,-1):=by rw[threadErr,if_neg (by simp[e1]),if_pos h]
   rw[this];exact⟨⟨by simp -dsimp only[go_sem,seval];omega,by simp -dsimp only[go_sem,seval]⟩,fun h0=>by simp at h0⟩
  ·have e2:(p.threads.take i).any (fun d=>d.name.toList==x.name.toList)=false:=by assumption
   rw[hes e2,show(p.threads.take i).map Thread.name++[x.name]=(p.threads.take (i+1)).map Thread.name from by rw[zae hx];simp]at gk;clear hes hraw hmap
   by_cases hpt:x.points<1\/ ¬(x.asserts.length:Int)=x.points\/ ¬(x.modules.length:Int)=x.points
   ·have:threadErr p i x=(1,-1):=by rw[threadErr,if_neg (by simp[e1]),if_neg (by simp[e2]),if_pos hpt]
    rw[this]
    repeat'(refine csplit (fun h=> ?_) (fun h=> ?_)<;>(try rw[h])<;>(try simp only[zab]at h)<;>(try simp -dsimp only[go_sem,seval,g6]))
    all_goals first
     | (exfalso;omega)
     | exact⟨⟨by simp -dsimp only[go_sem,seval];omega,by simp -dsimp only[go_sem,seval]⟩,fun h0=>by simp at h0⟩
   ·have f1: ¬x.points<1:=by omega
    have f2:(x.asserts.length:Int)=x.points:=by omega
    have f3:(x.modules.length:Int)=x.points:=by omega
    have hth:threadErr p i x=if !x.modules.all (fun m=>inR m p.modules.length)then(1,-1)
     else if !x.asserts.all (fun e=>truthOk p e false i)then(60,-1)
     else if ¬(feGo (fun _ s=>stepErr p i x.points s) 0 x.steps).1=0 then feGo (fun _ s=>stepErr p i x.points s) 0 x.steps
     else((feGo (fun _ l=>zaA p i x.points l) 0 x.loops).1,-1):=by
     rw[threadErr,if_neg (by simp[e1]),if_neg (by simp[e2]),if_neg hpt]
    have f2':decide (¬(x.asserts.length:Int)=x.points)=false:=by simp[f2]
    have f3':decide (¬(x.modules.length:Int)=x.points)=false:=by simp[f3]
    have hwi:=zbW _ _ (thread1Is p) x.modules (by omega);simp only[zaF]at hwi;simp -dsimp only[go_sem,seval,f1,f2',f3',g6,g4,hwi];have hvis:=zc9 p i;refine csplit (fun h=> ?_) (fun h=> ?_)<;>(try rw[h])<;>(try simp only[zab]at h)<;>(try simp -dsimp only[go_sem,seval,g4,hvis,g6])
    ·have:threadErr p i x=(1,-1):=by rw[hth];simp[h]
     rw[this];exact⟨⟨by simp -dsimp only[go_sem,seval];omega,by simp -dsimp only[go_sem,seval]⟩,fun h0=>by simp at h0⟩
    ·rw[h]at hth;simp only[Bool.not_true,zG,if_false]at hth;clear hwi h;refine zaj 147429837401600561920 x.asserts.length (fun j f h y=>(f 57).v=vi j/\HT p x n k (setS ((p.threads.take (i+1)).map Thread.name)) h y/\x.asserts.all (fun e=>truthOk p e false i)=(x.asserts.drop j).all (fun e=>truthOk p e false i)) rfl ⟨by simp -dsimp only[go_sem,seval],⟨g4,g6,gk,by simp -dsimp only[go_sem,seval];omega⟩,rfl⟩ ?_;clear g4 g6 gk;rintro j f u hh y bs hj ⟨h57,⟨g4,g6,gk,gn⟩,hall⟩;have hw:=zah j (by omega);simp -dsimp only[go_sem,seval,h57];refine csplit (fun h=> ?_) (fun h=> ?_)<;>(try rw[h])<;>(try simp only[zab]at h)<;>(try simp -dsimp only[go_sem,seval,h57])
     ·obtain⟨e,he,_⟩:=zaf ‹j<x.asserts.length›;have hb:=zo2 p i e false;simp -dsimp only[go_sem,seval,h57,he,g4,hb];refine csplit (fun h=> ?_) (fun h=> ?_)<;>(try rw[h])<;>(try simp only[zab]at h)<;>(try simp -dsimp only[go_sem,seval,h57])
      ·have:threadErr p i x=(60,-1):=by rw[hth,hall,zaM he h];simp
       rw[this];exact⟨⟨by simp -dsimp only[go_sem,seval];omega,by simp -dsimp only[go_sem,seval]⟩,fun h0=>by simp at h0⟩
      ·refine⟨by omega,by simp -dsimp only[go_sem,seval,hw],⟨by simp -dsimp only[go_sem,seval,g4],by simp -dsimp only[go_sem,seval,g6],by simp -dsimp only[go_sem,seval,gk],by simp -dsimp only[go_sem,seval];omega⟩,?_⟩;rw[hall,zaN he h]
     ·have:j=x.asserts.length:=by omega
      subst this;rw[za0]at hall;rw[hall]at hth;simp only[Bool.not_true,zG,if_false]at hth;clear hall h57 hw;simp -dsimp only[go_sem,seval,g6];refine zaj 38684445636047416179352320 x.steps.length (fun j f h y=>(f 70).v=vi j/\HT p x n k (setS ((p.threads.take (i+1)).map Thread.name)) h y/\feGo (fun _ s=>stepErr p i x.points s) 0 x.steps=feGo (fun _ s=>stepErr p i x.points s) j (x.steps.drop j)) rfl ⟨by simp -dsimp only[go_sem,seval],⟨by simp -dsimp only[go_sem,seval,g4],by simp -dsimp only[go_sem,seval,g6],by simp -dsimp only[go_sem,seval,gk],by simp -dsimp only[go_sem,seval];omega⟩,rfl⟩ ?_;clear g4 g6 gk;rintro j f u hh y bs hj ⟨h70,⟨g4,g6,gk,gn⟩,hm⟩;have hw:=zah j (by omega);simp -dsimp only[go_sem,seval,h70];refine csplit (fun h=> ?_) (fun h=> ?_)<;>(try rw[h])<;>(try simp only[zab]at h)<;>(try simp -dsimp only[go_sem,seval,h70])
      ·obtain⟨s,hsx,hsm⟩:=zaf ‹j<x.steps.length›;have hst:=zj9 p i x ⟨by omega,hxp⟩ s (hs.sets x hxm s hsm);simp -dsimp only[go_sem,seval,h70,hsx,g4,g6,hst];refine csplit (fun h=> ?_) (fun h=> ?_)<;>(try rw[h])<;>(try simp only[zab]at h)<;>(try simp -dsimp only[go_sem,seval,h70])
       ·have h2:=hm.trans (fe_stop (f:=fun _ s=>stepErr p i x.points s) hsx (by simpa using h));have:threadErr p i x=(stepErr p i x.points s,(j:Int)):=by rw[hth,h2,if_pos (by simpa using h)]
        rw[this];exact⟨⟨by simp -dsimp only[go_sem,seval];omega,by simp -dsimp only[go_sem,seval]⟩,fun h0=>absurd h0 h⟩
       ·refine⟨by omega,by simp -dsimp only[go_sem,seval,hw],⟨by simp -dsimp only[go_sem,seval,g4],by simp -dsimp only[go_sem,seval,g6],by simp -dsimp only[go_sem,seval,gk],by simp -dsimp only[go_sem,seval];omega⟩,?_⟩;rw[hm,zbh hsx (by simpa using h)]
      ·have:j=x.steps.length:=by omega
       subst this;rw[zbQ]at hm;rw[hm,if_neg (by simp)]at hth;clear hm h70 hw;simp -dsimp only[go_sem,seval,g6];refine zaj 10633823965969841973409111413518369536 x.loops.length (fun j f h y=>(f 88).v=vi j/\HT p x n k (setS ((p.threads.take (i+1)).map Thread.name)) h y/\feGo (fun _ l=>zaA p i x.points l) 0 x.loops=feGo (fun _ l=>zaA p i x.points l) j (x.loops.drop j)) rfl ⟨by simp -dsimp only[go_sem,seval],⟨by simp -dsimp only[go_sem,seval,g4],by simp -dsimp only[go_sem,seval,g6],by simp -dsimp only[go_sem,seval,gk],by simp -dsimp only[go_sem,seval];omega⟩,rfl⟩ ?_;clear g4 g6 gk;rintro j f u hh y bs hj ⟨h88,⟨g4,g6,gk,gn⟩,hm⟩;have hw:=zah j (by omega);simp -dsimp only[go_sem,seval,h88];refine csplit (fun h=> ?_) (fun h=> ?_)<;>(try rw[h])<;>(try simp only[zab]at h)<;>(try simp -dsimp only[go_sem,seval,h88])
       ·obtain⟨l,hlx,hlm⟩:=zaf ‹j<x.loops.length›;have hbl:=hs.loops x hxm l hlm
        have hstop: ∀k':Int,k'≠0->zaA p i x.points l=k'->threadErr p i x=(k',-1):=fun k' hk' h0=>by
         have h2:=hm.trans (fe_stop (f:=fun _ l=>zaA p i x.points l) hlx (by rw[h0];exact hk'));rw[hth,h2,h0]
        have hin:=zaL l.head x.points;have hri:=zc5 l.body (by omega);have hwi:=zbW _ _ (thread2Is x l) l.body (by omega);simp only[zqW,zm0]at hwi;have hv:=zcN l.variant p.cells false;have hov:=zmU p i l.variant;have r1: ¬n=y+2:=by omega
        have r2: ∀a b:Nat,¬n+0=y+a+b:=by intros;omega
        have r3: ∀a b:Nat,¬k=y+a+b:=by intros;omega
        simp -dsimp only[go_sem,seval,h88,hlx,g4,g6,r1,r2,hin];refine csplit (fun h=> ?_) (fun h=> ?_)<;>(try rw[h])<;>(try simp only[zab]at h)<;>(try simp -dsimp only[go_sem,seval,h88,r1,r2,g4,g6,hri])
        ·rw[hstop 1 (by decide) (by simp[zaA,h])];exact⟨⟨by simp -dsimp only[go_sem,seval];omega,by simp -dsimp only[go_sem,seval]⟩,fun h0=>by simp at h0⟩
        ·have u1:inR l.head x.points=true:=by assumption
         refine csplit (fun h=> ?_) (fun h=> ?_)<;>(try rw[h])<;>(try simp only[zab]at h)<;>(try simp -dsimp only[go_sem,seval,h88,r1,r2,g4,g6,hwi])
         ·rw[hstop 1 (by decide) (by simp[zaA,h])];exact⟨⟨by simp -dsimp only[go_sem,seval];omega,by simp -dsimp only[go_sem,seval]⟩,fun h0=>by simp at h0⟩
         ·have u2:rising l.body=true:=by assumption
          refine csplit (fun h=> ?_) (fun h=> ?_)<;>(try rw[h])<;>(try simp only[zab]at h)<;>(try simp -dsimp only[go_sem,seval,h88,r1,r2,g4,g6,hv])
          ·rw[hstop 1 (by decide) (by rw[zaA,if_pos (by rw[h];simp)])];exact⟨⟨by simp -dsimp only[go_sem,seval];omega,by simp -dsimp only[go_sem,seval]⟩,fun h0=>by simp at h0⟩
          ·have u3:(l.body.all fun q=>inR q x.points&&decide (q≠l.head))=true:=by assumption
           have hle:zaA p i x.points l=if !l.variant.valid p.cells false || !overOk p l.variant true i then 60 else 0:=by
            rw[zaA,if_neg (by rw[u1,u2,u3];simp)]
           refine csplit (fun h=> ?_) (fun h=> ?_)<;>(try rw[h])<;>(try simp only[zab]at h)<;>(try simp -dsimp only[go_sem,seval,h88,r1,r2,g4,g6,hov])
           ·rw[hstop 60 (by decide) (by rw[hle];simp[h])];exact⟨⟨by simp -dsimp only[go_sem,seval];omega,by simp -dsimp only[go_sem,seval]⟩,fun h0=>by simp at h0⟩
           ·have u4:l.variant.valid p.cells false=true:=by assumption
            refine csplit (fun h=> ?_) (fun h=> ?_)<;>(try rw[h])<;>(try simp only[zab]at h)<;>(try simp -dsimp only[go_sem,seval,h88])
            ·rw[hstop 60 (by decide) (by rw[hle];simp[h])];exact⟨⟨by simp -dsimp only[go_sem,seval];omega,by simp -dsimp only[go_sem,seval]⟩,fun h0=>by simp at h0⟩
            ·refine⟨by omega,by simp -dsimp only[go_sem,seval,hw],⟨by simp -dsimp only[go_sem,seval,g4,r2],by simp -dsimp only[go_sem,seval,g6,r1],by simp -dsimp only[go_sem,seval,gk,r3],by simp -dsimp only[go_sem,seval];omega⟩,?_⟩;rw[hm,zbh hlx (by rw[hle];simp[h,u4])]
       ·have:j=x.loops.length:=by omega
        subst this;rw[zbQ]at hm;rw[hth,hm];exact⟨⟨by simp -dsimp only[go_sem,seval];omega,by simp -dsimp only[go_sem,seval]⟩,fun _=>by simp -dsimp only[go_sem,seval,gk]⟩
end Rg
end
section
namespace Rg
open Go
@[go_sem]theorem ztO (g:Nat) (c:List T) (K:Nat->List V->List V->Prop) (w:WK K):fnK (some (.t (.fa g c))) K w=K g [.agg (c.map V.t)] []:=rfl
theorem zep (p:Prog) (hs:p.sane):Den Γ G 64 [(.agg [.t (.sl ((p).cells.map (Cell.enc))),.t (.sl ((p).modules.map (Contract.enc))),.t (.sl ((p).locks.map (Lock.enc))),.t (.sl ((p).threads.map (Thread.enc)))])]=some (.tup [vi (validM p).1,vi (validM p).2.1,vi (validM p).2.2]):=by
 (refine den_ofY Γ64 rfl ?_;dsimp only[f64])
 have h1:=zhV p hs;simp -dsimp only[go_sem,seval,h1];refine csplit (fun h=> ?_) (fun h=> ?_)<;>(try rw[h])<;>(try simp only[zab]at h)<;>(try simp -dsimp only[go_sem,seval])
 ·have h0: ¬(limitsM p).1=0:=by simpa using h
  have:validM p=((limitsM p).1,(limitsM p).2,-1):=by rw[validM,if_pos h0]
  rw[this];simp
 ·have h0:(limitsM p).1=0:=by simpa using h
  obtain⟨⟨l1,l2,l3,l4⟩,l5⟩:=zdw h0
  have hv1:validM p=if ¬cellsM p=0 then(cellsM p,-1,-1)else if ¬modulesM p=0 then(modulesM p,-1,-1)else if ¬locksM p=0 then(locksM p,-1,-1)else thrGo p 0 p.threads:=by
   rw[validM,if_neg (by simpa using h0)]
  have c1:=zjP p hs;have c2:=zgZ p hs;have c3:=zjs p hs;refine zbg ?_;simp -dsimp only[go_sem,seval,c1];refine csplit (fun h=> ?_) (fun h=> ?_)<;>(try rw[h])<;>(try simp only[zab]at h)<;>(try simp -dsimp only[go_sem,seval])
  ·have:validM p=(cellsM p,-1,-1):=by rw[hv1,if_pos (by simpa using h)]
   rw[this];simp
  ·have h2:cellsM p=0:=by simpa using h
   rw[if_neg (by simpa using h2)]at hv1;refine zbg ?_;simp -dsimp only[go_sem,seval,c2];refine csplit (fun h=> ?_) (fun h=> ?_)<;>(try rw[h])<;>(try simp only[zab]at h)<;>(try simp -dsimp only[go_sem,seval])
   ·have:validM p=(modulesM p,-1,-1):=by rw[hv1,if_pos (by simpa using h)]
    rw[this];simp
   ·have h3:modulesM p=0:=by simpa using h
    rw[if_neg (by simpa using h3)]at hv1;refine zbg ?_;simp -dsimp only[go_sem,seval,c3];refine csplit (fun h=> ?_) (fun h=> ?_)<;>(try rw[h])<;>(try simp only[zab]at h)<;>(try simp -dsimp only[go_sem,seval])
    ·have:validM p=(locksM p,-1,-1):=by rw[hv1,if_pos (by simpa using h)]
     rw[this];simp
    ·have h4:locksM p=0:=by simpa using h
     rw[if_neg (by simpa using h4)]at hv1;refine zbg ?_;simp -dsimp only[go_sem,seval];refine zaj 73786835557349912604 p.threads.length (fun i f h y=>(f 47).v=vi i/\56<y/\h 56=some (.map (setS ((p.threads.take i).map Thread.name)))/\validM p=thrGo p i (p.threads.drop i)) rfl ⟨by simp -dsimp only[go_sem,seval],by simp -dsimp only[go_sem,seval],by simp -dsimp only[go_sem,seval];rfl,hv1⟩ ?_;rintro i f u hh y bs hi ⟨h47,hy,hmap,hm⟩;have hw:=zah i (by omega);simp -dsimp only[go_sem,seval,h47];refine csplit (fun h=> ?_) (fun h=> ?_)<;>(try rw[h])<;>(try simp only[zab]at h)<;>(try simp -dsimp only[go_sem,seval,h47])
     ·obtain⟨x,hx,hxm⟩:=zaf ‹i<p.threads.length›;simp -dsimp only[go_sem,seval,h47,hx];refine zav (threadP_den p hs i x hx (by have:=(l5 x hxm).1;omega) hh _ 56 (by omega) hmap) ?_;rintro r h' n' ⟨⟨hn,rfl⟩,hk⟩;simp -dsimp only[go_sem,seval,h47];refine csplit (fun h=> ?_) (fun h=> ?_)<;>(try rw[h])<;>(try simp only[zab]at h)<;>(try simp -dsimp only[go_sem,seval,h47])
      ·rw[hm,ziq hx (by simpa using h)];simp
      ·have hk':=hk (by simpa using h);refine⟨by omega,by simp -dsimp only[go_sem,seval,hw],by simp -dsimp only[go_sem,seval];omega,by simp -dsimp only[go_sem,seval,hk'],?_⟩;rw[hm,zir hx (by simpa using h)]
     ·have:i=p.threads.length:=by omega
      subst this;rw[hm,zj3];simp
theorem fe_all {α:Type} {f:Nat->α->Int}: ∀{l:List α} {i:Nat},(feGo f i l).1=0<-> ∀(j:Nat) (x:α),l[j]? =some x->f (i+j) x=0
 | [],i=>by simp[feGo]
 | y::r,i=>by
   rw[feGo];constructor
   ·intro h j x hj;split at h
    ·rename_i h0
     cases j with
     | zero=>simp at hj;subst hj;exact h0
     | succ j=>
       have:=(fe_all (l:=r) (i:=i+1)).1 h j x (by simpa using hj);rwa[show i+1+j=i+(j+1)by omega]at this
    ·rename_i h0;exact absurd h h0
   ·intro h;have h0:f i y=0:=h 0 y rfl;rw[if_pos h0];refine(fe_all (l:=r) (i:=i+1)).2 fun j x hj=> ?_
    have:=h (j+1) x (by simpa using hj);rwa[show i+(j+1)=i+1+j by omega]at this
theorem thr_all {p:Prog}: ∀{l:List Thread} {i:Nat},(thrGo p i l).1=0<-> ∀(j:Nat) (x:Thread),l[j]? =some x->(threadErr p (i+j) x).1=0
 | [],i=>by simp[thrGo]
 | y::r,i=>by
   rw[thrGo];constructor
   ·intro h j x hj;split at h
    ·rename_i h0
     cases j with
     | zero=>simp at hj;subst hj;exact h0
     | succ j=>
       have:=(thr_all (l:=r) (i:=i+1)).1 h j x (by simpa using hj);rwa[show i+1+j=i+(j+1)by omega]at this
    ·rename_i h0;exact absurd h h0
   ·intro h;have h0:(threadErr p i y).1=0:=h 0 y rfl;rw[if_pos h0];refine(thr_all (l:=r) (i:=i+1)).2 fun j x hj=> ?_
    have:=h (j+1) x (by simpa using hj);rwa[show i+(j+1)=i+1+j by omega]at this
abbrev Prog.ok (p:Prog):Prop:=(validM p).1=0
structure Rules (p:Prog):Prop where
 lim:(limitsM p).1=0
 cells: ∀(i:Nat) (c:Cell),p.cells[i]? =some c->cellErr p i c=0
 modules: ∀(i:Nat) (m:Contract),p.modules[i]? =some m->modErr p i m=0
 locks: ∀(i:Nat) (l:Lock),p.locks[i]? =some l->lockErr p i l=0
 threads: ∀(i:Nat) (x:Thread),p.threads[i]? =some x->(threadErr p i x).1=0
theorem ok_iff {p:Prog}:p.ok<->Rules p:=by
 unfold Prog.ok validM;constructor
 ·intro h;split at h
  ·rename_i h0;exact absurd h h0
  ·rename_i h0;split at h
   ·rename_i h1;exact absurd h h1
   ·rename_i h1;split at h
    ·rename_i h2;exact absurd h h2
    ·rename_i h2;split at h
     ·rename_i h3;exact absurd h h3
     ·rename_i h3;simp only[Decidable.not_not]at h0 h1 h2 h3;exact⟨h0,by simpa[cellsM,fe_all]using h1,by simpa[modulesM,fe_all]using h2,by simpa[locksM,fe_all]using h3,by simpa[thr_all]using h⟩
 ·rintro⟨h0,h1,h2,h3,h4⟩;have g1:cellsM p=0:=by unfold cellsM;rw[fe_all];simpa using h1
  have g2:modulesM p=0:=by unfold modulesM;rw[fe_all];simpa using h2
  have g3:locksM p=0:=by unfold locksM;rw[fe_all];simpa using h3
  rw[if_neg (by simpa using h0),if_neg (by simpa using g1),if_neg (by simpa using g2),if_neg (by simpa using g3),thr_all];simpa using h4
theorem cellErr_iff {p:Prog} {i:Nat} {c:Cell}:cellErr p i c=0<->zaY p c=false/\(p.cells.take i).any (fun d=>d.name.toList==c.name.toList)=false:=by
 unfold cellErr;cases zaY p c<;>cases(p.cells.take i).any (fun d=>d.name.toList==c.name.toList)<;>simp
theorem stepErr_iff {p:Prog} {t n:Int} {s:Step}:stepErr p t n s=0<->zbl p n s=false/\(s.guard.valid p.cells false=true/\s.guard.w=1)/\(∀(j:Nat) (a:Assign),s.set[j]? =some a->setErr p s.set j a=0)/\kindOk p t s=true:=by
 unfold stepErr;have hfe:(feGo (setErr p s.set) 0 s.set).1=0<-> ∀(j:Nat) (a:Assign),s.set[j]? =some a->setErr p s.set j a=0:=by rw[fe_all];simp
 cases zbl p n s
 ·cases s.guard.valid p.cells false
  ·simp
  ·by_cases hw:s.guard.w=1
   ·simp only[hw,ne_eq,not_true_eq_false,decide_false,Bool.not_true,Bool.or_false,zG,if_false,true_and]
    by_cases h0:(feGo (setErr p s.set) 0 s.set).1=0
    ·rw[if_neg (by simpa using h0)];have:=hfe.1 h0;cases kindOk p t s<;>simp_all
    ·rw[if_pos h0];constructor
     ·intro h;exact absurd h h0
     ·intro h;exact absurd (hfe.2 h.1) h0
   ·simp[hw]
 ·simp
theorem loopErr_iff {p:Prog} {t n:Int} {l:Loop}:zaA p t n l=0<->(inR l.head n=true/\rising l.body=true/\l.body.all (fun k=>inR k n&&decide (k≠l.head))=true)/\l.variant.valid p.cells false=true/\overOk p l.variant true t=true:=by
 unfold zaA;cases inR l.head n<;>cases rising l.body<;>cases l.body.all (fun k=>inR k n&&decide (k≠l.head))<;>cases l.variant.valid p.cells false<;>cases overOk p l.variant true t<;>simp
theorem threadErr_iff {p:Prog} {i:Nat} {x:Thread}:(threadErr p i x).1=0<->isLabel x.name=true/\(p.threads.take i).any (fun d=>d.name.toList==x.name.toList)=false/\(1<=x.points/\(x.asserts.length:Int)=x.points/\(x.modules.length:Int)=x.points)/\
 x.modules.all (fun m=>inR m p.modules.length)=true/\x.asserts.all (fun e=>truthOk p e false i)=true/\(∀(j:Nat) (s:Step),x.steps[j]? =some s->stepErr p i x.points s=0)/\(∀(j:Nat) (l:Loop),x.loops[j]? =some l->zaA p i x.points l=0):=by
 unfold threadErr;have hs:(feGo (fun _ s=>stepErr p i x.points s) 0 x.steps).1=0<-> ∀(j:Nat) (s:Step),x.steps[j]? =some s->stepErr p i x.points s=0:=by rw[fe_all]
 have hl:(feGo (fun _ l=>zaA p i x.points l) 0 x.loops).1=0<-> ∀(j:Nat) (l:Loop),x.loops[j]? =some l->zaA p i x.points l=0:=by rw[fe_all]
 rw[<- hs,<- hl];cases isLabel x.name
 ·simp
 ·cases(p.threads.take i).any (fun d=>d.name.toList==x.name.toList)
  ·by_cases h1:x.points<1\/ ¬(x.asserts.length:Int)=x.points\/ ¬(x.modules.length:Int)=x.points
   ·simp only[Bool.not_true,zG,if_false,if_pos h1];constructor
    ·intro h;cases h
    ·rintro⟨_,_,h,_⟩;omega
   ·have h1':1<=x.points/\(x.asserts.length:Int)=x.points/\(x.modules.length:Int)=x.points:=by omega
    simp only[Bool.not_true,zG,if_false,if_neg h1];cases x.modules.all (fun m=>inR m p.modules.length)
    ·simp
    ·cases x.asserts.all (fun e=>truthOk p e false i)
     ·simp
     ·by_cases h0:(feGo (fun _ s=>stepErr p i x.points s) 0 x.steps).1=0
      ·simp[h0,h1']
      ·simp[h0,h1']
  ·simp
theorem limits_iff {p:Prog}:(limitsM p).1=0<->(p.cells.length<=32/\p.modules.length<=6/\p.locks.length<=4/\p.threads.length<=4)/\ ∀x∈p.threads,x.points<=48/\x.steps.length<=64/\x.loops.length<=8:=by
 unfold limitsM;split
 ·rename_i h;constructor
  ·intro h;cases h
  ·rintro⟨h',_⟩;omega
 ·rename_i h;rw[fe_all];constructor
  ·intro h2;refine⟨by omega,fun x hx=> ?_⟩;obtain⟨j,hj,rfl⟩:=List.mem_iff_getElem.1 hx;have:=h2 j _ (zI hj);cases hb:zao p.threads[j]
   ·simp only[zao,Bool.or_eq_false_iff,decide_eq_false_iff_not]at hb;omega
   ·simp[hb]at this
  ·rintro⟨_,h2⟩ j x hx;have:=h2 x (List.mem_of_getElem? hx)
   have hb:zao x=false:=by
    simp only[zao,Bool.or_eq_false_iff,decide_eq_false_iff_not];omega
   simp[hb]
end Rg
end
section
set_option maxRecDepth 100000
namespace Rg
open Go
def zsK (ws:List (List UInt8)):List UInt8:=Go.Lib.join ws [32]++[10]
def inI (z:Int):Prop:= -9223372036854775808<=z/\z<=9223372036854775807
end Rg
end
section
set_option maxRecDepth 100000
namespace Rg
open Go
def loopW (l:Loop):List (List UInt8):=[[108,111,111,112],num l.head,l.variant.text]
def loopX (l:Loop):List UInt8:=zsK (loopW l++l.body.map num)
structure Prog.few (p:Prog):Prop where
 frame: ∀m∈p.modules,m.frame.length<=60
 sets: ∀x∈p.threads,∀s∈x.steps,s.set.length<=40
 body: ∀x∈p.threads,∀l∈x.loops,l.body.length<=60
structure Nums (p:Prog):Prop where
 cell: ∀c∈p.cells,isLabel c.name=true/\inI c.w/\inI c.init/\inI c.thread/\inI c.module
 mods: ∀m∈p.modules,isLabel m.name=true/\isLabel m.owner=true/\ ∀z∈m.frame,inI z
 lock: ∀l∈p.locks,inI l.cell/\inI l.module
 thr: ∀x∈p.threads,isLabel x.name=true/\x.asserts.length<=48/\x.modules.length=x.asserts.length/\x.steps.length<=64/\x.loops.length<=8/\(∀z∈x.modules,inI z)/\
  (∀s∈x.steps,inI s.kind/\inI s.fr/\inI s.to/\inI s.target/\inI s.module/\ ∀a∈s.set,inI a.cell)/\ ∀l∈x.loops,inI l.head/\ ∀z∈l.body,inI z
 lens:p.cells.length<=32/\p.modules.length<=6/\p.locks.length<=4/\p.threads.length<=4
end Rg
end
section
set_option maxRecDepth 100000
namespace Rg
open Go
theorem Bld.updR {h:Nat->Option O} {k q:Nat} {l:List UInt8} {o o':Option O} (hb:Bld h k l) (hq:h q=o') (ho: ∀x,o'≠some (.raw x)):Bld (updC h q o) k l:=by
 subst hq;rcases hb with⟨h1,h2⟩ | ⟨g,h1,h2,h3⟩
 ·exact .inl ⟨by rw[zac,if_neg (by rintro rfl;exact ho _ h1)];exact h1,h2⟩
 ·refine .inr ⟨g,?_,?_,h3⟩
  ·rw[zac,if_neg (by rintro rfl;exact ho _ h1)];exact h1
  ·rw[zac,if_neg (by rintro rfl;exact ho _ h2)];exact h2
theorem zhv.lt {h:Nat->Option O} {n k:Nat} {o:O} (hf:zhv h n) (hk:h k=some o):k<n:=by
 rcases Nat.lt_or_ge k n with h0 | h0
 ·exact h0
 ·have:=hf k h0;rw[hk]at this;cases this
theorem Bld.frame {h h':Nat->Option O} {k:Nat} {l:List UInt8} (hb:Bld h k l) (hf: ∀j x,h j=some (.raw x)->h' j=h j):Bld h' k l:=by
 rcases hb with⟨h1,h2⟩ | ⟨g,h1,h2,h3⟩
 ·exact .inl ⟨by rw[hf k _ h1];exact h1,h2⟩
 ·exact .inr ⟨g,by rw[hf k _ h1];exact h1,by rw[hf g _ h2];exact h2,h3⟩
structure ThrOk (x:Thread):Prop where
 name:isLabel x.name=true
 al:x.asserts.length<=48
 ml:x.modules.length=x.asserts.length
 sl:x.steps.length<=64
 ll:x.loops.length<=8
 mi: ∀z∈x.modules,inI z
 st: ∀s∈x.steps,inI s.kind/\inI s.fr/\inI s.to/\inI s.target/\inI s.module/\(∀a∈s.set,inI a.cell)/\s.set.length<=40
 lp: ∀l∈x.loops,inI l.head/\(∀z∈l.body,inI z)/\l.body.length<=60
end Rg
end
section
set_option maxRecDepth 100000
namespace Rg
open Go
end Rg
end
section
namespace Rg
open Go
theorem zbe: ∀l:List Int,intsOf (rowsI l)=some l
 | []=>rfl
 | a::l=>by
   have:rowsI (a::l)=[.t (.int .i64 a)]::rowsI l:=rfl;rw[this,intsOf,zbe l];rfl
theorem zbw (l:List Int):ofInts l=rowsI l:=by simp[ofInts,rowsI]
def sortedM (l:List Int):List Int:=Go.Lib.compact (l.mergeSort fun x y=>decide (x<=y))
theorem zif (l:List Int) (x:Int):x∈Go.Lib.compact l<->x∈l:=by
 unfold Go.Lib.compact Go.Lib.compactUpTo;simp only[List.mem_map,List.mem_filter,List.mem_range];constructor
 ·rintro⟨j,⟨hj,_⟩,rfl⟩;simp[hj]
 ·intro hx;obtain⟨i,hi⟩:=List.getElem?_of_mem hx
  have key: ∀i:Nat,l[i]? =some x-> ∃a,(a<l.length/\Go.Lib.keeps l.toArray a=true)/\l.toArray[a]! =x:=by
   intro i
   induction i with
   | zero=>
     intro h;obtain⟨h1,h2⟩:=zH.1 h
     exact⟨0,⟨h1,by simp[Go.Lib.keeps]⟩,by simp[h1,h2]⟩
   | succ i ih=>
     intro h;obtain⟨h1,h2⟩:=zH.1 h
     by_cases he:l[i]? =some x
     ·exact ih he
     ·refine⟨i+1,⟨h1,?_⟩,by simp[h1,h2]⟩;have hi:i<l.length:=by omega
      have : ¬l[i+1]=l[i]:=by
       intro hh;rw[zI hi]at he;exact he (by rw[<- hh,h2])
      simp[Go.Lib.keeps,h1,hi,this]
  exact key i hi
theorem zhC (l:List Int) (x:Int):x∈sortedM l<->x∈l:=by
 rw[sortedM,zif,List.mem_mergeSort]
theorem znr (l:List Int):(Go.Lib.compact l).length<=l.length:=by
 unfold Go.Lib.compact Go.Lib.compactUpTo;rw[List.length_map];exact Nat.le_trans (List.length_filter_le _ _) (by simp)
theorem zeu (l:List Int):(sortedM l).length<=l.length:=by
 have:=znr (l.mergeSort fun x y=>decide (x<=y));rwa[List.length_mergeSort]at this
theorem sorted_den (H:Nat->Option O) (x n:Nat) (v:V) (l:List Int) (ho:OwnB H x v 1 (rowsI l)) (hl:l.length<2^40):
 ∃r h' n',DenR Γ G 57 [v] H n=some (r,h',n')/\r= .t (ints (sortedM l)):=by
 (refine denR_ofY Γ57 rfl ?_;dsimp only[f57])
 rcases ho with⟨rfl,hr⟩ | ⟨k,rfl,hk,hh⟩
 ·have hl0:l=[]:=by
   have:=congrArg List.length hr;rw[zai]at this;exact List.eq_nil_of_length_eq_zero this
  subst hl0;have a1: ∀n,DenR Γ G 74 [.t .nils] H n=some (.tup [],H,n):=fun n=>zbr Γ74 rfl rfl rfl
  have a2: ∀n,DenR Γ G 75 [.t .nils] H n=some (.t (.sl []),H,n):=fun n=>zbr Γ75 rfl rfl rfl
  simp -dsimp only[go_sem,seval,a1,a2];rw[sortedM,List.mergeSort_nil];rfl
 ·rw[zai];have s1:(l.mergeSort fun x y=>decide (x<=y)).length=l.length:=List.length_mergeSort _
  have a1: ∀n,DenR Γ G 74 [.ms k 0 l.length] H n=some (.tup [],upd H k (some (.rows 1 (rowsI (l.mergeSort fun x y=>decide (x<=y))) false)),n):=fun n=>zbr Γ74 rfl rfl (by
   simp only[zwb,hh,zbe,zD,zbw]
   rw[if_pos (by exact⟨trivial,by omega⟩)])
  have a2: ∀n,DenR Γ G 75 [.ms k 0 l.length] (upd H k (some (.rows 1 (rowsI (l.mergeSort fun x y=>decide (x<=y))) false))) n=some (.t (ints (sortedM l)),upd (upd H k (some (.rows 1 (rowsI (l.mergeSort fun x y=>decide (x<=y))) false))) k (some (.rows 1 (rowsI (sortedM l++List.replicate (l.length-(sortedM l).length) 0)) true)),n):=fun n=>zbr Γ75 rfl rfl (by
   simp only[zwb,upd_same,zbe,zD,zbw]
   rw[if_pos ⟨s1,by omega⟩,s1];rfl)
  simp -dsimp only[go_sem,seval,a1,a2];rfl
def writesM (s:Step):List Int:=sortedM (s.set.map Assign.cell)
theorem zjc (s:Step) (hs:s.set.length<2^31):Den Γ G 28 [(.agg [.t (ti (s).kind),.t (ti (s).fr),.t (ti (s).to),.t (ti ((s).guard).op),.t (ti ((s).guard).w),.t (ti ((s).guard).n),.t (.sl (((s).guard).kids.map Expr.enc)),.t (.sl ((s).set.map Assign.enc)),.t (tb (s).release),.t (ti (s).target),.t (ti (s).module)])]=some (.t (ints (writesM s))):=by
 (refine den_ofY Γ28 rfl ?_;dsimp only[f28])
 simp -dsimp only[go_sem,seval];refine zaj 523816 s.set.length (fun i f h x=>(f 9).v=vi i/\OwnB h x (f 3).v 1 (rowsI ((s.set.map Assign.cell).take i))) rfl ⟨by simp -dsimp only[go_sem,seval],.inl ⟨by simp -dsimp only[go_sem,seval],rfl⟩⟩ ?_;rintro i f u H x bs hi ⟨h9,hown⟩;have hw:=zah i (by omega);simp -dsimp only[go_sem,seval,h9];refine csplit (fun h=> ?_) (fun h=> ?_)<;>(try rw[h])<;>(try simp only[zab]at h)<;>(try simp -dsimp only[go_sem,seval,h9])
 ·obtain⟨a,ha,_⟩:=zaf ‹i<s.set.length›;have ha':(s.set.map Assign.cell)[i]? =some a.cell:=by simp[ha]
  have v1:=hown.valOf;have v2:=hown.r2;have v3:=hown.r3;simp -dsimp only[go_sem,seval,h9,ha,v1,v2,v3];refine zas (hown.upd (by omega) _) (by omega) (by rw[zai];simp;omega) (by decide) rfl (rowsI_all _) ?_;intro v hp hO hoffs hkeep;have w1:=hO.valOf;rw[show rowsI ((s.set.map Assign.cell).take i)++[[V.t (ti a.cell)]]=rowsI ((s.set.map Assign.cell).take (i+1))from by rw[zae ha',za6]]at hO;simp -dsimp only[go_sem,seval,w1,h9];exact⟨by omega,by simp -dsimp only[go_sem,seval,hw],by simp -dsimp only[go_sem,seval];exact hO.le (by omega)⟩
 ·have:i=s.set.length:=by omega
  subst this;rw[show(s.set.map Assign.cell).take s.set.length=s.set.map Assign.cell from List.take_of_length_le (by simp)]at hown;have v1:=hown.valOf;simp -dsimp only[go_sem,seval,v1];refine zav (sorted_den H x _ _ _ hown (by simp;omega)) ?_;rintro r h' n' rfl;simp -dsimp only[go_sem,seval];rfl
def readsM (s:Step):List Int:=sortedM (s.guard.sup 2++s.set.flatMap fun a=>a.to.sup 2)
def readsL (s:Step) (i:Nat):List Int:=s.guard.sup 2++(s.set.take i).flatMap fun a=>a.to.sup 2
theorem zdO (s:Step) (i:Nat):(readsL s i).length<=32+32*i:=by
 unfold readsL;have h0:=zdc 2 s.guard
 have : ∀l:List Assign,(l.flatMap fun a=>a.to.sup 2).length<=32*l.length:=by
  intro l
  induction l with
  | nil=>simp
  | cons a l ih=>
    have:=zdc 2 a.to;simp only[List.flatMap_cons,List.length_append,List.length_cons];omega
 have h1:=this (s.set.take i);have h2:(s.set.take i).length<=i:=by simp;omega
 rw[List.length_append];omega
theorem zhK {s:Step} {i:Nat} {a:Assign} (h:s.set[i]? =some a):readsL s (i+1)=readsL s i++a.to.sup 2:=by
 unfold readsL;rw[zae h,List.flatMap_append,List.append_assoc];simp
theorem zkz (s:Step) (hs:s.set.length<2^20):Den Γ G 31 [(.agg [.t (ti (s).kind),.t (ti (s).fr),.t (ti (s).to),.t (ti ((s).guard).op),.t (ti ((s).guard).w),.t (ti ((s).guard).n),.t (.sl (((s).guard).kids.map Expr.enc)),.t (.sl ((s).set.map Assign.enc)),.t (tb (s).release),.t (ti (s).target),.t (ti (s).module)])]=some (.t (ints (readsM s))):=by
 (refine den_ofY Γ31 rfl ?_;dsimp only[f31])
 simp -dsimp only[go_sem,seval];refine zav (nxt_of (supportP_den s.guard _ _)) ?_;rintro r h0 n0 ⟨⟨u3,u2,rfl,o3,o2,_,_⟩,hn0⟩;have x3:=o3.valOf;have x2:=o2.valOf;simp -dsimp only[go_sem,seval,x3,x2];refine zaj 4294705616 s.set.length (fun i f h x=>(f 18).v=vi i/\OwnB h x (f 4).v 1 (rowsI (readsL s i))) rfl ⟨by simp -dsimp only[go_sem,seval],?_⟩ ?_
 ·simp -dsimp only[go_sem,seval];have:readsL s 0=s.guard.sup 2:=by simp[readsL]
  rw[this];exact o2.le (by omega)
 rintro i f u H x bs hi ⟨h18,hown⟩;have hw:=zah i (by omega);simp -dsimp only[go_sem,seval,h18];refine csplit (fun h=> ?_) (fun h=> ?_)<;>(try rw[h])<;>(try simp only[zab]at h)<;>(try simp -dsimp only[go_sem,seval,h18])
 ·obtain⟨a,ha,_⟩:=zaf ‹i<s.set.length›;have v1:=hown.valOf;simp -dsimp only[go_sem,seval,h18,ha,v1];refine zav (nxt_of (supportP_den a.to _ _)) ?_;rintro r h1 n1 ⟨⟨w3,w2,rfl,p3,p2,hle1,hkp⟩,hn1⟩;have y3:=p3.valOf;have y2:=p2.valOf;have hown':OwnB h1 n1 (f 4).v 1 (rowsI (readsL s i)):=hown.keep (by omega) (fun k hk _=>(hkp k (by omega)).1);have z1:=hown'.rowsS;have z2:=p2.rowsS;simp -dsimp only[go_sem,seval,h18,v1,y3,y2,z1,z2];have hrl:=zdO s i;have hsl:=zdc 2 a.to;refine zmM hown' (by omega) (by rw[zai,zai];omega) (by decide) (rowsI_all _) (rowsI_all _) ?_;intro v hp hO _ _;have hap:rowsI (readsL s i)++rowsI (a.to.sup 2)=rowsI (readsL s (i+1)):=by rw[zhK ha];simp[rowsI]
  rw[hap]at hO;have w1:=hO.valOf;simp -dsimp only[go_sem,seval,w1,h18];exact⟨by omega,by simp -dsimp only[go_sem,seval,hw],by simp -dsimp only[go_sem,seval];exact hO.le (by omega)⟩
 ·have:i=s.set.length:=by omega
  subst this;have v1:=hown.valOf;have hrl:=zdO s s.set.length;simp -dsimp only[go_sem,seval,v1];refine zav (sorted_den H x _ _ _ hown (by omega)) ?_;rintro r h' n' rfl;have hrm:readsM s=sortedM (readsL s s.set.length):=by simp[readsM,readsL]
  rw[hrm];simp -dsimp only[go_sem,seval]
  (try rfl)
def idxN {α:Type} (f:α->Bool) (l:List α) (i:Nat):List Int:=((l.take i).zipIdx.filter fun q=>f q.1).map fun q=>(q.2:Int)
def zsT {α:Type} (f:α->Bool) (l:List α):List Int:=idxN f l l.length
theorem zlr {α:Type} (f:α->Bool) {l:List α} {i:Nat} {x:α} (h:l[i]? =some x):idxN f l (i+1)=idxN f l i++if f x then [(i:Int)]else []:=by
 unfold idxN;have hi:i<l.length:=(zH.1 h).1;rw[zae h,List.zipIdx_append,List.filter_append,List.map_append];have e:0+(l.take i).length=i:=by simp;omega
 rw[e];cases hf:f x<;>simp[hf]
theorem ziT {α:Type} (f:α->Bool) (l:List α) (i:Nat):(idxN f l i).length<=i:=by
 unfold idxN;rw[List.length_map];refine Nat.le_trans (List.length_filter_le _ _) ?_;simp;omega
theorem zlq {α:Type} (f:α->Bool) (l:List α):idxN f l 0=[]:=by simp[idxN]
def ofM (p:Prog) (t:Int):List Int:=zsT (fun c:Cell=>decide (c.thread=t)) p.cells
theorem zoD (p:Prog) (t:Int) (hl:p.cells.length<2^31):Den Γ G 253 [(.agg [.t (.sl ((p).cells.map (Cell.enc))),.t (.sl ((p).modules.map (Contract.enc))),.t (.sl ((p).locks.map (Lock.enc))),.t (.sl ((p).threads.map (Thread.enc)))]),vi t]=some (.t (ints (ofM p t))):=by
 (refine den_ofY Γ253 rfl ?_;dsimp only[zrJ])
 simp -dsimp only[go_sem,seval];refine zaj 33552608 p.cells.length (fun i f h x=>(f 11).v=vi i/\OwnB h x (f 5).v 1 (rowsI (idxN (fun c:Cell=>decide (c.thread=t)) p.cells i))) rfl ⟨by simp -dsimp only[go_sem,seval],.inl ⟨by simp -dsimp only[go_sem,seval],by rw[zlq];rfl⟩⟩ ?_;rintro i f u H x bq hi ⟨h11,hown⟩;have hw:=zah i (by omega);simp -dsimp only[go_sem,seval,h11];refine csplit (fun h=> ?_) (fun h=> ?_)<;>(try rw[h])<;>(try simp only[zab]at h)<;>(try simp -dsimp only[go_sem,seval,h11])
 ·obtain⟨c,hc,_⟩:=zaf ‹i<p.cells.length›;have hsucc:=zlr (fun c:Cell=>decide (c.thread=t)) hc;have hln:=ziT (fun c:Cell=>decide (c.thread=t)) p.cells i;have v1:=hown.valOf;have v2:=hown.r2;have v3:=hown.r3;have v4:=hown.r4;simp -dsimp only[go_sem,seval,h11,hc];refine csplit (fun h=> ?_) (fun h=> ?_)<;>(try rw[h])<;>(try simp only[zab]at h)<;>(try simp -dsimp only[go_sem,seval,h11])
  ·rw[if_pos (by simpa using h)]at hsucc;simp -dsimp only[go_sem,seval,h11,v1,v2,v3,v4];refine zas (hown.upd (by omega) _) (by omega) (by rw[zai];simp;omega) (by decide) rfl (rowsI_all _) ?_;intro v hp hO hoffs hkeep;have w1:=hO.valOf;rw[<- za6,<- hsucc]at hO;simp -dsimp only[go_sem,seval,w1,h11];exact⟨by omega,by simp -dsimp only[go_sem,seval,hw],by simp -dsimp only[go_sem,seval];exact hO.le (by omega)⟩
  ·rw[if_neg (by simpa using h),List.append_nil]at hsucc;refine⟨by omega,by simp -dsimp only[go_sem,seval,hw],?_⟩;simp -dsimp only[go_sem,seval,hsucc];exact hown.le (by omega)
 ·have:i=p.cells.length:=by omega
  subst this;have v1:=hown.valOf;have hre:=hown.reify (ints_norm _);have v5:=hown.resVal;simp only[Rg.resVal]at v5;simp -dsimp only[go_sem,seval,v1,v5];exact hre
theorem zgF (p:Prog) (hl:p.cells.length<2^31):Den Γ G 228 [(.agg [.t (.sl ((p).cells.map (Cell.enc))),.t (.sl ((p).modules.map (Contract.enc))),.t (.sl ((p).locks.map (Lock.enc))),.t (.sl ((p).threads.map (Thread.enc)))])]=some (.t (ints (ofM p (-1)))):=by
 (refine den_ofY Γ228 rfl ?_;dsimp only[f228])
 have h1:=zoD p (-1) hl;simp -dsimp only[go_sem,seval,h1]
end Rg
end
section
namespace Rg
open Go
structure Acc where
 th:Nat
 st:Nat
 ce:Nat
 wr:Bool
 deriving DecidableEq,Inhabited
def Acc.enc (a:Acc):List T:=[ti a.th,ti a.st,ti a.ce,tb a.wr]
attribute [go_sem] Acc.enc
structure Gr where
 nc:Nat
 nt:Nat
 all:List Acc
 cls:List Nat
 msk:List Nat
 ld:List (List Nat)
 qk:List (List Nat)
 ear:Acc->Bool
 lat:Acc->Bool
namespace Gr
variable (g:Gr)
def sz:Nat:=2*(g.nc+g.nt)
def thr (c:Nat):Nat:=c/ g.sz
def prec (c d:Nat):Bool:=precM g.nc g.nt c d
def mks (c:Nat):Nat:=g.msk.getD c 0
def ac (i:Nat):Acc:=g.all.getD i default
def cl (i:Nat):Nat:=g.cls.getD i 0
def ldAt (t i:Nat):Nat:=(g.ld.getD t []).getD i 0
def qkAt (t i:Nat):Nat:=(g.qk.getD t []).getD i 0
def partner (a b:Nat):Bool:=decide (a≠b)&&(decide ((g.ac a).th=(g.ac b).th)&&(decide ((g.ac a).st=(g.ac b).st)||(g.ldAt (g.ac a).th (g.ac a).st).testBit (g.ac b).st))
def rowC (same:Bool) (i m:Nat):Nat:=if same then(m ||| 1<<< i)&&& (2^64-1-1<<< i)else m ||| 1<<< i
def couple (c d:Nat):Bool:=meetsM (g.mks c) (g.mks d) ((g.ld.getD (g.thr c) []).mapIdx fun i m=>rowC (decide (c=d)) i m)
def ok (c d m:Nat):Bool:=decide (g.mks d≠0)&&(!m.testBit (g.thr d)&&g.prec c d)
def ends:Nat->Nat->Nat->Nat->Bool
 | 0,goal,c,_=>g.prec c goal
 | 1,goal,c,m=>(List.range g.msk.length).any fun d=>g.ok c d m&&ends 0 goal d (m ||| 1<<< g.thr d)
 | r+2,goal,c,m=>(List.range g.msk.length).any fun d=>g.ok c d m&&(ends (r+1) goal d (m ||| 1<<< g.thr d) ||
    (List.range g.msk.length).any fun e=>decide (g.thr e=g.thr d)&&(g.couple d e&&ends r goal e (m ||| 1<<< g.thr d)))
def opens (r goal c m:Nat):Bool:=g.ends r goal c m||(decide (0<r)&&(List.range g.msk.length).any fun e=>decide (g.thr e=g.thr c)&&(g.couple c e&&g.ends (r-1) goal e m))
theorem ends_succ (r goal c m:Nat):g.ends (r+1) goal c m=(List.range g.msk.length).any fun d=>g.ok c d m&&g.opens r goal d (m ||| 1<<< g.thr d):=by
 cases r with
 | zero=>simp[ends,opens]
 | succ r=>simp[ends,opens]
def begins (r goal a m:Nat):Bool:=g.ends r goal (g.cl a) m||(decide (0<r)&&(List.range g.all.length).any fun b=>g.partner a b&&g.ends (r-1) goal (g.cl b) m)
def delay (a b:Nat):Bool:=decide ((g.ac a).th=(g.ac b).th)&&(decide ((g.ac a).ce≠(g.ac b).ce)&&((g.qkAt (g.ac a).th (g.ac a).st).testBit (g.ac b).st&&(g.ear (g.ac a)&&g.lat (g.ac b))))
def maskF (f:Acc->Bool) (c i:Nat):Nat:=((g.all.zip g.cls).take i).foldl (fun m q=>if f q.1&&decide (q.2=c)then m ||| 1<<< q.1.st else m) 0
def eaM (c:Nat):Nat:=g.maskF g.ear c g.all.length
def laM (c:Nat):Nat:=g.maskF g.lat c g.all.length
def isPair (c d:Nat):Bool:=decide (g.eaM c≠0)&&(decide (g.laM d≠0)&&(decide (g.thr c=g.thr d)&&(decide (c/ 2≠d/ 2)&&meetsM (g.eaM c) (g.laM d) (g.qk.getD (g.thr c) []))))
def pairs:List (Nat×Nat):=(List.range g.msk.length).flatMap fun c=>((List.range g.msk.length).filter fun d=>g.isPair c d).map fun d=>(c,d)
def atRest (r:Nat):Bool:=g.pairs.any fun x=>g.ends r x.1 x.2 (1<<< g.thr x.2)
def shortest:Option Nat:=((List.range (2*(g.nt-1))).map (· +1)).find? g.atRest
def visit (last m:Nat) (op:Bool) (c:Nat):Bool×Bool:=(op&&g.partner last c,!m.testBit (g.ac c).th&&g.prec (g.cl last) (g.cl c))
def next(goal last m:Nat) (op:Bool) (r c:Nat):Bool:=
 if(g.visit last m op c).1 then g.ends r goal (g.cl c) m else(g.visit last m op c).2&&g.begins r goal c (m ||| 1<<< (g.ac c).th)
def follow (goal:Nat):Nat->Nat->Nat->Bool->Option (List Acc)
 | 0,_,_,_=>some []
 | r+1,last,m,op=>match(List.range g.all.length).find? (g.next goal last m op r)with
   | none=>none
   | some c=>if(g.visit last m op c).1 then(follow goal r c m false).map (g.ac c:: ·)else(follow goal r c (m ||| 1<<< (g.ac c).th) true).map (g.ac c:: ·)
def starts (r a b:Nat):Bool:=g.delay a b&&g.ends r (g.cl a) (g.cl b) (1<<< (g.ac b).th)
def first(r:Nat):Option (List Acc):=match((List.range g.all.length).flatMap fun a=>(List.range g.all.length).map fun b=>(a,b)).find? fun x=>g.starts r x.1 x.2 with
 | none=>none
 | some x=>(g.follow (g.cl x.1) r x.2 (1<<< (g.ac x.2).th) false).map fun l=>g.ac x.1::g.ac x.2::l
end Gr
def maskS (f:Step->Bool) (l:List Step):Nat:=(l.zipIdx).foldl (fun m q=>if f q.1 then m ||| 1<<< q.2 else m) 0
def reach0 (l:List Step):List Nat:=l.map fun x=>maskS (fun y=>decide (x.to=y.fr)) l
def reachS (k:Nat) (r:List Nat):List Nat:=r.map fun m=>if m.testBit k then m ||| r.getD k 0 else m
def reachN (inner:Step->Bool) (l:List Step) (i:Nat):List Nat:=((l.zipIdx).take i).foldl (fun r q=>if inner q.1 then reachS q.2 r else r) (reach0 l)
def reachM (inner:Step->Bool) (l:List Step):List Nat:=reachN inner l l.length++List.replicate (64-l.length) 0
def innerM (s:Step):Bool:=decide (s.kind=1)||(decide (s.kind=2)||(decide (s.kind=3)&& !s.release))
def accsC (t i:Nat) (s:Step) (l:List Int):List Acc:=l.flatMap fun c=>(if c∈readsM s then [⟨t,i,c.toNat,false⟩]else [])++(if c∈writesM s then [⟨t,i,c.toNat,true⟩]else [])
def accsS (p:Prog) (t i:Nat) (s:Step):List Acc:=
 if s.kind=6\/s.kind=7 then [⟨t,i,p.cells.length+s.target.toNat,true⟩]else accsC t i s (ofM p (-1))
def accsT (p:Prog) (t:Nat) (l:List Step) (i:Nat):List Acc:=(l.take i).zipIdx.flatMap fun q=>accsS p t q.2 q.1
def accsN (p:Prog) (k:Nat):List Acc:=(p.threads.take k).zipIdx.flatMap fun q=>accsT p q.2 q.1.steps q.1.steps.length
def accsM (p:Prog):List Acc:=accsN p p.threads.length
def Prog.stepAt (p:Prog) (t i:Nat):Step:=((p.threads.getD t default).steps).getD i default
def clsM (p:Prog) (a:Acc):Nat:=a.th*(2*(p.cells.length+p.threads.length))+2*a.ce+if(a.wr&&decide (a.ce<p.cells.length))||decide ((p.stepAt a.th a.st).kind=7)then 1 else 0
def grM (p:Prog) (model:Int):Gr where
 nc:=p.cells.length
 nt:=p.threads.length
 all:=accsM p
 cls:=(accsM p).map (clsM p)
 msk:=(List.range (p.threads.length*(2*(p.cells.length+p.threads.length)))).map fun c=>(accsM p).foldl (fun m a=>if clsM p a=c then m ||| 1<<< a.st else m) 0
 ld:=p.threads.map fun x=>reachM (fun _=>true) x.steps
 qk:=p.threads.map fun x=>reachM innerM x.steps
 ear a:=a.wr&&decide ((p.stepAt a.th a.st).kind=3)
 lat a:=lateM model (p.stepAt a.th a.st).kind (p.stepAt a.th a.st).release a.wr
def validB (p:Prog):Bool:=decide ((validM p).1=0)
def robM (p:Prog) (model:Int):Bool:=validB p&&(grM p model).shortest.isNone
end Rg
end
section
namespace Rg
open Go
theorem zl1 (k j:Nat):(1<<< k).testBit j=decide (k=j):=by rw[Nat.one_shiftLeft,Nat.testBit_two_pow]
theorem zcE {α:Type} (P:α->Bool) (k:α->Nat) (j:Nat): ∀(l:List α) (m:Nat),(l.foldl (fun m q=>if P q then m ||| 1<<< k q else m) m).testBit j=(m.testBit j||l.any fun q=>P q&&decide (k q=j))
 | [],m=>by simp
 | x::l,m=>by
   rw[List.foldl_cons,zcE P k j l,List.any_cons];cases h:P x
   ·simp
   ·rw[if_pos rfl,Nat.testBit_or,zl1];simp[Bool.or_assoc]
theorem za8 {m:Nat}:m≠0<-> ∃j,m.testBit j=true:=by
 constructor
 ·intro h;exact Nat.exists_testBit_of_ne_zero h
 ·rintro⟨j,hj⟩ rfl;simp at hj
theorem zeI {a b:Nat} {r:List Nat}:meetsM a b r=true<-> ∃i j,i<64/\a.testBit i=true/\(r.getD i 0).testBit j=true/\b.testBit j=true:=by
 simp only[meetsM,List.any_eq_true,List.mem_range,zF,bne_iff_ne];constructor
 ·rintro⟨i,hi,ha,hb⟩;obtain⟨j,hj⟩:=za8.1 hb;rw[Nat.testBit_and,zF]at hj;exact⟨i,j,hi,ha,hj.1,hj.2⟩
 ·rintro⟨i,j,hi,ha,h1,h2⟩;exact⟨i,hi,ha,za8.2 ⟨j,by rw[Nat.testBit_and,h1,h2];rfl⟩⟩
def zmc (a b:Nat):Prop:= ∀j,a.testBit j=true->b.testBit j=true
theorem zmc.ne {a b:Nat} (h:zmc a b) (ha:a≠0):b≠0:=by
 obtain⟨j,hj⟩:=za8.1 ha;exact za8.2 ⟨j,h j hj⟩
theorem zdR {a a' b b':Nat} {r r':List Nat} (ha:zmc a a') (hb:zmc b b') (hr: ∀i,a.testBit i=true->zmc (r.getD i 0) (r'.getD i 0)) (h:meetsM a b r=true):meetsM a' b' r'=true:=by
 obtain⟨i,j,hi,h1,h2,h3⟩:=zeI.1 h;exact zeI.2 ⟨i,j,hi,ha i h1,hr i h1 j h2,hb j h3⟩
namespace Gr
variable {g:Gr}
theorem maskF_bit (f:Acc->Bool) (c i j:Nat):(g.maskF f c i).testBit j=true<-> ∃q∈(g.all.zip g.cls).take i,f q.1=true/\q.2=c/\q.1.st=j:=by
 rw[maskF,zcE (fun q:Acc×Nat=>f q.1&&decide (q.2=c)) (fun q=>q.1.st)];simp only[Nat.zero_testBit,Bool.false_or,List.any_eq_true,zF,decide_eq_true_eq];constructor
 ·rintro⟨q,h1,⟨h2,h3⟩,h4⟩;exact⟨q,h1,h2,h3,h4⟩
 ·rintro⟨q,h1,h2,h3,h4⟩;exact⟨q,h1,⟨h2,h3⟩,h4⟩
theorem maskF_mono {f f':Acc->Bool} (h: ∀a∈g.all,f a=true->f' a=true) (c i:Nat):zmc (g.maskF f c i) (g.maskF f' c i):=by
 intro j hj;obtain⟨q,h1,h2,h3,h4⟩:=(maskF_bit f c i j).1 hj;exact(maskF_bit f' c i j).2 ⟨q,h1,h q.1 (by have:=List.of_mem_zip (List.mem_of_mem_take h1);exact this.1) h2,h3,h4⟩
theorem zjq {f:Acc->Bool} (h: ∀a∈g.all,f a=false) (c i:Nat):g.maskF f c i=0:=by
 apply Classical.byContradiction;intro hn;obtain⟨j,hj⟩:=za8.1 hn;obtain⟨q,h1,h2,_⟩:=(maskF_bit f c i j).1 hj;rw[h q.1 (List.of_mem_zip (List.mem_of_mem_take h1)).1]at h2;exact absurd h2 (by decide)
theorem mem_pairs {c d:Nat}:(c,d)∈g.pairs<->c<g.msk.length/\d<g.msk.length/\g.isPair c d=true:=by
 simp only[pairs,List.mem_flatMap,List.mem_range,List.mem_map,List.mem_filter,Prod.mk.injEq];constructor
 ·rintro⟨c',h1,d',⟨h2,h3⟩,rfl,rfl⟩;exact⟨h1,h2,h3⟩
 ·rintro⟨h1,h2,h3⟩;exact⟨c,h1,d,⟨h2,h3⟩,rfl,rfl⟩
theorem isPair_iff {c d:Nat}:g.isPair c d=true<->g.eaM c≠0/\g.laM d≠0/\g.thr c=g.thr d/\c/ 2≠d/ 2/\meetsM (g.eaM c) (g.laM d) (g.qk.getD (g.thr c) [])=true:=by
 simp only[isPair,zF,decide_eq_true_eq]
theorem shortest_none:g.shortest=none<-> ∀r,1<=r->r<=2*(g.nt-1)->g.atRest r=false:=by
 simp only[shortest,List.find?_eq_none,List.mem_map,List.mem_range];constructor
 ·intro h r h1 h2;have:=h r ⟨r-1,by omega,by omega⟩;simpa using this
 ·rintro h x ⟨a,ha,rfl⟩;rw[h _ (by omega) (by omega)];simp
theorem atRest_iff {r:Nat}:g.atRest r=true<-> ∃c d,c<g.msk.length/\d<g.msk.length/\g.isPair c d=true/\g.ends r c d (1<<< g.thr d)=true:=by
 simp only[atRest,List.any_eq_true];constructor
 ·rintro⟨⟨c,d⟩,h1,h2⟩;obtain⟨a,b,e⟩:=mem_pairs.1 h1;exact⟨c,d,a,b,e,h2⟩
 ·rintro⟨c,d,a,b,e,h2⟩;exact⟨(c,d),mem_pairs.2 ⟨a,b,e⟩,h2⟩
theorem shortest_nopair (h: ∀c d,g.isPair c d=false):g.shortest=none:=by
 rw[shortest_none];intro r _ _;cases hr:g.atRest r
 ·rfl
 ·obtain⟨c,d,_,_,h3,_⟩:=atRest_iff.1 hr;rw[h c d]at h3;exact absurd h3 (by decide)
theorem nopair_of_late (h: ∀a∈g.all,g.lat a=false) (c d:Nat):g.isPair c d=false:=by
 have:g.laM d=0:=zjq h d _;simp[isPair,this]
theorem ac_mem {i:Nat} (h:i<g.all.length):g.ac i∈g.all:=by
 unfold ac;rw[List.getD_eq_getElem?_getD,zI h];exact List.getElem_mem h
theorem ends_lat (g:Gr) (e f:Acc->Bool): ∀(r goal c m:Nat),({ g with ear:=e,lat:=f }:Gr).ends r goal c m=g.ends r goal c m
 | 0,_,_,_=>rfl
 | 1,_,_,_=>rfl
 | r+2,goal,c,m=>by
   rw[ends,ends]
   congr 1;funext d
   rw[ends_lat g e f (r+1)]
   congr 1;congr 1;congr 1;funext x
   rw[ends_lat g e f r];rfl
end Gr
theorem zk8 {kd:Int} {rel w:Bool} (h:lateM 1 kd rel w=true):lateM 2 kd rel w=true:=by
 cases w<;>simp[lateM]at h⊢
 exact h
theorem zoJ (kd:Int) (rel w:Bool):lateM 0 kd rel w=false:=by cases w<;>simp[lateM]
theorem zjI (p:Prog) (m1 m2:Int) (r goal c m:Nat):(grM p m1).ends r goal c m=(grM p m2).ends r goal c m:=
 (Gr.ends_lat (grM p m2) (grM p m1).ear (grM p m1).lat r goal c m)
theorem zf4 (p:Prog) (h:(grM p 2).shortest=none):(grM p 1).shortest=none:=by
 rw[Gr.shortest_none]at h⊢;intro r h1 h2;have:=h r h1 h2;cases hr:(grM p 1).atRest r
 ·rfl
 ·obtain⟨c,d,k1,k2,k3,k4⟩:=Gr.atRest_iff.1 hr;obtain⟨i1,i2,i3,i4,i5⟩:=Gr.isPair_iff.1 k3;have hs:zmc ((grM p 1).laM d) ((grM p 2).laM d):=Gr.maskF_mono (g:=grM p 1) (fun a _ ha=>zk8 ha) d _;rw[show(grM p 2).atRest r=true from Gr.atRest_iff.2 ⟨c,d,k1,k2,Gr.isPair_iff.2 ⟨i1,hs.ne i2,i3,i4,zdR (fun _ h=>h) hs (fun _ _ _ h=>h) i5⟩,by rw[zjI p 2 1];exact k4⟩]at this;exact this
theorem zks (p:Prog):(grM p 0).shortest=none:=Gr.shortest_nopair (Gr.nopair_of_late fun a _=>zoJ _ _ _)
end Rg
end
section
namespace Rg
open Go
theorem zqV {x:Nat} (hx:x<2^64):(BitVec.ofInt 64 (x:Int)).toNat=x:=by simp[BitVec.toNat_ofInt];omega
theorem zj2 {x:Nat} (hx:x<2^64):IntKind.u64.wrap (x:Int)=(x:Int):=by
 unfold IntKind.wrap;simp[IntKind.bits,IntKind.signed];omega
theorem zpd {a b:Nat} (ha:a<2^64) (hb:b<2^64):IntKind.u64.wrap ((BitVec.ofInt IntKind.u64.bits (a:Int) ||| BitVec.ofInt IntKind.u64.bits (b:Int)).toNat:Int)=((a ||| b:Nat):Int):=by
 show IntKind.u64.wrap ((BitVec.ofInt 64 (a:Int) ||| BitVec.ofInt 64 (b:Int)).toNat:Int)=_;rw[BitVec.toNat_or,zqV ha,zqV hb,zj2 (Nat.or_lt_two_pow ha hb)]
theorem zmo {i:Nat} (h:i<64):(if(i:Int)<0 then none else some (T.int .u64 (IntKind.u64.wrap (1*2^min i 64))))=some (T.int .u64 ((1<<< i:Nat):Int)):=by
 rw[if_neg (by omega),Nat.min_eq_left (by omega)];have e:(1*2^i:Int)=((1<<< i:Nat):Int):=by rw[Nat.one_shiftLeft];push_cast;omega
 rw[e,zj2 (by rw[Nat.one_shiftLeft];exact Nat.pow_lt_pow_right (by omega) h)]
theorem one_lt {i:Nat} (h:i<64):1<<< i<2^64:=by rw[Nat.one_shiftLeft];exact Nat.pow_lt_pow_right (by omega) h
def arr (l:List Nat):List V:=l.map fun x:Nat=> .t (.int .u64 x)
theorem zbb (l:List Nat):(arr l).length=l.length:=by simp[arr]
theorem zhq {l:List Nat} {i x:Nat} (h:l[i]? =some x):List.take 1 (List.drop i (arr l))=[.t (.int .u64 x)]:=zpE _ h
theorem zi8 {l:List Nat} {i:Nat} (h:i<l.length) (x:Nat):List.take i (arr l)++[.t (.int .u64 x)]++List.drop (i+1) (arr l)=arr (l.set i x):=by
 rw[List.set_eq_take_append_cons_drop,if_pos h];simp[arr]
theorem zij (h:Nat->Option O) (d:Nat) (l:List Nat):(arr l).mapM (toT h d)=some (l.map fun x:Nat=>T.int .u64 x):=by
 refine zbd _ _ _ (fun i a ha=> ?_) (by simp[arr]);simp only[arr,zJ,zE]at ha⊢;obtain⟨x,hx,rfl⟩:=ha;exact⟨.int .u64 x,⟨x,hx,rfl⟩,by cases d<;>rfl⟩
def IsS (g:Nat) (P:Step->Bool):Prop:= ∀s:Step,Den Γ G g [(.agg [.t (ti (s).kind),.t (ti (s).fr),.t (ti (s).to),.t (ti ((s).guard).op),.t (ti ((s).guard).w),.t (ti ((s).guard).n),.t (.sl (((s).guard).kids.map Expr.enc)),.t (.sl ((s).set.map Assign.enc)),.t (tb (s).release),.t (ti (s).target),.t (ti (s).module)])]=some (vb (P s))
theorem zjT:IsS 312 (fun _=>true):=by
 intro s
 (refine den_ofY Γ312 rfl ?_;dsimp only[zrE])
 simp -dsimp only[go_sem,seval]
theorem zjS:IsS 313 innerM:=by
 intro s
 (refine den_ofY Γ313 rfl ?_;dsimp only[zrD])
 simp -dsimp only[go_sem,seval]
 repeat'(refine csplit (fun h=> ?_) (fun h=> ?_)<;>(try simp only[zab]at h)<;>(try simp -dsimp only[go_sem,seval, *]))
 all_goals(simp_all [innerM])
def maskSN (f:Step->Bool) (l:List Step) (j:Nat):Nat:=((l.zipIdx).take j).foldl (fun m q=>if f q.1 then m ||| 1<<< q.2 else m) 0
theorem zipI_get {α:Type} {l:List α} {i:Nat} {x:α} (h:l[i]? =some x):l.zipIdx[i]? =some (x,i):=by
 rw[List.getElem?_zipIdx,h];simp
theorem zeK {f:Step->Bool} {l:List Step} {j:Nat} {s:Step} (h:l[j]? =some s):maskSN f l (j+1)=if f s then maskSN f l j ||| 1<<< j else maskSN f l j:=by
 unfold maskSN;rw[zae (zipI_get h),List.foldl_append];rfl
theorem zfz (f:Step->Bool) (l:List Step):maskSN f l l.length=maskS f l:=by
 unfold maskSN maskS;rw[List.take_of_length_le (by simp)]
theorem maskSN_lt {f:Step->Bool} {l:List Step} (hl:l.length<=64): ∀j,j<=l.length->maskSN f l j<2^64
 | 0,_=>by simp[maskSN]
 | j+1,h=>by
   obtain⟨s,hs,_⟩:=zaf (show j<l.length by omega);rw[zeK hs];have:=maskSN_lt (f:=f) hl j (by omega);split
   ·exact Nat.or_lt_two_pow this (one_lt (by omega))
   ·exact this
def pad (r:List Nat):List Nat:=r++List.replicate (64-r.length) 0
theorem zf9 {r:List Nat} (h:r.length<=64):(pad r).length=64:=by simp[pad];omega
theorem pad_at {r:List Nat} {i x:Nat} (h:r[i]? =some x):(pad r)[i]? =some x:=by
 have:=(zH.1 h).1;rw[pad,List.getElem?_append_left this];exact h
theorem zoA {r:List Nat} {i x:Nat} (h:i<r.length):(pad r).set i x=pad (r.set i x):=by
 simp only[pad,List.length_set];rw[List.set_append_left _ _ h]
theorem zmR {r:List Nat} {i x:Nat} (hr:r.length<=64) (h:r[i]? =some x):(pad (r.take i)).set i x=pad (r.take (i+1)):=by
 have hi:=(zH.1 h).1;rw[zae h];have hl:(r.take i).length=i:=by simp;omega
 simp only[pad,List.length_append,hl,List.length_cons,List.length_nil];rw[List.set_append_right _ _ (by omega),hl,Nat.sub_self,show 64-i=(64-(i+1))+1 by omega,List.replicate_succ];simp
theorem zmQ {r:List Nat} {i:Nat} (hr:r.length<=64) (h:i<r.length):(pad (r.take i))[i]? =some 0:=by
 have hl:(r.take i).length=i:=by simp;omega
 simp only[pad];rw[List.getElem?_append_right (by omega),hl,Nat.sub_self];rw[List.getElem?_replicate,if_pos (by omega)]
theorem zix {l:List Nat} {i x:Nat} (h:l[i]? =some x):l.set i x=l:=by
 obtain⟨hi,rfl⟩:=zH.1 h;exact List.set_getElem_self hi
theorem set_at {l:List Nat} {i x y:Nat} (h:l[i]? =some x):(l.set i y)[i]? =some y:=by
 have:=(zH.1 h).1;simp[this]
theorem zcU (l:List Step):(reach0 l).length=l.length:=by simp[reach0]
theorem zbo (k:Nat) (r:List Nat):(reachS k r).length=r.length:=by simp[reachS]
theorem zdh {inner:Step->Bool} {l:List Step} {k:Nat} {s:Step} (h:l[k]? =some s):reachN inner l (k+1)=if inner s then reachS k (reachN inner l k)else reachN inner l k:=by
 unfold reachN;rw[zae (zipI_get h),List.foldl_append];rfl
theorem zb2 (inner:Step->Bool) (l:List Step): ∀k,k<=l.length->(reachN inner l k).length=l.length
 | 0,_=>by simp[reachN,reach0]
 | k+1,h=>by
   obtain⟨s,hs,_⟩:=zaf (show k<l.length by omega);rw[zdh hs];have:=zb2 inner l k (by omega);split
   ·rw[zbo];exact this
   ·exact this
theorem zeC {inner:Step->Bool} {l:List Step} (hl:l.length<=64): ∀k,k<=l.length-> ∀x∈reachN inner l k,x<2^64
 | 0,_,x,hx=>by
   simp only[reachN,List.take_zero,List.foldl_nil,reach0,List.mem_map]at hx;obtain⟨s,_,rfl⟩:=hx
   rw[<- zfz];exact maskSN_lt hl _ (Nat.le_refl _)
 | k+1,h,x,hx=>by
   obtain⟨s,hs,_⟩:=zaf (show k<l.length by omega);rw[zdh hs]at hx;have ih:=zeC (inner:=inner) hl k (by omega);split at hx
   ·simp only[reachS,List.mem_map]at hx;obtain⟨y,hy,rfl⟩:=hx;split
    ·refine Nat.or_lt_two_pow (ih y hy) ?_;rw[List.getD_eq_getElem?_getD]
     cases hq:(reachN inner l k)[k]? with
     | none=>simp
     | some q=>exact ih q (List.mem_of_getElem? hq)
    ·exact ih y hy
   ·exact ih x hx
def mixS (k:Nat) (r:List Nat) (i:Nat):List Nat:=(reachS k r).take i++r.drop i
theorem zmY {k:Nat} {r:List Nat} {i:Nat} (h:i<=r.length):(mixS k r i).length=r.length:=by simp[mixS,zbo];omega
theorem mixS_at {k:Nat} {r:List Nat} {i x:Nat} (h:r[i]? =some x):(mixS k r i)[i]? =some x:=by
 have hi:=(zH.1 h).1;have hl:((reachS k r).take i).length=i:=by simp[zbo];omega
 rw[mixS,List.getElem?_append_right (by omega),hl,Nat.sub_self,List.getElem?_drop];simpa using h
theorem mixS_k {k:Nat} {r:List Nat} {i x:Nat} (hi:i<=r.length) (h:r[k]? =some x):(mixS k r i)[k]? =some x:=by
 have hl:((reachS k r).take i).length=i:=by simp[zbo];omega
 rcases Nat.lt_or_ge k i with h1 | h1
 ·rw[mixS,List.getElem?_append_left (by omega),List.getElem?_take,if_pos h1,reachS,zJ,h];simp only[Option.map_some,List.getD_eq_getElem?_getD,h,Option.getD_some,Nat.or_self];split<;>rfl
 ·rw[mixS,List.getElem?_append_right (by omega),hl,List.getElem?_drop,show i+(k-i)=k by omega];exact h
theorem zkY {k:Nat} {r:List Nat} {i x y:Nat} (hx:r[i]? =some x) (hy:r[k]? =some y):mixS k r (i+1)=(mixS k r i).set i (if x.testBit k then x ||| y else x):=by
 have hi:=(zH.1 hx).1;have hl:((reachS k r).take i).length=i:=by simp[zbo];omega
 have he:(reachS k r)[i]? =some (if x.testBit k then x ||| y else x):=by
  simp only[reachS,zJ,hx,Option.map_some,List.getD_eq_getElem?_getD,hy,Option.getD_some]
 rw[mixS,zae he,mixS,List.set_append_right _ _ (by omega),hl,Nat.sub_self,zba hx];simp
theorem zkX (k:Nat) (r:List Nat):mixS k r 0=r:=by simp[mixS]
theorem zmZ (k:Nat) (r:List Nat):mixS k r r.length=reachS k r:=by
 simp[mixS,zbo];exact List.take_of_length_le (by simp[zbo])
theorem zpx {a i:Nat} (hi:i<=64):(((a>>> i&&& 1:Nat):Int)=1)=(a.testBit i=true):=by
 rw[Nat.testBit,Nat.and_comm];simp only[Nat.one_and_eq_mod_two,bne_iff_ne,ne_eq,eq_iff_iff];omega
theorem u_shrlt {a i:Nat} (h:a<2^64):a>>> i<2^64:=Nat.lt_of_le_of_lt (Nat.shiftRight_le _ _) h
set_option maxHeartbeats 2000000
theorem zgT (g:Nat) (inner:Step->Bool) (hg:IsS g inner) (l:List Step) (hl:l.length<=64):Den Γ G 311 [.t (.sl (l.map Step.enc)),.t (.fn g [] [])]=some (.agg (arr (reachM inner l))):=by
 (refine den_ofY Γ311 rfl ?_;dsimp only[zrF])
 simp -dsimp only[go_sem,seval];have hz: ∀i,i<=l.length->((reach0 l).take i).length<=64:=fun i hi=>by simp;omega
 refine zaz 2199023223776 l.length (fun i f=>(f 15).v=vi i/\(f 5).v= .lb/\(f 5).box=some (arr (pad ((reach0 l).take i)))) rfl rfl ⟨by simp -dsimp only[go_sem,seval],by simp -dsimp only[go_sem,seval],by simp -dsimp only[go_sem,seval];rfl⟩ ?_;rintro i f u kk bb hi ⟨h15,hv,h5⟩;have hw:=zah i (by omega);simp -dsimp only[go_sem,seval,h15];refine csplit (fun h=> ?_) (fun h=> ?_)<;>(try rw[h])<;>(try simp only[zab]at h)<;>(try simp -dsimp only[go_sem,seval,h15])
 ·obtain⟨x,hx,_⟩:=zaf ‹i<l.length›;simp -dsimp only[go_sem,seval,h15,hx];have hr0:(reach0 l)[i]? =some (maskS (fun y=>decide (x.to=y.fr)) l):=by simp only[reach0,zJ,hx,Option.map_some]
  have hzi:=zmQ (r:=reach0 l) (by rw[zcU];exact hl) (i:=i) (by rw[zcU];assumption);have hpl:=zf9 (hz i hi);refine zaz 1099507434272 l.length (fun j f=>(f 22).v=vi j/\(f 5).v= .lb/\(f 5).box=some (arr ((pad ((reach0 l).take i)).set i (maskSN (fun y=>decide (x.to=y.fr)) l j)))) rfl rfl ⟨by simp -dsimp only[go_sem,seval],by simp -dsimp only[go_sem,seval,hv],by simp -dsimp only[go_sem,seval,h5];rw[show maskSN (fun y=>decide (x.to=y.fr)) l 0=0 from rfl,zix hzi]⟩ ?_;rintro j f2 u2 kk2 bb2 hj ⟨h22,hv2,h25⟩;have hw2:=zah j (by omega);simp -dsimp only[go_sem,seval,h22];refine csplit (fun h=> ?_) (fun h=> ?_)<;>(try rw[h])<;>(try simp only[zab]at h)<;>(try simp -dsimp only[go_sem,seval,h22])
  ·obtain⟨y,hy,_⟩:=zaf ‹j<l.length›;have hsucc:=zeK (f:=fun y=>decide (x.to=y.fr)) hy;simp -dsimp only[go_sem,seval,h22,hy];refine csplit (fun h=> ?_) (fun h=> ?_)<;>(try rw[h])<;>(try simp only[zab]at h)<;>(try simp -dsimp only[go_sem,seval,h22])
   ·have hat:=zhq (set_at (y:=maskSN (fun y=>decide (x.to=y.fr)) l j) hzi);have hal:(arr ((pad ((reach0 l).take i)).set i (maskSN (fun y=>decide (x.to=y.fr)) l j))).length=64:=by rw[zbb,List.length_set,hpl]
    have hs1:=zmo (i:=j) (by omega);have ho:=zpd (maskSN_lt (f:=fun y=>decide (x.to=y.fr)) hl j hj) (one_lt (i:=j) (by omega));have hwr:=zi8 (l:=(pad ((reach0 l).take i)).set i (maskSN (fun y=>decide (x.to=y.fr)) l j)) (i:=i) (by rw[List.length_set,hpl];omega) (maskSN (fun y=>decide (x.to=y.fr)) l j ||| 1<<< j);rw[List.set_set]at hwr;rw[if_pos (by simpa using h)]at hsucc;have hi64:((i:Int)<64)=True:=by simp;omega
    have hi63:(i<=63)=True:=by simp;omega
    have hm1:i*1=i:=by omega
    simp -dsimp only[go_sem,seval,h22,h25,hv2,hat,hs1,ho,hal,hi64,hi63,hm1];refine⟨by omega,by simp -dsimp only[go_sem,seval,h22,hw2],by simp -dsimp only[go_sem,seval,hv2],?_⟩;simp -dsimp only[go_sem,seval,hsucc];exact hwr
   ·refine⟨by omega,by simp -dsimp only[go_sem,seval,h22,hw2],by simp -dsimp only[go_sem,seval,hv2],?_⟩;rw[if_neg (by simpa using h)]at hsucc;simp -dsimp only[go_sem,seval,h25];rw[hsucc]
  ·have:j=l.length:=by omega
   subst this;rw[zfz,zmR (by rw[zcU];exact hl) hr0]at h25;simp -dsimp only[go_sem,seval,h15,hw];refine⟨by omega,by simp -dsimp only[go_sem,seval,h15,hw],by simp -dsimp only[go_sem,seval,hv2],by simp -dsimp only[go_sem,seval,h25]⟩
 ·have hil:i=l.length:=by omega
  subst hil;have e0:(reach0 l).take l.length=reachN inner l 0:=by rw[List.take_of_length_le (by rw[zcU];exact Nat.le_refl _)];rfl
  rw[e0]at h5;clear h15 h hi hz hw e0;refine zaz 18889465922682487839776 l.length (fun k f=>(f 43).v=vi k/\(f 5).v= .lb/\(f 5).box=some (arr (pad (reachN inner l k)))) rfl rfl ⟨by simp -dsimp only[go_sem,seval],by simp -dsimp only[go_sem,seval,hv],by simp -dsimp only[go_sem,seval,h5]⟩ ?_;rintro k f3 u3 kk3 bb3 hk ⟨h43,hv3,h35⟩;have hw3:=zah k (by omega);simp -dsimp only[go_sem,seval,h43];refine csplit (fun h=> ?_) (fun h=> ?_)<;>(try rw[h])<;>(try simp only[zab]at h)<;>(try simp -dsimp only[go_sem,seval,h43])
  ·obtain⟨x,hx,_⟩:=zaf ‹k<l.length›;have hgx:=hg x;have hrs:=zdh (inner:=inner) hx;have hRl:=zb2 inner l k hk;have hRb:=zeC (inner:=inner) hl k hk;simp -dsimp only[go_sem,seval,h43,hx,hgx];refine csplit (fun h=> ?_) (fun h=> ?_)<;>(try rw[h])<;>(try simp only[zab]at h)<;>(try simp -dsimp only[go_sem,seval,h43])
   ·refine⟨by omega,by simp -dsimp only[go_sem,seval,h43,hw3],by simp -dsimp only[go_sem,seval,hv3],?_⟩;rw[if_neg (by simpa using h)]at hrs;simp -dsimp only[go_sem,seval,h35];rw[hrs]
   ·rw[if_pos (by simpa using h)]at hrs
    generalize reachN inner l k=R at hRl hRb h35 hrs
    refine zaz 9444714951340780949536 l.length (fun i f=>(f 54).v=vi i/\(f 5).v= .lb/\(f 5).box=some (arr (pad (mixS k R i)))) rfl rfl ⟨by simp -dsimp only[go_sem,seval],by simp -dsimp only[go_sem,seval,hv3],by simp -dsimp only[go_sem,seval,h35];rw[zkX]⟩ ?_;rintro i f4 u4 kk4 bb4 hi ⟨h54,hv4,h45⟩;have hw4:=zah i (by omega);simp -dsimp only[go_sem,seval,h54];refine csplit (fun h=> ?_) (fun h=> ?_)<;>(try rw[h])<;>(try simp only[zab]at h)<;>(try simp -dsimp only[go_sem,seval,h54])
    ·obtain⟨a,ha,ham⟩:=zaf (show i<R.length by omega);obtain⟨b,hb,hbm⟩:=zaf (show k<R.length by omega);have hsu:=zkY ha hb;have hml:=zmY (k:=k) (r:=R) (i:=i) (by omega);have hat:=zhq (pad_at (mixS_at (k:=k) ha));have hbt:=zhq (pad_at (mixS_k (i:=i) (by omega) hb));have hal:(arr (pad (mixS k R i))).length=64:=by rw[zbb,zf9 (by omega)]
     have hi64:((i:Int)<64)=True:=by simp;omega
     have hk64:((k:Int)<64)=True:=by simp;omega
     have hi63:(i<=63)=True:=by simp;omega
     have hk63:(k<=63)=True:=by simp;omega
     have hm1:i*1=i:=by omega
     have hk1:k*1=k:=by omega
     have hs:=zpw a k (by omega);have h1:=znQ (u_shrlt (i:=k) (hRb a ham));have hb1:=zpx (a:=a) (i:=k) (by omega);have ho:=zpd (hRb a ham) (hRb b hbm);simp -dsimp only[go_sem,seval,h54,hv4,h45,hat,hal,hi64,hi63,hm1,h43,hs,h1,hb1];refine csplit (fun h=> ?_) (fun h=> ?_)<;>(try rw[h])<;>(try simp only[zab]at h)<;>(try simp -dsimp only[go_sem,seval,h54])
     ·rw[if_pos (by simpa using h)]at hsu;have hwr:=zi8 (l:=pad (mixS k R i)) (i:=i) (by rw[zf9 (by omega)];omega) (a ||| b);rw[zoA (by omega)]at hwr;simp -dsimp only[go_sem,seval,h54,hv4,h45,hat,hbt,hal,hi64,hi63,hm1,hk64,hk63,hk1,h43,ho];refine⟨by omega,by simp -dsimp only[go_sem,seval,h54,hw4],by simp -dsimp only[go_sem,seval,hv4],?_⟩;simp -dsimp only[go_sem,seval,hsu];exact hwr
     ·rw[if_neg (by simpa using h)]at hsu;refine⟨by omega,by simp -dsimp only[go_sem,seval,h54,hw4],by simp -dsimp only[go_sem,seval,hv4],?_⟩;simp -dsimp only[go_sem,seval,h45];rw[hsu,zix (mixS_at ha)]
    ·have hil:i=R.length:=by omega
     subst hil;rw[zmZ,<- hrs]at h45;simp -dsimp only[go_sem,seval,h43];exact⟨by omega,by simp -dsimp only[go_sem,seval,hw3],by simp -dsimp only[go_sem,seval,hv4],by simp -dsimp only[go_sem,seval,h45]⟩
  ·have hkl:k=l.length:=by omega
   subst hkl;have e:pad (reachN inner l l.length)=reachM inner l:=by rw[pad,zb2 _ _ _ (Nat.le_refl _)];rfl
   rw[e]at h35;have hal:(arr (reachM inner l)).length=64:=by rw[<- e,zbb,zf9 (by rw[zb2 _ _ _ (Nat.le_refl _)];exact hl)]
   have htk:List.take 64 (arr (reachM inner l))=arr (reachM inner l):=List.take_of_length_le (by omega);have htt:=zij (fun _=>none) 1000 (reachM inner l);simp -dsimp only[go_sem,seval,hv3,h35,hal,htk,htt];simp[arr]
theorem reachM_len (inner:Step->Bool) {l:List Step} (hl:l.length<=64):(reachM inner l).length=64:=by
 rw[reachM,List.length_append,zb2 _ _ _ (Nat.le_refl _),List.length_replicate];omega
theorem zkA (inner:Step->Bool) {l:List Step} (hl:l.length<=64): ∀x∈reachM inner l,x<2^64:=by
 intro x hx;rcases List.mem_append.1 hx with h | h
 ·exact zeC hl _ (Nat.le_refl _) x h
 ·rw[(List.mem_replicate.1 h).2];omega
end Rg
end
section
set_option maxRecDepth 100000
namespace Rg
open Go
structure Prog.lite7 (p:Prog):Prop where
 cname: ∀c∈p.cells,c.name.size<2^50
 mname: ∀m∈p.modules,m.name.size<2^50/\m.owner.size<2^50
 tname: ∀t∈p.threads,t.name.size<2^50
structure Prog.SmallP (p:Prog) (L:Int):Prop where
 cells:p.cells.length<=40
 modules:p.modules.length<=10
 locks:p.locks.length<=10
 threads:p.threads.length<=8
 mods: ∀m∈p.modules,m.frame.length<=60/\(m.rely.size:Int)<=L/\(m.guar.size:Int)<=L
 lcks: ∀l∈p.locks,(l.inv.size:Int)<=L
 thr: ∀t∈p.threads,t.asserts.length<=60/\t.modules.length<=60/\t.steps.length<=80/\t.loops.length<=12/\(∀e∈t.asserts,(e.size:Int)<=L)
 steps: ∀t∈p.threads,∀s∈t.steps,s.set.length<=40/\(s.guard.size:Int)<=L/\ ∀a∈s.set,(a.to.size:Int)<=L
 loops: ∀t∈p.threads,∀l∈t.loops,l.body.length<=60/\(l.variant.size:Int)<=L
theorem Prog.SmallP.sane {L:Int} {p:Prog} (hl:p.lite7) (h:p.SmallP L):p.sane:=by
 have h1:=h.cells;have h2:=h.modules;have h3:=h.locks;have h4:=h.threads;refine⟨by omega,by omega,by omega,by omega,hl.cname,?_,?_,?_,?_⟩
 ·intro m hm;have:=h.mods m hm;exact⟨(hl.mname m hm).1,(hl.mname m hm).2,by omega⟩
 ·intro t ht;have:=h.thr t ht;exact⟨hl.tname t ht,by omega,by omega,by omega,by omega⟩
 ·intro t ht s hs;have:=(h.steps t ht s hs).1;omega
 ·intro t ht l hl;have:=(h.loops t ht l hl).1;omega
end Rg
end
section
namespace Rg
open Go
end Rg
end
